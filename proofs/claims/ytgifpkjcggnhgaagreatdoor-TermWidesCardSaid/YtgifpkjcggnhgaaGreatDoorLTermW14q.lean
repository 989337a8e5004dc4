/- Parts of the proof of the law that the last file states; declarations that nothing mentions are left out by a program. No conditions. -/
import Derived.Test.YtgifpkjcggnhgaaGreatDoorLTermW11q
import Derived.Test.YtgifpkjcggnhgaaGreatDoorLTermW13q
set_option linter.unusedVariables false
set_option linter.unusedSimpArgs false
namespace Go.Proofs.YtgifpkjcggnhgaaGreatDoorL
open Go Go.RowKit Go.Proofs.YtgifpkjcggnhgaaGreatDoorW.PrintWords
theorem indexB_nonneg (l : List UInt8) (c : UInt8) : Lib.indexByte l c = -1 ∨ 0 ≤ Lib.indexByte l c := by
  have := Lib.indexByte_ge l c
  omega
theorem cut_one (c : UInt8) : ∀ l : List UInt8, Lib.cut l [c] = cutAtB c l
  | [] => rfl
  | b :: l => by
    have ih := cut_one c l
    unfold Lib.cut at ih ⊢
    rw [Lib.index_one] at ih ⊢
    unfold cutAtB
    by_cases h : b = c
    · subst h
      have e : Lib.indexByte (b :: l) b = 0 := by unfold Lib.indexByte; simp
      rw [e, if_pos (Int.le_refl 0), if_pos rfl]
      rfl
    · rw [if_neg h]
      have hbc : (b == c) = false := beq_eq_false_iff_ne.2 h
      rcases indexB_nonneg l c with h1 | h1
      · have e : Lib.indexByte (b :: l) c = -1 := by unfold Lib.indexByte; rw [hbc, h1]; rfl
        rw [h1, if_neg (by decide)] at ih
        rw [e, if_neg (by decide), ← ih]
      · have e : Lib.indexByte (b :: l) c = Lib.indexByte l c + 1 := by
          show (if (b == c) = true then (0 : Int) else if (Lib.indexByte l c == -1) = true then -1 else Lib.indexByte l c + 1) = _
          have : (Lib.indexByte l c == -1) = false := beq_eq_false_iff_ne.2 (by omega)
          rw [hbc, this]
          rfl
        rw [if_pos h1] at ih
        rw [e, if_pos (by omega), ← ih]
        obtain ⟨i, hi⟩ : ∃ i : Nat, Lib.indexByte l c = i := ⟨(Lib.indexByte l c).toNat, by omega⟩
        rw [hi]
        have e2 : ((i : Int) + 1).toNat = i + 1 := by omega
        rw [e2, Int.toNat_natCast]
        rfl
theorem cutAtB_len (c : UInt8) : ∀ l : List UInt8, (cutAtB c l).1.length ≤ l.length ∧ (cutAtB c l).2.1.length ≤ l.length
  | [] => ⟨Nat.le_refl _, Nat.le_refl _⟩
  | b :: l => by
    have ih := cutAtB_len c l
    unfold cutAtB
    split
    · exact ⟨Nat.zero_le _, by simp⟩
    · exact ⟨by simp; exact ih.1, by simp; omega⟩
theorem nil_iff (l : List UInt8) : (⟨l.toArray⟩ : ByteArray).toList = [] ↔ l = [] := by
  rw [Lib.toList_data]
set_option maxRecDepth 100000 in
set_option maxHeartbeats 4000000 in
theorem home_calls {P : Nat → Prop} {w : World} {T M : Nat} {s : Tm} (h : TermAt P w T s) (hok : OKT M s) (hT : TabsT w) (q : ByteArray) (hq : q.size ≤ 1000) :
    Calls Tryz.prog 50 #[.pointer (some ⟨T, 0, none⟩), .string q] w fun e w' => e = .returned (.tuple #[]) ∧ TermAt P w' T (s.home q.data.toList) ∧ Only P w w' := by
  obtain ⟨m, hm⟩ := hT.m
  have hcl := cutAtB_len 59 q.data.toList
  rw [← Lib.size_eq] at hcl
  have XC := Hd.mk (Tryz.strings_Cut q ⟨#[59]⟩ m w (by omega) hm)
  rw [cut_one 59 q.data.toList] at XC
  have hhome : s.home q.data.toList = if q.data.toList ≠ [] ∧ ((cutAtB 59 q.data.toList).2.2 = false ∨ (numberP (cutAtB 59 q.data.toList).1).2 = false ∨ (numberP (cutAtB 59 q.data.toList).2.1).2 = false ∨ (cutAtB 59 q.data.toList).1 = [] ∨ (cutAtB 59 q.data.toList).2.1 = []) then s else s.to_ ((max (numberP (cutAtB 59 q.data.toList).1).1 1 : Nat) - 1 : Int) ((max (numberP (cutAtB 59 q.data.toList).2.1).1 1 : Nat) - 1 : Int) := rfl
  have hq0 : q.toList = q.data.toList := Lib.toList_data q
  generalize (cutAtB 59 q.data.toList).2.2 = is at *
  generalize (cutAtB 59 q.data.toList).2.1 = b at *
  generalize (cutAtB 59 q.data.toList).1 = a at *
  have HT := Hd.mk hT
  have H0 := Hd.mk h
  have HOK := Hd.mk hok
  have HH := Hd.mk hhome
  have hn1 := numberP_lt a
  have hn2 := numberP_lt b
  have XA := Hd.mk (fun w1 (hb : Below w.heap.size w w1) => number_calls ⟨a.toArray⟩ (by show a.toArray.size ≤ 1000; rw [List.size_toArray]; omega) w1 (HT.out.below hb))
  have XB := Hd.mk (fun w1 (hb : Below w.heap.size w w1) => number_calls ⟨b.toArray⟩ (by show b.toArray.size ≤ 1000; rw [List.size_toArray]; omega) w1 (HT.out.below hb))
  have XT := Hd.mk (fun w1 (hb : Below w.heap.size w w1) => to_calls (HOK.out |> fun _ => H0.out.below hb) ⟨HOK.out.r1, HOK.out.r2, HOK.out.c1, HOK.out.c2⟩ (((max (numberP a).1 1 : Nat) : Int) - 1) (((max (numberP b).1 1 : Nat) : Int) - 1))
  rw [HH.out]
  have ha := nil_iff a
  have hb := nil_iff b
  clear h hok hT hm hhome hcl
  obtain ⟨x, hx⟩ : ∃ x, numberP a = x := ⟨_, rfl⟩
  obtain ⟨y, hy⟩ : ∃ y, numberP b = y := ⟨_, rfl⟩
  have hda : (⟨a.toArray⟩ : ByteArray).data.toList = a := rfl
  have hdb : (⟨b.toArray⟩ : ByteArray).data.toList = b := rfl
  simp only [hda, hdb] at XA XB
  rw [hx] at XA XT hn1 ⊢
  rw [hy] at XB XT hn2 ⊢
  obtain ⟨x1, x2⟩ := x
  obtain ⟨y1, y2⟩ := y
  dsimp only at XA XB XT hn1 hn2 ⊢
  have hq1 : q.data.toList = [] ↔ q.toList = [] := by rw [hq0]
  generalize (⟨a.toArray⟩ : ByteArray) = A at *
  generalize (⟨b.toArray⟩ : ByteArray) = B at *
  clear hda hdb hx hy hq0 HH HT HOK
  rw [show (if q.data.toList ≠ [] ∧ (is = false ∨ x2 = false ∨ y2 = false ∨ a = [] ∨ b = []) then s else s.to_ (((max x1 1 : Nat) : Int) - 1) (((max y1 1 : Nat) : Int) - 1)) = (if ¬ q.toList = [] ∧ (is = false ∨ x2 = false ∨ y2 = false ∨ A.toList = [] ∨ B.toList = []) then s else s.to_ (((max x1 1 : Nat) : Int) - 1) (((max y1 1 : Nat) : Int) - 1)) by simp only [ha, hb, hq1, ne_eq]]
  obtain ⟨R, hR⟩ : ∃ R, (if ¬ q.toList = [] ∧ (is = false ∨ x2 = false ∨ y2 = false ∨ A.toList = [] ∨ B.toList = []) then s else s.to_ (((max x1 1 : Nat) : Int) - 1) (((max y1 1 : Nat) : Int) - 1)) = R := ⟨_, rfl⟩
  rw [hR]
  have HR := Hd.mk hR
  clear ha hb hq1 hR
  go_enter Tryz.func50, Tryz.ntmps50
  go_wp2_with fail
  go_at_call 60
  with_reducible refine XC.out.mono ?_
  rintro _ w1 ⟨rfl, nq, rfl⟩
  have HB := Hd.mk (pw_below_drewN (Below.refl w.heap.size w) nq)
  have XA2 := Hd.mk (XA.out _ HB.out)
  clear XC XA
  go_wp2_with fail
  go_at_call 49
  with_reducible refine XA2.out.mono ?_
  rintro _ w2 ⟨rfl, hb⟩
  have HB2 := Hd.mk (HB.out.trans (hb.mono HB.out.size))
  have XB2 := Hd.mk (XB.out _ HB2.out)
  clear hb HB XB XA2
  go_wp2_with fail
  go_at_call 49
  with_reducible refine XB2.out.mono ?_
  rintro _ w3 ⟨rfl, hb⟩
  have HB3 := Hd.mk (HB2.out.trans (hb.mono HB2.out.size))
  have XT2 := Hd.mk (XT.out _ HB3.out)
  clear hb HB2 XT XB2
  have m1 : max (x1 : Int) 1 = ((max x1 1 : Nat) : Int) := by omega
  have m2 : max (y1 : Int) 1 = ((max y1 1 : Nat) : Int) := by omega
  have m3 : ((max x1 1 : Nat) : Int) ≤ 1000 := by omega
  have m4 : ((max y1 1 : Nat) : Int) ≤ 1000 := by omega
  have m5 : (1 : Int) ≤ ((max x1 1 : Nat) : Int) := by omega
  have m6 : (1 : Int) ≤ ((max y1 1 : Nat) : Int) := by omega
  go_upto_region 3 with fail
  by_cases hq2 : q.toList = []
  · have hq3 : q.toList.isEmpty = true := by rw [hq2]; rfl
    have HE : Hd (R = s.to_ (((max x1 1 : Nat) : Int) - 1) (((max y1 1 : Nat) : Int) - 1)) := ⟨by rw [← HR.out, if_neg (fun h => h.1 hq2)]⟩
    have HB4 := HB3
    go_wp2_with fail
    go_at_call 32
    with_reducible refine XT2.out.mono ?_
    rintro _ w4 ⟨rfl, ht, ho⟩
    have HT := Hd.mk ht
    have HO := Hd.mk ((Only.of_below (F := P) HB4.out).trans ho (fun _ _ h => h))
    clear ht ho XT2
    go_wp2_with fail
    go_end0
    exact ⟨rfl, by rw [HE.out]; exact HT.out, HO.out⟩
  have hq3 : q.toList.isEmpty = false := by simpa using hq2
  cases is with
  | false =>
    have HE : Hd (R = s) := ⟨by rw [← HR.out, if_pos ⟨hq2, (.inl rfl)⟩]⟩
    go_wp2_with fail
    exact bodyPost_ret (results_none rfl _ _ _) rfl ⟨rfl, by rw [HE.out]; exact H0.out.below HB3.out, Only.of_below HB3.out⟩
  | true =>
  cases x2 with
  | false =>
    have HE : Hd (R = s) := ⟨by rw [← HR.out, if_pos ⟨hq2, (.inr (.inl rfl))⟩]⟩
    go_wp2_with fail
    exact bodyPost_ret (results_none rfl _ _ _) rfl ⟨rfl, by rw [HE.out]; exact H0.out.below HB3.out, Only.of_below HB3.out⟩
  | true =>
  cases y2 with
  | false =>
    have HE : Hd (R = s) := ⟨by rw [← HR.out, if_pos ⟨hq2, (.inr (.inr (.inl rfl)))⟩]⟩
    go_wp2_with fail
    exact bodyPost_ret (results_none rfl _ _ _) rfl ⟨rfl, by rw [HE.out]; exact H0.out.below HB3.out, Only.of_below HB3.out⟩
  | true =>
  by_cases ha2 : A.toList = []
  · have ha3 : A.toList.isEmpty = true := by rw [ha2]; rfl
    have HE : Hd (R = s) := ⟨by rw [← HR.out, if_pos ⟨hq2, .inr (.inr (.inr (.inl ha2)))⟩]⟩
    go_wp2_with fail
    exact bodyPost_ret (results_none rfl _ _ _) rfl ⟨rfl, by rw [HE.out]; exact H0.out.below HB3.out, Only.of_below HB3.out⟩
  have ha3 : A.toList.isEmpty = false := by simpa using ha2
  by_cases hb2 : B.toList = []
  · have hb3 : B.toList.isEmpty = true := by rw [hb2]; rfl
    have HE : Hd (R = s) := ⟨by rw [← HR.out, if_pos ⟨hq2, .inr (.inr (.inr (.inr hb2)))⟩]⟩
    go_wp2_with fail
    exact bodyPost_ret (results_none rfl _ _ _) rfl ⟨rfl, by rw [HE.out]; exact H0.out.below HB3.out, Only.of_below HB3.out⟩
  have hb3 : B.toList.isEmpty = false := by simpa using hb2
  have HE : Hd (R = s.to_ (((max x1 1 : Nat) : Int) - 1) (((max y1 1 : Nat) : Int) - 1)) := ⟨by rw [← HR.out, if_neg (fun h => by simp [ha2, hb2] at h)]⟩
  go_wp2_with fail
  go_at_call 32
  with_reducible refine XT2.out.mono ?_
  rintro _ w4 ⟨rfl, ht, ho⟩
  have HT := Hd.mk ht
  have HO := Hd.mk ((Only.of_below (F := P) HB3.out).trans ho (fun _ _ h => h))
  clear ht ho XT2
  go_wp2_with fail
  go_end0
  exact ⟨rfl, by rw [HE.out]; exact HT.out, HO.out⟩
end Go.Proofs.YtgifpkjcggnhgaaGreatDoorL

