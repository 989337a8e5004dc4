/- Parts of the proof of the law that the last file states; declarations that nothing mentions are left out by a program. No conditions. -/
import Derived.Test.YtgifpkjcggnhgaaGreatDoorLTermW12q
set_option linter.unusedVariables false
set_option linter.unusedSimpArgs false
namespace Go.Proofs.YtgifpkjcggnhgaaGreatDoorL
open Go Go.RowKit Go.Proofs.YtgifpkjcggnhgaaGreatDoorW.PrintWords
structure TabsT (w : World) : Prop where
  e : ∃ ev, w.cell? ⟨0, 0, none⟩ = some ev ∧ (ev = .nilIface ∨ ∃ te pe, ev = .iface te pe)
  m : ∃ m, w.cell? ⟨2, 0, none⟩ = some (.int .i64 m)
theorem cell_move {w w' : World} {a : Addr} {v : Value} (h : w.cell? a = some v) (hm : w'.heap[a.block]? = w.heap[a.block]?) : w'.cell? a = some v := by
  unfold World.cell? at h ⊢
  rw [hm]
  exact h
theorem TabsT.move {w w' : World} (h : TabsT w) (h1 : 0 < w.heap.size → w'.heap[0]? = w.heap[0]?) (h2 : 2 < w.heap.size → w'.heap[2]? = w.heap[2]?) : TabsT w' := by
  obtain ⟨⟨ev, he, hev⟩, m, hm⟩ := h
  exact ⟨⟨ev, cell_move he (h1 (Lib.lt_of_cell he)), hev⟩, m, cell_move hm (h2 (Lib.lt_of_cell hm))⟩
theorem TabsT.below {w w' : World} (h : TabsT w) (hb : Below w.heap.size w w') : TabsT w' := h.move (hb.block _) (hb.block _)
def OutT (P : Nat → Prop) : Prop := ¬ P 0 ∧ ¬ P 2
theorem TabsT.only {P : Nat → Prop} {w w' : World} (h : TabsT w) (hP : OutT P) (ho : Only P w w') : TabsT w' := h.move (fun hl => ho.block _ hl hP.1) (fun hl => ho.block _ hl hP.2)
def digitsB : ByteArray := ⟨#[48, 49, 50, 51, 52, 53, 54, 55, 56, 57]⟩
theorem digits_all : ∀ b : Fin 256, digitsB.data.toList.contains (UInt8.ofNat b.val) = digitB (UInt8.ofNat b.val) := by decide +kernel
theorem digits_has (b : UInt8) : digitsB.data.toList.contains b = digitB b := by
  have h := digits_all ⟨b.toNat, b.toNat_lt⟩
  simpa using h
theorem dropWhile_nil {α : Type} (p : α → Bool) : ∀ l : List α, l.dropWhile p = [] ↔ l.all p = true
  | [] => by simp
  | x :: l => by
    by_cases h : p x = true
    · rw [List.dropWhile_cons_of_pos h, dropWhile_nil p l, List.all_cons, h, Bool.true_and]
    · rw [List.dropWhile_cons_of_neg h]
      simp [h]
theorem dropWhile_all_nil {α : Type} (p : α → Bool) (l : List α) : (l.dropWhile p).all p = true ↔ l.all p = true := by
  induction l with
  | nil => simp
  | cons x l ih =>
    by_cases h : p x = true
    · rw [List.dropWhile_cons_of_pos h, ih, List.all_cons, h, Bool.true_and]
    · rw [List.dropWhile_cons_of_neg h]
theorem trimS_nil (l : List UInt8) : Lib.trimS l digitsB.data.toList = [] ↔ l.all digitB = true := by
  have e : (fun b => digitsB.data.toList.contains b) = digitB := funext digits_has
  unfold Lib.trimS Lib.trimLeftS Lib.trimRightS
  rw [e, dropWhile_nil, List.all_reverse, dropWhile_all_nil, List.all_reverse]
theorem decFrom_all : ∀ (l : List UInt8) (a : Nat), l.all digitB = true → Lib.decFrom a l = some (l.foldl (fun a x => 10 * a + (x.toNat - 48)) a)
  | [], a, _ => rfl
  | b :: l, a, h => by
    rw [List.all_cons, Bool.and_eq_true] at h
    have hb := h.1
    unfold digitB at hb
    rw [Bool.and_eq_true, decide_eq_true_eq, decide_eq_true_eq] at hb
    have hd : Lib.digitVal b = some (b.toNat - 48) := by unfold Lib.digitVal; rw [if_pos hb]
    unfold Lib.decFrom
    rw [hd]
    dsimp only
    rw [decFrom_all l _ h.2, List.foldl_cons, Nat.mul_comm]
theorem atoi_all (l : List UInt8) (h : l.all digitB = true) (hne : l ≠ []) : Lib.atoi l = some (numV l : Int) := by
  cases l with
  | nil => exact absurd rfl hne
  | cons b l =>
    have hb := h
    rw [List.all_cons, Bool.and_eq_true] at hb
    have hb := hb.1
    unfold digitB at hb
    rw [Bool.and_eq_true, decide_eq_true_eq, decide_eq_true_eq] at hb
    unfold Lib.atoi
    have h1 : (b == 45) = false := by
      rw [beq_eq_false_iff_ne]
      rintro rfl
      exact absurd hb.1 (by decide)
    have h2 : (b == 43) = false := by
      rw [beq_eq_false_iff_ne]
      rintro rfl
      exact absurd hb.1 (by decide)
    dsimp only
    rw [h1, h2]
    simp only [Bool.false_eq_true, if_false]
    unfold Lib.decNat
    rw [if_neg (by simp), decFrom_all _ _ h]
    rfl
theorem numV_bound : ∀ (l : List UInt8) (a : Nat), l.all digitB = true → l.foldl (fun a x => 10 * a + (x.toNat - 48)) a < (a + 1) * 10 ^ l.length
  | [], a, _ => by simp
  | b :: l, a, h => by
    rw [List.all_cons, Bool.and_eq_true] at h
    have hb := h.1
    unfold digitB at hb
    rw [Bool.and_eq_true, decide_eq_true_eq, decide_eq_true_eq] at hb
    rw [List.foldl_cons, List.length_cons, Nat.pow_succ]
    have h1 := numV_bound l (10 * a + (b.toNat - 48)) h.2
    refine Nat.lt_of_lt_of_le h1 ?_
    rw [Nat.mul_comm (10 ^ l.length) 10, ← Nat.mul_assoc]
    exact Nat.mul_le_mul_right _ (by omega)
theorem numberP_lt (l : List UInt8) : (numberP l).1 < 1000 := by
  unfold numberP
  split
  · rename_i h
    have h1 := numV_bound l 0 h.1
    have h2 : 10 ^ l.length ≤ 10 ^ 3 := Nat.pow_le_pow_right (by decide) h.2
    show numV l < 1000
    unfold numV
    omega
  · exact (by decide : 0 < 1000)
theorem trim_calls (q : ByteArray) (hq : q.size ≤ 1000) (w : World) : Calls Tryz.prog 58 #[.string q, .string digitsB] w fun e w' => (∃ t : ByteArray, e = .returned (.string t) ∧ (t = ⟨#[]⟩ ↔ q.data.toList.all digitB = true)) ∧ Below w.heap.size w w' := by
  refine (Any.strings_Trim_laid Tryz.lays160 (by kernel_rfl) q digitsB w (by omega) (by decide) (ascii_of_all (by decide))).mono ?_
  rintro _ w' ⟨rfl, hb⟩
  refine ⟨⟨_, rfl, ?_⟩, hb⟩
  rw [← trimS_nil]
  constructor
  · intro h
    have := congrArg (fun b : ByteArray => b.data.toList) h
    simpa using this
  · intro h
    rw [h]
theorem atoi_calls (q : ByteArray) (hq : q.size ≤ 3) (h : q.data.toList.all digitB = true) (w : World) (hT : TabsT w) : Calls Tryz.prog 59 #[.string q] w fun e w' => (∃ ev, e = .returned (.tuple #[.int .i64 (numV q.data.toList : Int), ev])) ∧ Below w.heap.size w w' := by
  by_cases hne : q.data.toList = []
  · obtain ⟨⟨ev, he, hev⟩, _⟩ := hT
    refine (Tryz.strconv_Atoi_err q (by omega) (by rw [hne]; rfl) ev w he hev).mono ?_
    rintro _ w' ⟨N, rfl, _, _, hb⟩
    exact ⟨⟨_, by rw [hne]; rfl⟩, hb⟩
  · refine (Tryz.strconv_Atoi q _ (by omega) (atoi_all _ h hne) w).mono ?_
    rintro _ w' ⟨rfl, t, rfl⟩
    exact ⟨⟨_, rfl⟩, Lib.bytesWorld_below ..⟩
set_option maxRecDepth 100000 in
set_option maxHeartbeats 4000000 in
theorem number_calls (q : ByteArray) (hq : q.size ≤ 1000) (w : World) (hT : TabsT w) : Calls Tryz.prog 49 #[.string q] w fun e w' => e = .returned (.tuple #[.int .i64 ((numberP q.data.toList).1 : Int), .bool (numberP q.data.toList).2]) ∧ Below w.heap.size w w' := by
  have XT := Hd.mk (trim_calls q hq w)
  have HT := Hd.mk hT
  have hlen : q.data.toList.length = q.size := (Lib.size_eq q).symm
  have HN : Hd (numberP q.data.toList = if q.data.toList.all digitB = true ∧ q.size ≤ 3 then (numV q.data.toList, true) else (0, false)) := ⟨by unfold numberP; rw [hlen]⟩
  have hdg : digitsB = ⟨#[48, 49, 50, 51, 52, 53, 54, 55, 56, 57]⟩ := rfl
  rw [hdg] at XT
  have XA := Hd.mk (fun h3 ha w1 hb => atoi_calls q h3 ha w1 (HT.out.below hb))
  clear hT hdg hlen
  rw [HN.out]
  have q1 : (q.size : Int) ≤ 1000 := by omega
  cases hall : q.data.toList.all digitB with
  | false =>
    rw [if_neg (by simp)]
    go_enter Tryz.func49, Tryz.ntmps49
    go_wp2_with fail
    go_at_call 58
    with_reducible refine XT.out.mono ?_
    rintro _ w1 ⟨⟨t, rfl, ht⟩, hb⟩
    rw [hall] at ht
    have hne : ¬ t.toList = [] := fun e => by
      have : t = ⟨#[]⟩ := by
        apply ByteArray.ext
        apply Array.toList_inj.1
        rw [← Lib.toList_data, e]
      exact absurd (ht.1 this) (by simp)
    have hne2 : t.toList.isEmpty = false := by simpa using hne
    have HB := Hd.mk hb
    clear ht hb XT XA HN hall
    go_wp2
    go_ret2
    exact ⟨rfl, HB.out⟩
  | true =>
    by_cases h3 : q.size ≤ 3
    · have XA2 := Hd.mk (XA.out h3 hall)
      rw [if_pos ⟨rfl, h3⟩]
      have q3 : ¬ (3 : Int) < (q.size : Int) := by omega
      have q4 : ¬ 3 < q.size := by omega
      clear XA HN
      go_enter Tryz.func49, Tryz.ntmps49
      go_wp2_with fail
      go_at_call 58
      with_reducible refine XT.out.mono ?_
      rintro _ w1 ⟨⟨t, rfl, ht⟩, hb⟩
      obtain rfl := ht.2 hall
      have XA3 := Hd.mk (XA2.out w1 hb)
      have HB := Hd.mk hb
      clear ht hb XT XA2 hall
      go_wp2_with fail
      go_at_call 59
      with_reducible refine XA3.out.mono ?_
      rintro _ w2 ⟨⟨ev, rfl⟩, hb⟩
      have HB2 := Hd.mk (HB.out.trans (hb.mono HB.out.size))
      clear hb HB XA3
      go_wp2
      go_ret2
      exact ⟨rfl, HB2.out⟩
    · rw [if_neg (fun h => h3 h.2)]
      have q3 : (3 : Int) < (q.size : Int) := by omega
      have q4 : 3 < q.size := by omega
      clear XA HN
      go_enter Tryz.func49, Tryz.ntmps49
      go_wp2_with fail
      go_at_call 58
      with_reducible refine XT.out.mono ?_
      rintro _ w1 ⟨⟨t, rfl, ht⟩, hb⟩
      obtain rfl := ht.2 hall
      have HB := Hd.mk hb
      clear ht hb XT hall
      go_wp2
      go_ret2
      exact ⟨rfl, HB.out⟩
end Go.Proofs.YtgifpkjcggnhgaaGreatDoorL

