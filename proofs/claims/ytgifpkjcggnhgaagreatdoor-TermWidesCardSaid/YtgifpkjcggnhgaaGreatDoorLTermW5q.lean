/- Parts of the proof of the law that the last file states; declarations that nothing mentions are left out by a program. No conditions. -/
import Derived.Test.YtgifpkjcggnhgaaGreatDoorLTermW4q
set_option linter.unusedVariables false
set_option linter.unusedSimpArgs false
namespace Go.Proofs.YtgifpkjcggnhgaaGreatDoorL
open Go Go.RowKit Go.Proofs.YtgifpkjcggnhgaaGreatDoorW.PrintWords
theorem onRow_id (s : Tm) (i : Nat) (f : List TC → List TC) (hf : ∀ r, f r = r) : s.onRow i f = s := by
  unfold Tm.onRow
  rw [show f = id from funext hf, List.modify_id]
theorem erase_step (s : Tm) (i j : Nat) (h : j < s.cols) : (s.put i j blankC).erase i (j + 1) = s.erase i j := by
  obtain ⟨d, hd⟩ : ∃ d, s.cols - j = d + 1 := ⟨s.cols - j - 1, by omega⟩
  unfold Tm.erase Tm.put
  rw [onRow_onRow, show (s.onRow i fun x => putR x j blankC).cols - (j + 1) = d by show s.cols - (j + 1) = d; omega, hd]
  rfl
theorem erase_none (s : Tm) (i j : Nat) (h : s.cols ≤ j) : s.erase i j = s := by
  unfold Tm.erase
  rw [show s.cols - j = 0 by omega]
  exact onRow_id s i _ (fun _ => rfl)
theorem put_len (s : Tm) (i j : Nat) (c : TC) : (s.put i j c).l.length = s.l.length := by
  unfold Tm.put Tm.onRow
  exact List.length_modify ..
theorem OKT.rowAt {M : Nat} {s : Tm} (h : OKT M s) {i : Nat} (hi : i < s.l.length) : OKrow s.cols M s.l[i] := h.rows _ (List.getElem_mem _)
theorem rowV_text : ∀ (l : List TC) (k : Nat) (u : ByteArray), k < l.length → (rowV l).set (k * 3) (.string u) = rowV (l.set k { getC l k with S := u })
  | [], k, u, h => by simp at h
  | c :: l, 0, u, h => rfl
  | c :: l, k + 1, u, h => by
    have h3 : (cV c).length = 3 := rfl
    rw [List.set_cons_succ, rowV, rowV, show (k + 1) * 3 = (cV c).length + k * 3 by rw [h3]; omega, List.set_append_right _ _ (Nat.le_add_right _ _), Nat.add_sub_cancel_left, rowV_text l k u (by simpa using h)]
    rfl
theorem RowAt.text_ {w : World} {r : RR} {l : List TC} (h : RowAt w r l) {k : Nat} (hk : k < l.length) (u : ByteArray) : RowAt (w.setCell ⟨r.g, k * 3, none⟩ (.string u)) r (l.set k { getC l k with S := u }) ∧ Only (· = r.g) w (w.setCell ⟨r.g, k * 3, none⟩ (.string u)) := by
  obtain ⟨a, b, d, cur, hh, e, f⟩ := h
  have hb : Blk w r.g 32 cur := hh
  refine ⟨⟨by rw [List.length_set]; exact a, b, d, _, hb.set_ (k * 3) (.string u), by rw [Array.size_setIfInBounds]; exact e, ?_⟩, (Only.refl _ w).set1 _ _⟩
  rw [Array.toList_setIfInBounds, List.take_set, f, rowV_text l k u hk]
set_option maxRecDepth 100000 in
set_option maxHeartbeats 2000000 in
theorem erase_calls {P : Nat → Prop} {w : World} {T M : Nat} {s : Tm} (h : TermAt P w T s) (hok : OKT M s) (hP : ∀ k, w.heap.size ≤ k → P k) {i k : Nat} (hi : i < s.l.length) (hk : k ≤ s.cols) :
    Calls Tryz.prog 51 #[.pointer (some ⟨T, 0, none⟩), .int .i64 (i : Int), .int .i64 (k : Int)] w fun e w' => e = .returned (.tuple #[]) ∧ TermAt P w' T (s.erase i k) ∧ Only P w w' := by
  obtain ⟨R, hR⟩ : ∃ R, s.erase i k = R := ⟨_, rfl⟩
  rw [hR]
  have HR := Hd.mk hR
  have H0 := Hd.mk h
  have HK0 := Hd.mk hok
  have HP := Hd.mk hP
  have HC := Hd.mk hk
  have HI := Hd.mk hi
  clear hR h hok hP hk hi
  go_enter Tryz.func51, Tryz.ntmps51
  go_wp2
  go_loopg [2] s.cols (fun kq v2 wx => ∃ (j : Nat) (t : Tm), v2 = .int .i64 (j : Int) ∧ Hd (j ≤ s.cols ∧ s.cols ≤ j + kq ∧ t.cols = s.cols ∧ t.l.length = s.l.length) ∧ Hd (t.erase i j = R) ∧ Hd (OKT M t) ∧ Hd (TermAt P wx T t) ∧ Hd (Only P w wx))
  case atStart => exact ⟨k, s, rfl, ⟨HC.out, by omega, rfl, rfl⟩, HR, HK0, H0, ⟨Only.refl _ _⟩⟩
  case round =>
    clear HR H0 HK0
    obtain ⟨j, t, rfl, HJ, HR, HK0, H0, HO⟩ := hrel
    obtain ⟨h1, h2, h3, h4⟩ := HJ.out
    obtain ⟨lv, gv, bv, L, G, ho⟩ := H0.out
    have t0 := ho.all.1.1
    have tf := ho.all.2
    clear ho
    have hc2 := HK0.out.c2
    rw [h3] at t0
    by_cases hlt : j < s.cols
    · obtain ⟨d, rfl⟩ : ∃ d, gk = d + 1 := ⟨gk - 1, by omega⟩
      have hit : i < t.l.length := by rw [h4]; exact HI.out
      have hrw := HK0.out.rowAt hit
      have XP := Hd.mk (fun w1 (hb : Below wr.heap.size wr w1) => put_calls (H0.out.below hb) (fun k hk => HP.out k (Nat.le_trans (Nat.le_trans HO.out.size hb.size) hk)) hit (k := j) (by rw [hrw.1]; omega) hrw.2.1 HK0.out.r2 (by rw [hrw.1]; exact hc2) blankC)
      have HR2 : Hd ((t.put i j blankC).erase i (j + 1) = R) := ⟨by rw [erase_step t i j (by omega)]; exact HR.out⟩
      have HK2 := Hd.mk (HK0.out.put (r := i) (k := j) (by omega) blank_one (by have := HK0.out.m; rw [blank_size]; omega))
      have HJ2 : Hd (j + 1 ≤ s.cols ∧ s.cols ≤ j + 1 + d ∧ (t.put i j blankC).cols = s.cols ∧ (t.put i j blankC).l.length = s.l.length) := ⟨by omega, by omega, h3, by rw [put_len]; exact h4⟩
      have l1 : decide ((j : Int) < (s.cols : Int)) = true := decide_eq_true (by omega)
      have l2 : decide (j < s.cols) = true := decide_eq_true hlt
      have l3 : (j : Int) ≤ 120 := by omega
      clear hrw hit HJ HR HK0 H0 h2 h3 h4
      go_wp2_with fail
      go_at_call 25
      with_reducible refine (blankc_calls _).mono ?_
      rintro _ w1 ⟨rfl, hb⟩
      have XQ := Hd.mk (XP.out w1 hb)
      have HO1 := Hd.mk (HO.out.below hb)
      clear hb XP HO
      go_wp2_with fail
      go_at_call 47
      with_reducible refine XQ.out.mono ?_
      rintro _ w2 ⟨rfl, ht, ho⟩
      have HT2 := Hd.mk ht
      have HO2 := Hd.mk (HO1.out.trans ho (fun _ _ h => h))
      clear ht ho XQ HO1
      go_wp2
      go_roundg d
      case measure => omega
      case rel => exact ⟨j + 1, _, by simp, HJ2, HR2, HK2, HT2, HO2⟩
    · have l1 : decide ((j : Int) < (s.cols : Int)) = false := decide_eq_false (by omega)
      have l2 : decide (j < s.cols) = false := decide_eq_false hlt
      have HE : Hd (t = R) := ⟨by rw [← HR.out, erase_none t i j (by omega)]⟩
      clear HR
      go_wp2
      go_end0
      exact ⟨rfl, by rw [← HE.out]; exact H0.out, HO.out⟩
set_option maxRecDepth 100000 in
set_option maxHeartbeats 2000000 in
theorem join_calls {P : Nat → Prop} {w : World} {T M : Nat} {s : Tm} (h : TermAt P w T s) (hok : OKT M s) (hM : M ≤ 1000000) {t : ByteArray} (ht : t.size ≤ 4) :
    Calls Tryz.prog 45 #[.pointer (some ⟨T, 0, none⟩), .string t] w fun e w' => e = .returned (.tuple #[]) ∧ TermAt P w' T (s.join t) ∧ Only P w w' := by
  obtain ⟨lv, gv, bv, L, G, h1⟩ := h
  have hi := hok.row
  have hrw := hok.rowAt hi
  have hcol := hok.col
  have hc2 := hok.c2
  have hr2 := hok.r2
  obtain ⟨A, cc, ad, r, rfl, rfl, hcell, hrow, hpr, hrt, hcl⟩ := h1.look hi
  obtain ⟨⟨t0, c1, t2, t3, c4, c5, c6, t7, t8, t9, t10⟩, f1⟩ := h1.all
  clear t0 t2 t3 t7 t8 t9 t10
  have hrn : r.n = (s.l[s.row]).length := hrow.1
  have hHT : Hd (∀ w' f, RowAt w' r (f s.l[s.row]) → Only (· = r.g) w w' → TermAt P w' T (s.onRow s.row f) ∧ Only P w w') := ⟨fun w' f hr ho => ⟨(hcl w' f hr ho).at_, ho.mono (fun j _ hj => by rw [hj]; exact hpr)⟩⟩
  have HR := Hd.mk hrow
  have HLEN : Hd ((s.l[s.row]).length = s.cols) := ⟨hrw.1⟩
  have HOK : Hd (RowOK s.l[s.row]) := ⟨hrw.2.1⟩
  have HSZ : Hd (∀ k, k < s.cols → (getC s.l[s.row] k).S.size ≤ M) := ⟨fun k hk => hrw.2.2 _ (getC_mem (by rw [hrw.1]; exact hk))⟩
  have H0 : Hd (TermAt P w T s) := ⟨h1.at_⟩
  unfold RR.v at hcell
  have hj : s.join t = if s.full = true then s.onRow s.row (joinR · s.col t) else if s.col = 0 then s else s.onRow s.row (joinR · (s.col - 1) t) := rfl
  clear h1 hcl hrow hok hrw hpr hrt
  generalize s.l[s.row] = l at *
  have hrl : r.n = s.cols := by rw [hrn, HLEN.out]
  have hi0 : (0 : Int) ≤ (s.row : Int) := Int.natCast_nonneg _
  have hil : (s.row : Int) < (s.l.length : Int) := by omega
  have hk0 : (0 : Int) ≤ (s.col : Int) := Int.natCast_nonneg _
  rw [hrl] at hcell
  cases hf : s.full with
  | false =>
    rw [hf] at c6
    rw [hf, if_neg (by simp)] at hj
    by_cases hz : s.col = 0
    · rw [if_pos hz] at hj
      rw [hj]
      rw [hz] at c5
      clear hcell hHT
      go_enter Tryz.func45, Tryz.ntmps45
      go_wp2
      exact bodyPost_ret (results_none rfl _ _ _) rfl ⟨rfl, H0.out, Only.refl _ _⟩
    · rw [if_neg hz] at hj
      rw [hj]
      obtain ⟨c, hc⟩ : ∃ c, s.col = c + 1 := ⟨s.col - 1, by omega⟩
      rw [hc] at c5 hcol hk0
      rw [show s.col - 1 = c by omega]
      have e5 : ((c + 1 : Nat) : Int) = (c : Int) + 1 := by omega
      rw [e5] at c5
      clear hz hj hc hk0 e5
      have hk0 : (0 : Int) ≤ (c : Int) := Int.natCast_nonneg _
      have hkl : (c : Int) < (s.cols : Int) := by omega
      have hk1 : (c : Int) ≤ 120 := by omega
      obtain ⟨x0, x1, x2⟩ := HR.out.three (k := c) (by rw [HLEN.out]; omega)
      have fr := HR.out.frozen
      have HW : Hd (∀ w', w'.heap = w.heap → RowAt w' r l) := ⟨fun w' he => HR.out.to (by rw [he])⟩
      have hw := HOK.out c (by rw [HLEN.out]; omega)
      by_cases hz : (getC l c).wide = 0
      · obtain ⟨q1, q2⟩ := hw.2.1.1 hz
        obtain ⟨b, rfl⟩ : ∃ b, c = b + 1 := ⟨c - 1, by omega⟩
        obtain ⟨y0, y1, y2⟩ := HR.out.three (k := b) (by rw [HLEN.out]; omega)
        have hs := HSZ.out b (by omega)
        have e : joinR l (b + 1) t = l.set b { getC l b with S := (getC l b).S ++ t } := by unfold joinR; rw [if_pos hz]; rfl
        have HEQ := Hd.mk e
        rw [hz] at x1
        have g1 : (0 : Int) ≤ (b : Int) := Int.natCast_nonneg _
        have g2 : (b : Int) < (s.cols : Int) := by omega
        have g3 : (getC l b).S.size + t.size ≤ 1000004 := by omega
        have g4 : (b : Int) + 1 ≤ 120 := by omega
        clear hw hz q2 e
        go_enter Tryz.func45, Tryz.ntmps45
        go_upto_region 4 with fail
        go_quiet (fail)
        have HRq := Hd.mk (HW.out (w.drewN nq) rfl)
        clear HW
        go_wp2
        obtain ⟨hz1, hz2⟩ := HRq.out.text_ (k := b) (by rw [HLEN.out]; omega) ((getC l b).S ++ t)
        have he := hHT.out _ (joinR · (b + 1) t) (by show RowAt _ r (joinR l (b + 1) t); rw [HEQ.out]; exact hz1) ((Only.refl _ w).drewN nq |>.trans hz2 (fun _ _ h => h))
        go_end0
        exact ⟨rfl, he.1, he.2⟩
      · have hs := HSZ.out c (by omega)
        have e : joinR l c t = l.set c { getC l c with S := (getC l c).S ++ t } := by unfold joinR; rw [if_neg hz]
        have HEQ := Hd.mk e
        have g2 : ((getC l c).wide : Int) ≠ 0 := by omega
        have g3 : (getC l c).S.size + t.size ≤ 1000004 := by omega
        clear hw e
        go_enter Tryz.func45, Tryz.ntmps45
        go_upto_region 4 with fail
        go_quiet (fail)
        have HRq := Hd.mk (HW.out (w.drewN nq) rfl)
        clear HW
        go_wp2
        obtain ⟨hz1, hz2⟩ := HRq.out.text_ (k := c) (by rw [HLEN.out]; omega) ((getC l c).S ++ t)
        have he := hHT.out _ (joinR · c t) (by show RowAt _ r (joinR l c t); rw [HEQ.out]; exact hz1) ((Only.refl _ w).drewN nq |>.trans hz2 (fun _ _ h => h))
        go_end0
        exact ⟨rfl, he.1, he.2⟩
  | true =>
    rw [hf] at c6
    rw [hf, if_pos rfl] at hj
    rw [hj]
    have hkl : (s.col : Int) < (s.cols : Int) := by omega
    have hk1 : (s.col : Int) ≤ 120 := by omega
    clear hj
    generalize s.col = c at *
    obtain ⟨x0, x1, x2⟩ := HR.out.three (k := c) (by rw [HLEN.out]; omega)
    have fr := HR.out.frozen
    have HW : Hd (∀ w', w'.heap = w.heap → RowAt w' r l) := ⟨fun w' he => HR.out.to (by rw [he])⟩
    have hw := HOK.out c (by rw [HLEN.out]; omega)
    by_cases hz : (getC l c).wide = 0
    · obtain ⟨q1, q2⟩ := hw.2.1.1 hz
      obtain ⟨b, rfl⟩ : ∃ b, c = b + 1 := ⟨c - 1, by omega⟩
      obtain ⟨y0, y1, y2⟩ := HR.out.three (k := b) (by rw [HLEN.out]; omega)
      have hs := HSZ.out b (by omega)
      have e : joinR l (b + 1) t = l.set b { getC l b with S := (getC l b).S ++ t } := by unfold joinR; rw [if_pos hz]; rfl
      have HEQ := Hd.mk e
      rw [hz] at x1
      have g1 : (0 : Int) ≤ (b : Int) := Int.natCast_nonneg _
      have g2 : (b : Int) < (s.cols : Int) := by omega
      have g3 : (getC l b).S.size + t.size ≤ 1000004 := by omega
      have g4 : (b : Int) + 1 ≤ 120 := by omega
      clear hw hz q2 e
      go_enter Tryz.func45, Tryz.ntmps45
      go_upto_region 4 with fail
      go_quiet (fail)
      have HRq := Hd.mk (HW.out (w.drewN nq) rfl)
      clear HW
      go_wp2
      obtain ⟨hz1, hz2⟩ := HRq.out.text_ (k := b) (by rw [HLEN.out]; omega) ((getC l b).S ++ t)
      have he := hHT.out _ (joinR · (b + 1) t) (by show RowAt _ r (joinR l (b + 1) t); rw [HEQ.out]; exact hz1) ((Only.refl _ w).drewN nq |>.trans hz2 (fun _ _ h => h))
      go_end0
      exact ⟨rfl, he.1, he.2⟩
    · have hs := HSZ.out c (by omega)
      have e : joinR l c t = l.set c { getC l c with S := (getC l c).S ++ t } := by unfold joinR; rw [if_neg hz]
      have HEQ := Hd.mk e
      have g2 : ((getC l c).wide : Int) ≠ 0 := by omega
      have g3 : (getC l c).S.size + t.size ≤ 1000004 := by omega
      clear hw e
      go_enter Tryz.func45, Tryz.ntmps45
      go_upto_region 4 with fail
      go_quiet (fail)
      have HRq := Hd.mk (HW.out (w.drewN nq) rfl)
      clear HW
      go_wp2
      obtain ⟨hz1, hz2⟩ := HRq.out.text_ (k := c) (by rw [HLEN.out]; omega) ((getC l c).S ++ t)
      have he := hHT.out _ (joinR · c t) (by show RowAt _ r (joinR l c t); rw [HEQ.out]; exact hz1) ((Only.refl _ w).drewN nq |>.trans hz2 (fun _ _ h => h))
      go_end0
      exact ⟨rfl, he.1, he.2⟩
end Go.Proofs.YtgifpkjcggnhgaaGreatDoorL

