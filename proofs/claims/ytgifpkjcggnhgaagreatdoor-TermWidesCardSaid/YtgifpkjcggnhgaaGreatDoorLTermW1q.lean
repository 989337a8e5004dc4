/- Parts of the proof of the law that the last file states; declarations that nothing mentions are left out by a program. No conditions. -/
import Derived.Test.YtgifpkjcggnhgaaGreatDoorLTermHq
set_option linter.unusedVariables false
set_option linter.unusedSimpArgs false
namespace Go.Proofs.YtgifpkjcggnhgaaGreatDoorL
open Go Go.RowKit Go.Proofs.YtgifpkjcggnhgaaGreatDoorW.PrintWords
set_option maxRecDepth 100000 in
set_option maxHeartbeats 1000000 in
theorem blankc_calls (w : World) : Calls Tryz.prog 25 #[] w fun e w' => e = .returned (.agg (cV blankC).toArray) ∧ Below w.heap.size w w' := by
  go_enter Tryz.func25, Tryz.ntmps25
  go_wp2_with (first
    | ((with_reducible refine gate_dst (N := 0) rfl ?_); refine box_event ?hg (N := 0) ?hd (cs := #[.string ByteArray.empty, .int .i64 0, .bool false]) (t := 32) ?hr ?_; (case hd => rfl); (case hg => rfl); (case hr => first | (go_simp; done) | (go_simp; rfl)); intro g0 hg wg0 hx hb; have B0 := Hd.mk (show Blk wg0 g0 32 _ from hx); have HB := Hd.mk hb; have HG := Hd.mk hg; clear hx hb hg)
    | ((with_reducible refine gate_store (t := 32) (p := 0) rfl ?_); refine store_event rfl rfl (g := g0) (cells := (cV blankC).toArray) (by first | rfl | (go_simp; done) | (go_simp; rfl)) (by first | rfl | (go_simp; done) | (go_simp; rfl)) B0.out infoCell rfl (by simp [cV, Value.oneCell']) ?_; intro ws hx hk hz hb; have B1 := Hd.mk hx; have HB1 := Hd.mk (hb HB.out (Nat.le_of_eq HG.out.symm)); clear hx hk hz hb))
  exact ret_row (cs := (cV blankC).toArray) rfl (d := .struct _) rfl Tryz.underlying32 infoCell (by first | rfl | (go_simp; done) | (go_simp; rfl)) B1.out rfl ⟨rfl, HB1.out⟩
theorem getC_set_ne {l : List TC} {i j : Nat} {c : TC} (h : i ≠ j) : getC (l.set i c) j = getC l j := by
  unfold getC
  rw [List.getD_eq_getElem?_getD, List.getD_eq_getElem?_getD, List.getElem?_set, if_neg h]
theorem putR_w0 {l : List TC} {k : Nat} (hk : k < l.length) (h1 : 0 < k) (h0 : (getC l k).wide = 0) (h2 : (getC l (k - 1)).wide = 2) (c : TC) : putR l k c = (l.set (k - 1) blankC).set k c := by
  have e1 : put1 l k = l.set (k - 1) blankC := by
    unfold put1
    rw [if_pos ⟨h0, h2⟩]
  unfold putR
  rw [e1]
  unfold put2
  rw [getC_set_ne (by omega), if_neg (by omega)]
theorem putR_w1 {l : List TC} {k : Nat} (h0 : (getC l k).wide = 1) (c : TC) : putR l k c = l.set k c := by
  have e1 : put1 l k = l := by
    unfold put1
    rw [if_neg (by omega)]
  unfold putR
  rw [e1]
  unfold put2
  rw [if_neg (by omega)]
theorem putR_w2 {l : List TC} {k : Nat} (h0 : (getC l k).wide = 2) (c : TC) : putR l k c = (l.set (k + 1) blankC).set k c := by
  have e1 : put1 l k = l := by
    unfold put1
    rw [if_neg (by omega)]
  unfold putR
  rw [e1]
  unfold put2
  rw [if_pos h0]
theorem Blk.three {w : World} {g : Nat} {t : TypeId} {a b c : Value} (h : Blk w g t #[a, b, c]) : w.cell? ⟨g, 0, none⟩ = some a ∧ w.cell? ⟨g, 1, none⟩ = some b ∧ w.cell? ⟨g, 2, none⟩ = some c :=
  ⟨h.cell 0 rfl, h.cell 1 rfl, h.cell 2 rfl⟩
set_option maxRecDepth 100000 in
set_option maxHeartbeats 1000000 in
theorem put_at {P : Nat → Prop} {w : World} {T : Nat} {s : Tm} (h : TermAt P w T s) (hP : ∀ k, w.heap.size ≤ k → P k) {i k : Nat} (hi : i < s.l.length) (hk : k < (s.l[i]).length) (hw : ((getC s.l[i] k).wide ≤ 2 ∧ ((getC s.l[i] k).wide = 2 → k + 1 < (s.l[i]).length)) ∧ ((getC s.l[i] k).wide = 0 → 0 < k ∧ (getC s.l[i] (k - 1)).wide = 2)) (h60 : s.l.length ≤ 60) (h120 : (s.l[i]).length ≤ 120) (c : TC) :
    Calls Tryz.prog 47 #[.pointer (some ⟨T, 0, none⟩), .int .i64 (i : Int), .int .i64 (k : Int), .agg (cV c).toArray] w fun e w' => e = .returned (.tuple #[]) ∧ TermAt P w' T (s.put i k c) ∧ Only P w w' := by
  have H0 := Hd.mk h
  have HP := Hd.mk hP
  clear h hP
  go_enter Tryz.func47, Tryz.ntmps47
  go_upto_region 1 with (first
    | ((with_reducible refine gate_dst (N := 7) rfl ?_); refine box_event ?hg (N := 7) ?hd (cs := (cV c).toArray) (t := 32) ?hr ?_; (case hd => rfl); (case hg => rfl); (case hr => first | (go_simp; done) | (go_simp; rfl)); intro g0 hg wg0 hx hb; have B0 := Hd.mk (show Blk wg0 g0 32 _ from hx); have HB := Hd.mk hb; have HG := Hd.mk hg; clear hx hb hg))
  obtain ⟨lv, gv, bv, L, G, h1⟩ := H0.out.bound.below HB.out
  obtain ⟨A, cc, ad, r, rfl, rfl, hcell, hrow, hpr, hrt, hcl⟩ := h1.look hi
  have c1 := h1.all.1.2.1
  have f1 := h1.all.2
  obtain ⟨x0, x1, x2⟩ := hrow.three hk
  have HR := Hd.mk hrow
  have hrn : r.n = (s.l[i]).length := hrow.1
  have hHT : Hd (∀ w', RowAt w' r (putR s.l[i] k c) → Only (· = r.g) wg0 w' → TermAt P w' T (s.put i k c) ∧ Only P w w') := ⟨fun w' hr ho => by
    have := hcl w' (putR · k c) hr ho
    exact ⟨this.at_.mono (fun _ hk => hk.1), (Only.of_below HB.out).trans ho (fun j _ hj => by rw [hj]; exact hpr.1)⟩⟩
  have hng : Hd (g0 ≠ r.g) := ⟨by have h1 := hpr.2; have h2 := HG.out; omega⟩
  have HOL := Hd.mk h120
  unfold RR.v at hcell
  clear h1 hrow hcl hpr H0 HP
  generalize s.l[i] = l at *
  have hkn : (k : Int) < (r.n : Int) := by omega
  have hk0 : (0 : Int) ≤ (k : Int) := Int.natCast_nonneg k
  have hi0 : (0 : Int) ≤ (i : Int) := Int.natCast_nonneg i
  have hil : (i : Int) < (s.l.length : Int) := by omega
  rcases (show (getC l k).wide = 0 ∨ (getC l k).wide = 1 ∨ (getC l k).wide = 2 by omega) with h0 | h0 | h0
  · obtain ⟨hk1, h2⟩ := hw.2 h0
    have HW := Hd.mk h0
    have HW2 := Hd.mk h2
    have HK1 := Hd.mk hk1
    rw [h0] at x1
    obtain ⟨y0, y1, y2⟩ := HR.out.three (k := k - 1) (by omega)
    rw [h2] at y1
    have q1 : (1 : Int) ≤ (k : Int) := by omega
    have q2 : (k : Int) - 1 < (r.n : Int) := by omega
    clear hw h0 h2
    go_upto_region 4 with (first | (go_at_call 25; (with_reducible refine (blankc_calls _).mono ?_); rintro _ w2 ⟨rfl, hb⟩; have HRb := Hd.mk (HR.out.to (hb.block _ HR.out.lt)); have HB2 := Hd.mk hb; clear hb) | ((with_reducible refine gate_store (t := 32) rfl ?_); refine RowAt.store HRb.out (k := k - 1) (by first | omega | (simp only [List.length_set]; omega)) blankC rfl rfl (by first | rfl | (go_simp; done) | (go_simp; rfl)) (by first | rfl | (go_simp; done) | (go_simp; rfl)) ?_; intro w3 hr_ ho_ hz_ hb_; have HR3 := Hd.mk hr_; have HO3 := Hd.mk ((Only.of_below (F := (· = r.g)) HB2.out).trans ho_ (fun _ _ h => h)); clear x0 x1 x2; obtain ⟨x0, x1, x2⟩ := HR3.out.three (k := k) (by simp only [List.length_set]; omega); rw [getC_set_ne (by omega), HW.out] at x1; have B3 := Hd.mk (B0.out.to (HO3.out.block g0 B0.out.lt hng.out)); clear hr_ ho_ hz_ hb_))
    obtain ⟨d0, d1, d2⟩ := Blk.three B3.out
    go_wp2_with ((with_reducible refine gate_store (t := 32) rfl ?_); refine RowAt.store HR3.out (k := k) (by first | omega | (simp only [List.length_set]; omega)) c rfl rfl (by first | rfl | (go_simp; done) | (go_simp; rfl)) (by first | rfl | (go_simp; done) | (go_simp; rfl)) ?_; intro w5 hr_ ho_ hz_ hb_; have HE := Hd.mk (hHT.out w5 (by rw [putR_w0 (by assumption) HK1.out HW.out HW2.out]; exact hr_) (HO3.out.trans ho_ (fun _ _ h => h))); clear hr_ ho_ hz_ hb_)
    go_end0
    exact ⟨rfl, HE.out⟩
  · rw [h0] at x1
    have HW := Hd.mk h0
    clear hw h0
    obtain ⟨d0, d1, d2⟩ := Blk.three B0.out
    go_wp2_with ((with_reducible refine gate_store (t := 32) rfl ?_); refine RowAt.store HR.out (k := k) (by first | omega | (simp only [List.length_set]; omega)) c rfl rfl (by first | rfl | (go_simp; done) | (go_simp; rfl)) (by first | rfl | (go_simp; done) | (go_simp; rfl)) ?_; intro w5 hr_ ho_ hz_ hb_; have HE := Hd.mk (hHT.out w5 (by rw [putR_w1 HW.out]; exact hr_) (ho_)); clear hr_ ho_ hz_ hb_)
    go_end0
    exact ⟨rfl, HE.out⟩
  · have hk2 := hw.1.2 h0
    rw [h0] at x1
    have HW := Hd.mk h0
    have q1 : (k : Int) + 1 < (r.n : Int) := by omega
    have q3 : (k : Int) ≤ 120 := by have := HOL.out; omega
    clear hw h0
    go_upto_region 6 with (first | (go_at_call 25; (with_reducible refine (blankc_calls _).mono ?_); rintro _ w2 ⟨rfl, hb⟩; have HRb := Hd.mk (HR.out.to (hb.block _ HR.out.lt)); have HB2 := Hd.mk hb; clear hb) | ((with_reducible refine gate_store (t := 32) rfl ?_); refine RowAt.store HRb.out (k := k + 1) (by first | omega | (simp only [List.length_set]; omega)) blankC rfl rfl (by first | rfl | (go_simp; done) | (go_simp; rfl)) (by first | rfl | (go_simp; done) | (go_simp; rfl)) ?_; intro w3 hr_ ho_ hz_ hb_; have HR3 := Hd.mk hr_; have HO3 := Hd.mk ((Only.of_below (F := (· = r.g)) HB2.out).trans ho_ (fun _ _ h => h)); clear x0 x1 x2; obtain ⟨x0, x1, x2⟩ := HR3.out.three (k := k) (by simp only [List.length_set]; omega); rw [getC_set_ne (by omega), HW.out] at x1; have B3 := Hd.mk (B0.out.to (HO3.out.block g0 B0.out.lt hng.out)); clear hr_ ho_ hz_ hb_))
    obtain ⟨d0, d1, d2⟩ := Blk.three B3.out
    go_wp2_with ((with_reducible refine gate_store (t := 32) rfl ?_); refine RowAt.store HR3.out (k := k) (by first | omega | (simp only [List.length_set]; omega)) c rfl rfl (by first | rfl | (go_simp; done) | (go_simp; rfl)) (by first | rfl | (go_simp; done) | (go_simp; rfl)) ?_; intro w5 hr_ ho_ hz_ hb_; have HE := Hd.mk (hHT.out w5 (by rw [putR_w2 HW.out]; exact hr_) (HO3.out.trans ho_ (fun _ _ h => h))); clear hr_ ho_ hz_ hb_)
    go_end0
    exact ⟨rfl, HE.out⟩
theorem put_calls {P : Nat → Prop} {w : World} {T : Nat} {s : Tm} (h : TermAt P w T s) (hP : ∀ k, w.heap.size ≤ k → P k) {i k : Nat} (hi : i < s.l.length) (hk : k < (s.l[i]).length) (hok : RowOK s.l[i]) (h60 : s.l.length ≤ 60) (h120 : (s.l[i]).length ≤ 120) (c : TC) :
    Calls Tryz.prog 47 #[.pointer (some ⟨T, 0, none⟩), .int .i64 (i : Int), .int .i64 (k : Int), .agg (cV c).toArray] w fun e w' => e = .returned (.tuple #[]) ∧ TermAt P w' T (s.put i k c) ∧ Only P w w' :=
  put_at h hP hi hk ⟨(hok k hk).1, (hok k hk).2.1.1⟩ h60 h120 c
end Go.Proofs.YtgifpkjcggnhgaaGreatDoorL

