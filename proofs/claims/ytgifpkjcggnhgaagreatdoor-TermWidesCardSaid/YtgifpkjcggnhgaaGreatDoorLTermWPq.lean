/- Parts of the proof of the law that the last file states; declarations that nothing mentions are left out by a program. No conditions. -/
import Derived.Test.YtgifpkjcggnhgaaGreatDoorLTermLetq
set_option linter.unusedVariables false
set_option linter.unusedSimpArgs false
namespace Go.Proofs.YtgifpkjcggnhgaaGreatDoorL
open Go Go.RowKit
def midC : TC := ⟨Utf8.encode 20013, 2, false⟩
def lineW (E C k i : Nat) : List TC := (List.range C).map (fun j => if j / 2 < E ∧ i * E + j / 2 < k then (if j % 2 = 0 then midC else halfC false) else blankC)
theorem lineW_len (E C k i : Nat) : (lineW E C k i).length = C := by unfold lineW; rw [List.length_map, List.length_range]
theorem lineW_get {E C k i j : Nat} (h : j < C) : getC (lineW E C k i) j = if j / 2 < E ∧ i * E + j / 2 < k then (if j % 2 = 0 then midC else halfC false) else blankC := by
  unfold getC lineW
  rw [List.getD_eq_getElem?_getD, List.getElem?_map, List.getElem?_range h]
  rfl
theorem lineW_blank {E C k i : Nat} (h : k ≤ i * E) : lineW E C k i = blankR C := by
  refine list_ext_getC (by rw [lineW_len, blankR_len]) (fun j hj => ?_)
  rw [lineW_len] at hj
  rw [lineW_get hj, getC_blankR, if_neg (by omega)]
theorem lineW_set {E C k q c : Nat} (hc : c < E) (hE : 2 * E ≤ C) (hk : q * E + c = k) : ((lineW E C k q).set (2 * c) midC).set (2 * c + 1) (halfC false) = lineW E C (k + 1) q := by
  refine list_ext_getC (by rw [List.length_set, List.length_set, lineW_len, lineW_len]) (fun j hj => ?_)
  rw [List.length_set, List.length_set, lineW_len] at hj
  rw [getC_set (by rw [List.length_set, lineW_len]; omega), getC_set (by rw [lineW_len]; omega), lineW_get hj, lineW_get hj]
  by_cases h : 2 * c + 1 = j
  · rw [if_pos h, if_pos (by omega), if_neg (by omega)]
  · rw [if_neg h]
    by_cases h1 : 2 * c = j
    · rw [if_pos h1, if_pos (by omega), if_pos (by omega)]
    · rw [if_neg h1]
      by_cases h2 : j / 2 < E ∧ q * E + j / 2 < k
      · rw [if_pos h2, if_pos (show j / 2 < E ∧ q * E + j / 2 < k + 1 by omega)]
      · rw [if_neg h2, if_neg (by omega)]
theorem lineW_other {E C k q c i : Nat} (hc : c < E) (hk : q * E + c = k) (hi : i ≠ q) : lineW E C (k + 1) i = lineW E C k i := by
  refine list_ext_getC (by rw [lineW_len, lineW_len]) (fun j hj => ?_)
  rw [lineW_len] at hj
  rw [lineW_get hj, lineW_get hj]
  by_cases hjE : j / 2 < E
  · have hne : i * E + j / 2 ≠ k := by
      rw [← hk]
      intro e
      rcases Nat.lt_or_gt_of_ne hi with h | h
      · have : (i + 1) * E ≤ q * E := Nat.mul_le_mul_right _ h
        rw [Nat.add_mul, Nat.one_mul] at this
        omega
      · have : (q + 1) * E ≤ i * E := Nat.mul_le_mul_right _ h
        rw [Nat.add_mul, Nat.one_mul] at this
        omega
    by_cases h2 : j / 2 < E ∧ i * E + j / 2 < k
    · rw [if_pos h2, if_pos (by omega)]
    · rw [if_neg h2, if_neg (by omega)]
  · rw [if_neg (by omega), if_neg (by omega)]
theorem lineW_free {E C k q c j : Nat} (hk : q * E + c = k) (hj : j < C) (h : c ≤ j / 2) : getC (lineW E C k q) j = blankC := by
  rw [lineW_get hj, if_neg (by omega)]
theorem lineW_last {E C k i j : Nat} (hj : j < C) (h : E ≤ j / 2) : getC (lineW E C k i) j = blankC := by
  rw [lineW_get hj, if_neg (by omega)]
structure LetW (R C E k : Nat) (s : Tm) : Prop where
  scr : Scr R C (if 0 < k ∧ k % E = 0 then k / E - 1 else k / E) (lineW E C k) s
  col : s.col = if 0 < k ∧ k % E = 0 then C - 1 else 2 * (k % E)
  full : s.full = decide (0 < k ∧ k % E = 0 ∧ C % 2 = 0)
  dim : s.dim = false
theorem mid_sign : ofR 20013 = 2 ∧ ctlB 20013 = false := by decide +kernel
theorem sign_mid {s : Tm} (hc : s.cols ≠ 1) : s.sign 20013 = (if s.full = true then s.fresh else s).print 20013 2 := by
  unfold Tm.sign
  rw [if_neg (by rw [mid_sign.2]; simp), if_neg (by rw [mid_sign.1]; decide)]
  dsimp only
  rw [if_neg (fun h => hc h.2), mid_sign.1]
  rfl
theorem fresh_flat (s : Tm) : s.fresh.full = false ∧ s.fresh.dim = s.dim ∧ s.fresh.col = 0 := by
  refine ⟨?_, ?_, rfl⟩
  · unfold Tm.fresh Tm.down Tm.scroll
    dsimp only
    split <;> rfl
  · unfold Tm.fresh Tm.down Tm.scroll
    dsimp only
    split <;> rfl
theorem LetW.room {R C E k : Nat} {s : Tm} (h : LetW R C E k s) (hE : 1 ≤ E) (hCE : C / 2 = E) (hk : k ≤ 900) :
    ∃ s1, ((if s.full = true then s.fresh else s).roomy 2) = s1 ∧ Scr R C (k / E) (lineW E C k) s1 ∧ s1.col = 2 * (k % E) ∧ s1.full = false ∧ s1.dim = false := by
  have hm := Nat.mod_lt k (show 0 < E by omega)
  have hd := Nat.div_add_mod k E
  have hdk : k / E ≤ k := Nat.div_le_self ..
  have h3 := h.scr
  have h5 := h.col
  by_cases hf : 0 < k ∧ k % E = 0
  · rw [if_pos hf] at h3 h5
    have hd1 : 1 ≤ k / E := by
      rcases Nat.eq_zero_or_pos (k / E) with e | e
      · rw [e] at hd
        omega
      · exact e
    have hbl : lineW E C k (k / E - 1 + 1) = blankR C := by rw [show k / E - 1 + 1 = k / E by omega]; exact lineW_blank (by rw [Nat.mul_comm]; omega)
    by_cases he : C % 2 = 0
    · have hff : s.full = true := by rw [h.full]; exact decide_eq_true ⟨hf.1, hf.2, he⟩
      rw [if_pos hff]
      have h4 := h3.fresh hbl (by omega)
      rw [show k / E - 1 + 1 = k / E by omega] at h4
      have hr : s.fresh.roomy 2 = s.fresh := by unfold Tm.roomy; rw [if_neg (by rw [h4.cols, (fresh_flat s).2.2]; omega)]
      rw [hr]
      exact ⟨_, rfl, h4, by rw [hf.2]; rfl, (fresh_flat s).1, by rw [(fresh_flat s).2.1]; exact h.dim⟩
    · have hff : s.full = false := by rw [h.full]; exact decide_eq_false (fun x => he x.2.2)
      rw [if_neg (by rw [hff]; simp)]
      have hr : s.roomy 2 = (s.put s.row s.col blankC).fresh := by unfold Tm.roomy; rw [if_pos (by rw [h3.cols, h5]; omega)]
      rw [hr]
      have hgb : getC (lineW E C k (k / E - 1)) (C - 1) = blankC := lineW_last (by omega) (by omega)
      have hp : Scr R C (k / E - 1) (lineW E C k) (s.put s.row s.col blankC) := by
        unfold Tm.put
        refine h3.onRow ?_ (fun i _ => rfl)
        rw [h5, putR_one (by rw [hgb]; rfl)]
        refine list_ext_getC (by rw [List.length_set]) (fun j hj => ?_)
        rw [List.length_set] at hj
        rw [getC_set (by rw [lineW_len]; omega)]
        split
        · rename_i e
          subst e
          exact hgb.symm
        · rfl
      have h4 := hp.fresh hbl (by omega)
      rw [show k / E - 1 + 1 = k / E by omega] at h4
      exact ⟨_, rfl, h4, by rw [hf.2]; rfl, (fresh_flat _).1, by rw [(fresh_flat _).2.1]; exact h.dim⟩
  · rw [if_neg hf] at h3 h5
    have hff : s.full = false := by rw [h.full]; exact decide_eq_false (fun x => hf ⟨x.1, x.2.1⟩)
    rw [if_neg (by rw [hff]; simp)]
    have hr : s.roomy 2 = s := by unfold Tm.roomy; rw [if_neg (by rw [h3.cols, h5]; omega)]
    rw [hr]
    exact ⟨_, rfl, h3, h5, hff, h.dim⟩
theorem LetW.next {R C E k : Nat} {s : Tm} (h : LetW R C E k s) (hE : 1 ≤ E) (hCE : C / 2 = E) (hk : k ≤ 900) : LetW R C E (k + 1) (s.sign 20013) := by
  rw [sign_mid (by rw [h.scr.cols]; omega)]
  unfold Tm.print
  obtain ⟨s1, er, h3, h4, h5, h6⟩ := h.room hE hCE hk
  rw [er]
  clear er h
  have hm := Nat.mod_lt k (show 0 < E by omega)
  have hd := Nat.div_add_mod k E
  have hq : k / E * E + k % E = k := by rw [Nat.mul_comm]; exact hd
  have h7 : Scr R C (k / E) (fun i => if i = k / E then (lineW E C k (k / E)).set (2 * (k % E)) midC else lineW E C k i) (s1.show_ 20013 2) := by
    unfold Tm.show_ Tm.put
    refine h3.onRow ?_ (fun i hi => by rw [if_neg hi])
    rw [if_pos rfl, h4, h6, putR_one (by rw [lineW_free hq (by omega) (by omega)]; rfl)]
    rfl
  have h8 : (s1.show_ 20013 2).col = 2 * (k % E) ∧ (s1.show_ 20013 2).full = false ∧ (s1.show_ 20013 2).dim = false := ⟨h4, h5, h6⟩
  generalize s1.show_ 20013 2 = s2 at h7 h8
  have h7b : Scr R C (k / E) (lineW E C (k + 1)) (s2.half 2) := by
    unfold Tm.half Tm.put
    rw [if_pos rfl]
    refine h7.onRow ?_ (fun i hi => by rw [if_neg hi]; exact lineW_other hm hq hi)
    rw [if_pos rfl, h8.1, h8.2.2, putR_one (by rw [getC_set_ne (by omega), lineW_free hq (by omega) (by omega)]; rfl)]
    exact lineW_set hm (by omega) hq
  have h8b : (s2.half 2).col = 2 * (k % E) ∧ (s2.half 2).full = false ∧ (s2.half 2).dim = false := by
    unfold Tm.half
    rw [if_pos rfl]
    exact h8
  generalize s2.half 2 = s3 at h7b h8b
  have h9 := h7b.go_on 2
  have hn := div_next (C := E) (k := k) hE
  by_cases hl : k % E + 1 = E
  · obtain ⟨n1, n2⟩ := hn.1 hl
    by_cases he : C % 2 = 0
    · have eg : s3.go_on 2 = { s3 with col := s3.cols - 1, full := true } := by unfold Tm.go_on; rw [if_pos (by rw [h7b.cols, h8b.1]; omega)]
      refine ⟨?_, ?_, ?_, ?_⟩
      · rw [if_pos ⟨Nat.succ_pos k, n1⟩, n2, Nat.add_sub_cancel]
        exact h9
      · rw [eg, if_pos ⟨Nat.succ_pos k, n1⟩]
        show s3.cols - 1 = C - 1
        rw [h7b.cols]
      · rw [eg]
        exact (decide_eq_true (show 0 < k + 1 ∧ (k + 1) % E = 0 ∧ C % 2 = 0 from ⟨Nat.succ_pos k, n1, he⟩)).symm
      · rw [eg]
        exact h8b.2.2
    · have eg : s3.go_on 2 = { s3 with col := s3.col + 2 } := by unfold Tm.go_on; rw [if_neg (by rw [h7b.cols, h8b.1]; omega)]
      refine ⟨?_, ?_, ?_, ?_⟩
      · rw [if_pos ⟨Nat.succ_pos k, n1⟩, n2, Nat.add_sub_cancel]
        exact h9
      · rw [eg, if_pos ⟨Nat.succ_pos k, n1⟩]
        show s3.col + 2 = C - 1
        rw [h8b.1]
        omega
      · rw [eg]
        exact h8b.2.1.trans (decide_eq_false (fun x => he x.2.2)).symm
      · rw [eg]
        exact h8b.2.2
  · obtain ⟨n1, n2⟩ := hn.2 hl
    have hne : ¬ (0 < k + 1 ∧ (k + 1) % E = 0) := fun x => by omega
    have eg : s3.go_on 2 = { s3 with col := s3.col + 2 } := by unfold Tm.go_on; rw [if_neg (by rw [h7b.cols, h8b.1]; omega)]
    refine ⟨?_, ?_, ?_, ?_⟩
    · rw [if_neg hne, n2]
      exact h9
    · rw [eg, if_neg hne, n1]
      show s3.col + 2 = 2 * (k % E + 1)
      rw [h8b.1]
      omega
    · rw [eg]
      exact h8b.2.1.trans (decide_eq_false (fun x => hne ⟨x.1, x.2.1⟩)).symm
    · rw [eg]
      exact h8b.2.2
theorem drain_no (n : Nat) {s : Tm} (h : wholeL s.b = false) : drainT n s = s := by
  cases n with
  | zero => rfl
  | succ n => unfold drainT; rw [if_neg (by rw [h]; simp)]
theorem mid_whole : wholeL [228] = false ∧ wholeL [228, 184] = false ∧ wholeL [228, 184, 173] = true ∧ Lib.decodeL [228, 184, 173] = (20013, 3) ∧ wholeL [] = false := by decide +kernel
theorem feed_mid {s : Tm} (hi : s.inn = 0) (hb : s.b = []) : s.feed [228, 184, 173] = { (({ s with b := [228, 184, 173] } : Tm).sign 20013) with b := [] } := by
  have b1 : s.byte 228 = { s with b := [228] } := by
    unfold Tm.byte
    rw [if_pos ⟨hi, by decide⟩, hb]
    exact drain_no _ mid_whole.1
  have b2 : ({ s with b := [228] } : Tm).byte 184 = { s with b := [228, 184] } := by
    unfold Tm.byte
    rw [if_pos ⟨hi, by decide⟩]
    exact drain_no _ mid_whole.2.1
  have b3 : ({ s with b := [228, 184] } : Tm).byte 173 = { (({ s with b := [228, 184, 173] } : Tm).sign 20013) with b := [] } := by
    unfold Tm.byte
    rw [if_pos ⟨hi, by decide⟩]
    show drainT (3 + 1) ({ s with b := [228, 184, 173] } : Tm) = _
    unfold drainT
    rw [if_pos mid_whole.2.2.1]
    rw [show ({ s with b := [228, 184, 173] } : Tm).b.take 4 = [228, 184, 173] from rfl, mid_whole.2.2.2.1]
    exact drain_no _ mid_whole.2.2.2.2
  rw [feed_cons', feed_cons', feed_cons', feed_nil, b1, b2, b3]
theorem LetW.feed {R C E k : Nat} {s : Tm} (h : LetW R C E k s) (hi : s.inn = 0) (hb : s.b = []) (hE : 1 ≤ E) (hCE : C / 2 = E) (hk : k ≤ 900) : LetW R C E (k + 1) (s.feed [228, 184, 173]) ∧ (s.feed [228, 184, 173]).inn = 0 ∧ (s.feed [228, 184, 173]).b = [] := by
  rw [feed_mid hi hb]
  have h1 : LetW R C E k { s with b := [228, 184, 173] } := ⟨⟨h.scr.cols, h.scr.len, h.scr.r1, h.scr.row, h.scr.off, h.scr.glen, h.scr.gone, h.scr.rows⟩, h.col, h.full, h.dim⟩
  have h2 := h1.next hE hCE hk
  refine ⟨⟨⟨h2.scr.cols, h2.scr.len, h2.scr.r1, h2.scr.row, h2.scr.off, h2.scr.glen, h2.scr.gone, h2.scr.rows⟩, h2.col, h2.full, h2.dim⟩, ?_, rfl⟩
  exact (sign_keeps ({ s with b := [228, 184, 173] } : Tm) 20013).1.trans hi
theorem newT_wide (R C E : Nat) (hR : 1 ≤ R) (hR2 : R ≤ 60) (hC : 1 ≤ C) (hC2 : C ≤ 120) : LetW R C E 0 (newT (R : Int) (C : Int)) := by
  have e1 : cutN (R : Int) 60 = R := cutN_same hR hR2
  have e2 : cutN (C : Int) 120 = C := cutN_same hC hC2
  unfold newT
  rw [e1, e2]
  refine ⟨?_, by simp, by simp, rfl⟩
  rw [if_neg (by simp), Nat.zero_div]
  refine ⟨rfl, List.length_replicate .., hR, by simp, by simp, rfl, (fun i hi => absurd hi (Nat.not_lt_zero i)), fun i hi => ?_⟩
  show (List.replicate R (blankR C)).getD i [] = lineW E C 0 (0 + i)
  rw [lineW_blank (Nat.zero_le _), List.getD_eq_getElem?_getD, List.getElem?_replicate, if_pos hi]
  rfl
theorem mid_bytes : Utf8.encode 20013 = ⟨#[228, 184, 173]⟩ := by decide +kernel
end Go.Proofs.YtgifpkjcggnhgaaGreatDoorL

