/- Parts of the proof of the law that the last file states; declarations that nothing mentions are left out by a program. No conditions. -/
import Derived.Test.YtgifpkjcggnhgaaGreatDoorLTermSq
import Derived.Test.YtgifpkjcggnhgaaGreatDoorLTermDq
set_option linter.unusedVariables false
set_option linter.unusedSimpArgs false
section
namespace Go.Proofs.YtgifpkjcggnhgaaGreatDoorL
open Go Go.RowKit Go.Proofs.YtgifpkjcggnhgaaGreatDoorW.PrintWords Go.Proofs.YtgifpkjcggnhgaaGreatDoor.K
theorem ev_at {w wx : World} {A0 : Option Addr} {l : List S46} (hE : Kd.C k46 w A0 l.length l) (hb : Below w.heap.size w wx) {j : Nat} (hj : j < l.length) : ∃ ad A3 c3, A0 = some ad ∧ wx.cell? (ad.add (j * 4)) = some (.bool l[j].f0) ∧ wx.cell? ⟨(ad.add (j * 4)).block, (ad.add (j * 4)).off + 1, none⟩ = some (.int .i64 l[j].f1) ∧ wx.cell? ⟨(ad.add (j * 4)).block, (ad.add (j * 4)).off + 2, none⟩ = some (.int .i64 l[j].f2) ∧ wx.cell? ⟨(ad.add (j * 4)).block, (ad.add (j * 4)).off + 3, none⟩ = some (.slice A3 (l[j].f3).length c3) ∧ (l[j].f3).length ≤ c3 ∧ (Kd.int .u8).C w A3 (l[j].f3).length l[j].f3 := by
  obtain ⟨ad, A3, c3, rfl, h0, h1, h2, h3, hl, hC⟩ := at_T46 hE (j : Int) (by omega) (by omega)
  rw [rd_ev hj] at h0 h1 h2 h3 hl hC
  rw [Int.toNat_natCast] at h0 h1 h2 h3
  have mv : ∀ {a : Addr} {v : Value}, w.cell? a = some v → wx.cell? a = some v := fun h => cell_move h (hb.block _ (Lib.lt_of_cell h))
  exact ⟨ad, A3, c3, rfl, mv h0, mv h1, mv h2, mv h3, hl, hC⟩
theorem feed_ev {w0 w : World} {F : Nat → Prop} {T M : Nat} {s : Tm} (h : St w0 w F T s) (hk : TK M s) (hT : TabsT w0) {A : Option Addr} {c : Nat} {xs : List Int} (hC : (Kd.int .u8).C w0 A xs.length xs) (hw : ∀ b ∈ xs, (Lit.int .u8 b).wf = true) (hM : M + 32 * xs.length + 64 ≤ 900000) :
    Calls Tryz.prog 17 #[.pointer (some ⟨T, 0, none⟩), .slice A xs.length c] w fun e w' => e = .returned (.tuple #[]) ∧ Told F w T (s.feed (toB xs)) w' := by
  by_cases hn : 0 < xs.length
  · obtain ⟨ad, rfl, hcell⟩ := int_cell hC hw hn
    have X := feed_ta h.ta hk (toB xs) (by rw [toB_len]; exact hM) (hT.below h.bl) (h.outT hT) (A := some ad) (c := c) (ad := ad) (fun _ => ⟨rfl, fun hF => by
      have h1 := Lib.lt_of_cell (hcell 0 (by rw [toB_len]; exact hn))
      rw [add_block] at h1
      have := h.own _ hF
      omega, by
      have h1 := Lib.lt_of_cell (hcell 0 (by rw [toB_len]; exact hn))
      rw [add_block] at h1
      have := h.bl.size
      omega⟩) (fun i hi => cell_move (hcell i hi) (h.bl.block _ (Lib.lt_of_cell (hcell i hi))))
    rw [toB_len] at X
    exact X
  · have h0 : xs = [] := List.eq_nil_of_length_eq_zero (by omega)
    subst h0
    exact feed_ta h.ta hk (toB []) hM (hT.below h.bl) (h.outT hT) (A := A) (c := c) (ad := ⟨0, 0, none⟩) (fun hp => absurd hp (Nat.lt_irrefl 0)) (fun i hi => absurd hi (Nat.not_lt_zero i))
end Go.Proofs.YtgifpkjcggnhgaaGreatDoorL
end
section
namespace Go.Proofs.YtgifpkjcggnhgaaGreatDoorL
open Go Go.RowKit
structure Scr (R C q : Nat) (line : Nat → List TC) (s : Tm) : Prop where
  cols : s.cols = C
  len : s.l.length = R
  r1 : 1 ≤ R
  row : s.row = min q (R - 1)
  off : s.off = q - (R - 1)
  glen : s.gone.length = s.off
  gone : ∀ i, i < s.off → s.gone.getD i [] = line i
  rows : ∀ i, i < R → s.l.getD i [] = line (s.off + i)
section
variable {R C q : Nat} {line line' : Nat → List TC} {s : Tm}
theorem Scr.more (h : Scr R C q line s) : q = s.off + s.row := by have h1 := h.row; have h2 := h.off; have h3 := h.r1; omega
theorem getD_append1 {α : Type} {l : List α} {x d : α} {i : Nat} : (l ++ [x]).getD i d = if i < l.length then l.getD i d else if i = l.length then x else d := by
  rw [List.getD_eq_getElem?_getD, List.getD_eq_getElem?_getD]
  split
  · rw [List.getElem?_append_left (by assumption)]
  · rw [List.getElem?_append_right (by omega)]
    split
    · rw [show i - l.length = 0 by omega]; rfl
    · rw [List.getElem?_eq_none (by simp; omega)]; rfl
theorem getD_tail {α : Type} {l : List α} {d : α} {i : Nat} : l.tail.getD i d = l.getD (i + 1) d := by
  cases l with
  | nil => rfl
  | cons a l => rfl
theorem Scr.down (h : Scr R C q line s) (hb : line (q + 1) = blankR C) (hq : q + 1 ≤ 1000) : Scr R C (q + 1) line s.down := by
  have hr := h.row
  have ho := h.off
  have h1 := h.r1
  have hl := h.len
  have hg := h.glen
  unfold Tm.down
  rw [hl]
  by_cases hlt : s.row + 1 < R
  · rw [if_pos hlt]
    exact ⟨h.cols, h.len, h.r1, by show s.row + 1 = _; omega, by show s.off = _; omega, h.glen, h.gone, h.rows⟩
  · rw [if_neg hlt]
    have hk : keptL (s.gone ++ [s.l.headD []]) = s.gone ++ [s.l.headD []] := by
      unfold keptL
      rw [List.length_append, List.length_singleton, show s.gone.length + 1 - 1000 = 0 by omega]
      rfl
    have hh : s.l.headD [] = line s.off := by
      have := h.rows 0 (by omega)
      rw [Nat.add_zero] at this
      rw [← this]
      cases s.l <;> rfl
    have es : ({ s with full := false } : Tm).scroll = { s with full := false, gone := s.gone ++ [s.l.headD []], off := s.off + 1, l := s.l.tail ++ [blankR s.cols] } := by unfold Tm.scroll; dsimp only; rw [hk]
    rw [es]
    clear es hk
    refine ⟨h.cols, ?_, h.r1, ?_, ?_, ?_, fun i hi => ?_, fun i hi => ?_⟩
    · show (s.l.tail ++ [blankR s.cols]).length = R
      rw [List.length_append, List.length_tail, List.length_singleton]; omega
    · show s.row = min (q + 1) (R - 1)
      omega
    · show s.off + 1 = q + 1 - (R - 1)
      omega
    · show (s.gone ++ [s.l.headD []]).length = s.off + 1
      rw [List.length_append, List.length_singleton]; omega
    · show (s.gone ++ [s.l.headD []]).getD i [] = line i
      have hi2 : i < s.off + 1 := hi
      rw [getD_append1]
      split
      · exact h.gone i (by omega)
      · rw [if_pos (by omega), hh]
        congr 1
        omega
    · show (s.l.tail ++ [blankR s.cols]).getD i [] = line (s.off + 1 + i)
      have ht : s.l.tail.length = R - 1 := by rw [List.length_tail, hl]
      rw [getD_append1, ht]
      split
      · rw [getD_tail, h.rows (i + 1) (by omega)]
        congr 1
        omega
      · rw [if_pos (by omega), h.cols, ← hb]
        congr 1
        omega
theorem Scr.fresh (h : Scr R C q line s) (hb : line (q + 1) = blankR C) (hq : q + 1 ≤ 1000) : Scr R C (q + 1) line s.fresh := by
  have h' := h.down hb hq
  exact ⟨h'.cols, h'.len, h'.r1, h'.row, h'.off, h'.glen, h'.gone, h'.rows⟩
theorem getD_modify {α : Type} {l : List α} {k i : Nat} {f : α → α} {d : α} (hk : k < l.length) : (l.modify k f).getD i d = if i = k then f (l.getD k d) else l.getD i d := by
  rw [List.getD_eq_getElem?_getD, List.getElem?_modify, List.getD_eq_getElem?_getD, List.getD_eq_getElem?_getD]
  by_cases h : k = i
  · subst h
    rw [if_pos rfl, List.getElem?_eq_getElem hk]
    simp
  · rw [if_neg (fun e => h e.symm)]
    simp [h]
theorem Scr.onRow (h : Scr R C q line s) {f : List TC → List TC} (hf : f (line q) = line' q) (ho : ∀ i, i ≠ q → line' i = line i) : Scr R C q line' (s.onRow s.row f) := by
  have hm := h.more
  have hrr := h.row
  have hoo := h.off
  have h1 := h.r1
  refine ⟨h.cols, (dims_onRow s s.row f).2.trans h.len, h.r1, h.row, h.off, h.glen, fun i hi => ?_, fun i hi => ?_⟩
  · have hi2 : i < s.off := hi
    rw [ho i (by omega)]
    exact h.gone i hi
  · show (s.l.modify s.row f).getD i [] = line' (s.off + i)
    rw [getD_modify (by rw [h.len]; omega)]
    split
    · rename_i e
      subst e
      rw [h.rows s.row (by omega), ← hm]
      exact hf
    · rw [h.rows i hi]
      exact (ho _ (by omega)).symm
theorem Scr.go_on (h : Scr R C q line s) (w : Nat) : Scr R C q line (s.go_on w) := by
  unfold Tm.go_on
  split <;> exact ⟨h.cols, h.len, h.r1, h.row, h.off, h.glen, h.gone, h.rows⟩
theorem putR_one {l : List TC} {k : Nat} {c : TC} (h : (getC l k).wide = 1) : putR l k c = l.set k c := by
  have h1 : put1 l k = l := by unfold put1; rw [if_neg (by omega)]
  unfold putR put2
  rw [h1, if_neg (by omega)]
end
def letR (k : Nat) : Nat := 97 + k % 26
def letC (k : Nat) : TC := ⟨Utf8.encode (letR k : Int), 1, false⟩
def lineL (C k i : Nat) : List TC := (List.range C).map (fun j => if i * C + j < k then letC (i * C + j) else blankC)
theorem lineL_len (C k i : Nat) : (lineL C k i).length = C := by unfold lineL; rw [List.length_map, List.length_range]
theorem lineL_get {C k i j : Nat} (h : j < C) : getC (lineL C k i) j = if i * C + j < k then letC (i * C + j) else blankC := by
  unfold getC lineL
  rw [List.getD_eq_getElem?_getD, List.getElem?_map, List.getElem?_range h]
  rfl
theorem lineL_wide {C k i j : Nat} (h : j < C) : (getC (lineL C k i) j).wide = 1 := by
  rw [lineL_get h]
  split <;> rfl
theorem list_ext_getC {l m : List TC} (hl : l.length = m.length) (h : ∀ j, j < l.length → getC l j = getC m j) : l = m := by
  refine List.ext_getElem hl (fun j h1 h2 => ?_)
  have := h j h1
  rwa [getC_get h1, getC_get h2] at this
theorem lineL_blank {C k i : Nat} (h : k ≤ i * C) : lineL C k i = blankR C := by
  refine list_ext_getC (by rw [lineL_len, blankR_len]) (fun j hj => ?_)
  rw [lineL_len] at hj
  rw [lineL_get hj, getC_blankR, if_neg (by omega)]
theorem lineL_set {C k q c : Nat} (hc : c < C) (hk : q * C + c = k) : (lineL C k q).set c (letC k) = lineL C (k + 1) q := by
  refine list_ext_getC (by rw [List.length_set, lineL_len, lineL_len]) (fun j hj => ?_)
  rw [List.length_set, lineL_len] at hj
  rw [getC_set (by rw [lineL_len]; exact hc), lineL_get hj, lineL_get hj]
  by_cases h : c = j
  · subst h
    rw [if_pos rfl, if_pos (by omega), hk]
  · rw [if_neg h]
    by_cases h2 : q * C + j < k
    · rw [if_pos h2, if_pos (by omega)]
    · rw [if_neg h2, if_neg (by omega)]
theorem lineL_other {C k q c i : Nat} (hc : c < C) (hk : q * C + c = k) (hi : i ≠ q) : lineL C (k + 1) i = lineL C k i := by
  refine list_ext_getC (by rw [lineL_len, lineL_len]) (fun j hj => ?_)
  rw [lineL_len] at hj
  rw [lineL_get hj, lineL_get hj]
  have hne : i * C + j ≠ k := by
    rw [← hk]
    intro e
    rcases Nat.lt_or_gt_of_ne hi with h | h
    · have : (i + 1) * C ≤ q * C := Nat.mul_le_mul_right _ h
      rw [Nat.add_mul, Nat.one_mul] at this
      omega
    · have : (q + 1) * C ≤ i * C := Nat.mul_le_mul_right _ h
      rw [Nat.add_mul, Nat.one_mul] at this
      omega
  by_cases h2 : i * C + j < k
  · rw [if_pos h2, if_pos (by omega)]
  · rw [if_neg h2, if_neg (by omega)]
structure LetS (R C k : Nat) (s : Tm) : Prop where
  scr : Scr R C (if 0 < k ∧ k % C = 0 then k / C - 1 else k / C) (lineL C k) s
  col : s.col = if 0 < k ∧ k % C = 0 then C - 1 else k % C
  full : s.full = decide (0 < k ∧ k % C = 0)
  dim : s.dim = false
theorem let_signs : ∀ m : Fin 26, ofR ((97 + m.val : Nat) : Int) = 1 ∧ ctlB ((97 + m.val : Nat) : Int) = false := by decide +kernel
theorem letR_sign (k : Nat) : ofR (letR k : Int) = 1 ∧ ctlB (letR k : Int) = false := let_signs ⟨k % 26, Nat.mod_lt _ (by decide)⟩
theorem sign_one {s : Tm} {r : Int} (h1 : ofR r = 1) (h2 : ctlB r = false) : s.sign r = (if s.full = true then s.fresh else s).print r 1 := by
  unfold Tm.sign
  rw [if_neg (by rw [h2]; simp), if_neg (by omega)]
  dsimp only
  rw [if_neg (by omega), h1]
  rfl
theorem div_next {C k : Nat} (hC : 1 ≤ C) : (k % C + 1 = C → (k + 1) % C = 0 ∧ (k + 1) / C = k / C + 1) ∧ (k % C + 1 ≠ C → (k + 1) % C = k % C + 1 ∧ (k + 1) / C = k / C) := by
  have hm := Nat.mod_lt k (show 0 < C by omega)
  have hd := Nat.div_add_mod k C
  constructor
  · intro h
    have e : k + 1 = C * (k / C + 1) := by rw [Nat.mul_add, Nat.mul_one]; omega
    exact ⟨by rw [e]; exact Nat.mul_mod_right .., by rw [e, Nat.mul_div_cancel_left _ (by omega)]⟩
  · intro h
    have e : k + 1 = k % C + 1 + C * (k / C) := by omega
    constructor
    · rw [e, Nat.add_mul_mod_self_left, Nat.mod_eq_of_lt (by omega)]
    · rw [e, Nat.add_mul_div_left _ _ (by omega), Nat.div_eq_of_lt (by omega), Nat.zero_add]
theorem LetS.next {R C k : Nat} {s : Tm} (h : LetS R C k s) (hC : 1 ≤ C) (hk : k ≤ 900) : LetS R C (k + 1) (s.sign (letR k : Int)) := by
  obtain ⟨h1, h2⟩ := letR_sign k
  rw [sign_one h1 h2]
  have hm := Nat.mod_lt k (show 0 < C by omega)
  have hd := Nat.div_add_mod k C
  have hdk : k / C ≤ k := Nat.div_le_self ..
  obtain ⟨s1, hs1⟩ : ∃ s1, (if s.full = true then s.fresh else s) = s1 := ⟨_, rfl⟩
  have H1 : Scr R C (k / C) (lineL C k) s1 ∧ s1.col = k % C ∧ s1.full = false ∧ s1.dim = false := by
    rw [← hs1]
    by_cases hf : 0 < k ∧ k % C = 0
    · have h3 := h.scr
      rw [if_pos hf] at h3
      rw [if_pos (by rw [h.full]; exact decide_eq_true hf)]
      have hd1 : 1 ≤ k / C := by
        rcases Nat.eq_zero_or_pos (k / C) with e | e
        · rw [e] at hd
          omega
        · exact e
      have h4 := h3.fresh (by rw [show k / C - 1 + 1 = k / C by omega]; exact lineL_blank (by rw [Nat.mul_comm]; omega)) (by omega)
      rw [show k / C - 1 + 1 = k / C by omega] at h4
      refine ⟨h4, by rw [hf.2]; rfl, ?_, ?_⟩
      · unfold Tm.fresh Tm.down Tm.scroll
        dsimp only
        split <;> rfl
      · unfold Tm.fresh Tm.down Tm.scroll
        dsimp only
        split <;> exact h.dim
    · have h3 := h.scr
      have h5 := h.col
      rw [if_neg hf] at h3 h5
      have hff : s.full = false := by rw [h.full]; exact decide_eq_false hf
      rw [if_neg (by rw [hff]; simp)]
      exact ⟨h3, h5, hff, h.dim⟩
  rw [hs1]
  clear hs1 h
  obtain ⟨h3, h4, h5, h6⟩ := H1
  unfold Tm.print
  have er : s1.roomy 1 = s1 := by
    unfold Tm.roomy
    rw [if_neg (by rw [h3.cols]; omega)]
  rw [er]
  have hq : k / C * C + k % C = k := by rw [Nat.mul_comm]; exact hd
  have h7 : Scr R C (k / C) (lineL C (k + 1)) (s1.show_ (letR k : Int) 1) := by
    unfold Tm.show_ Tm.put
    refine h3.onRow ?_ (fun i hi => lineL_other hm hq hi)
    rw [h4, h6, putR_one (lineL_wide hm)]
    exact lineL_set hm hq
  have h8 : (s1.show_ (letR k : Int) 1).col = k % C ∧ (s1.show_ (letR k : Int) 1).full = false ∧ (s1.show_ (letR k : Int) 1).dim = false := ⟨h4, h5, h6⟩
  generalize s1.show_ (letR k : Int) 1 = s2 at h7 h8
  have eh : s2.half 1 = s2 := by unfold Tm.half; rw [if_neg (by decide)]
  rw [eh]
  have h9 := h7.go_on 1
  have hn := div_next (C := C) (k := k) hC
  by_cases hl : k % C + 1 = C
  · obtain ⟨n1, n2⟩ := hn.1 hl
    have eg : s2.go_on 1 = { s2 with col := s2.cols - 1, full := true } := by unfold Tm.go_on; rw [if_pos (by rw [h7.cols, h8.1]; omega)]
    refine ⟨?_, ?_, ?_, ?_⟩
    · rw [if_pos ⟨Nat.succ_pos k, n1⟩, n2, Nat.add_sub_cancel]
      exact h9
    · rw [eg, if_pos ⟨Nat.succ_pos k, n1⟩]
      show s2.cols - 1 = C - 1
      rw [h7.cols]
    · rw [eg]
      exact (decide_eq_true (show 0 < k + 1 ∧ (k + 1) % C = 0 from ⟨Nat.succ_pos k, n1⟩)).symm
    · rw [eg]
      exact h8.2.2
  · obtain ⟨n1, n2⟩ := hn.2 hl
    have hne : ¬ (0 < k + 1 ∧ (k + 1) % C = 0) := fun x => by omega
    have eg : s2.go_on 1 = { s2 with col := s2.col + 1 } := by unfold Tm.go_on; rw [if_neg (by rw [h7.cols, h8.1]; omega)]
    refine ⟨?_, ?_, ?_, ?_⟩
    · rw [if_neg hne, n2]
      exact h9
    · rw [eg, if_neg hne, n1]
      show s2.col + 1 = k % C + 1
      rw [h8.1]
    · rw [eg]
      exact h8.2.1.trans (decide_eq_false hne).symm
    · rw [eg]
      exact h8.2.2
theorem byte_let {s : Tm} (hi : s.inn = 0) (hb : s.b = []) (x : UInt8) (h1 : 32 ≤ x.toNat) (h2 : x.toNat < 127) : s.byte x = s.sign (x.toNat : Int) := by
  unfold Tm.byte
  rw [if_neg (by omega), if_pos (.inl hi), hb]
  have e : ({ s.signs (runesL []) with b := [] } : Tm) = s := by
    show ({ s with b := [] } : Tm) = s
    rw [← hb]
  rw [e]
  unfold Tm.plain
  rw [if_neg (by omega), if_neg (by omega)]
theorem newT_let (R C : Nat) (hR : 1 ≤ R) (hR2 : R ≤ 60) (hC : 1 ≤ C) (hC2 : C ≤ 120) : LetS R C 0 (newT (R : Int) (C : Int)) := by
  have e1 : cutN (R : Int) 60 = R := cutN_same hR hR2
  have e2 : cutN (C : Int) 120 = C := cutN_same hC hC2
  unfold newT
  rw [e1, e2]
  refine ⟨?_, by simp, by simp, rfl⟩
  rw [if_neg (by simp), Nat.zero_div]
  refine ⟨rfl, List.length_replicate .., hR, by simp, by simp, rfl, (fun i hi => absurd hi (Nat.not_lt_zero i)), fun i hi => ?_⟩
  show (List.replicate R (blankR C)).getD i [] = lineL C 0 (0 + i)
  rw [lineL_blank (Nat.zero_le _), List.getD_eq_getElem?_getD, List.getElem?_replicate, if_pos hi]
  rfl
end Go.Proofs.YtgifpkjcggnhgaaGreatDoorL
end
