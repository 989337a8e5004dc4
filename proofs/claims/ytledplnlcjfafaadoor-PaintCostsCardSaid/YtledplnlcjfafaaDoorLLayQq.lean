/- Parts of the proof of the law that the last file states; declarations that nothing mentions are left out by a program. No conditions. -/
import Derived.Test.YtledplnlcjfafaaDoorLLayPq
set_option linter.unusedVariables false
set_option linter.unusedSimpArgs false
namespace Go.Proofs.YtledplnlcjfafaaDoorL
open Go Go.RowKit
theorem cleanL_len (l : List UInt8) : (cleanL l).length ≤ 4 * l.length := mapD_len (fun r => r) _ l (Nat.le_refl _)
def cellM : Nat := 4800
theorem wrong_size : wrongS.size = 3 := rfl
theorem showC_le {c : ByteArray} (h : c.size ≤ 1200) : (showC c).size ≤ cellM := by
  unfold showC cellM
  split
  · rw [wrong_size]; omega
  · show (cleanL c.data.toList).toArray.size ≤ _
    rw [List.size_toArray]
    have := cleanL_len c.data.toList
    rw [← Lib.size_eq] at this
    omega
theorem cleanL_pos {l : List UInt8} (h : l ≠ []) : 0 < (cleanL l).length := by
  unfold cleanL
  rw [Lib.mapD_step _ _ h, if_pos (by omega), List.length_append]
  have := (enc_size (((Lib.decodeL l).1 : Nat) : Int)).1
  rw [Lib.size_eq, encode_rune] at this
  omega
theorem showC_pos {c : ByteArray} (h : 0 < c.size) : 0 < (showC c).size := by
  unfold showC
  split
  · decide
  · show 0 < (cleanL c.data.toList).toArray.size
    rw [List.size_toArray]
    refine cleanL_pos (fun e => ?_)
    rw [Lib.size_eq, e] at h
    exact Nat.lt_irrefl _ h
theorem wideC_cases (c : ByteArray) : wideC c = 1 ∨ wideC c = 2 := by
  unfold wideC
  rcases ofR_cases (firstR c) with h | h | h <;> rw [h] <;> decide
theorem cellsC_len (cols : Nat) (c : ByteArray) (dim : Bool) : (cellsC cols c dim).length = if cols = 1 then 1 else wideC c := by
  unfold cellsC
  rcases wideC_cases c with h | h <;> rw [h]
  · simp
  · by_cases h1 : cols = 1
    · simp [h1]
    · simp [h1]
theorem cellsC_le (cols : Nat) (c : ByteArray) (dim : Bool) (h : 1 ≤ cols) : 1 ≤ (cellsC cols c dim).length ∧ (cellsC cols c dim).length ≤ 2 ∧ (cellsC cols c dim).length ≤ cols ∧ (cellsC cols c dim).length ≤ wideC c := by
  rw [cellsC_len]
  rcases wideC_cases c with h2 | h2 <;> rw [h2] <;> split <;> omega
def BlankFrom (k : Nat) (r : List TC) : Prop := ∀ j, k ≤ j → j < r.length → getC r j = blankC
theorem BlankFrom.mono {k m : Nat} {r : List TC} (h : BlankFrom k r) (hm : k ≤ m) : BlankFrom m r := fun j hj hl => h j (by omega) hl
theorem BlankFrom.new (k n : Nat) : BlankFrom k (blankR n) := fun j _ _ => getC_blankR n j
theorem overR_len {l : List TC} {k : Nat} {x : List TC} (h : k + x.length ≤ l.length) : (overR l k x).length = l.length := by
  unfold overR
  simp only [List.length_append, List.length_take, List.length_drop]
  omega
theorem overR_one {l : List TC} {k : Nat} {c : TC} (h : k < l.length) : overR l k [c] = l.set k c := by
  unfold overR
  rw [List.set_eq_take_append_cons_drop, if_pos h]
  simp
theorem overR_two {l : List TC} {k : Nat} {c d : TC} (h : k + 1 < l.length) : overR l k [c, d] = (l.set k c).set (k + 1) d := by
  have e1 : overR (l.set k c) (k + 1) [d] = (l.set k c).set (k + 1) d := overR_one (by rw [List.length_set]; exact h)
  rw [← e1]
  unfold overR
  have e2 : (l.set k c).take (k + 1) = l.take k ++ [c] := by
    rw [List.set_eq_take_append_cons_drop, if_pos (by omega), List.take_append, List.length_take, Nat.min_eq_left (by omega), List.take_of_length_le (by rw [List.length_take]; omega), show k + 1 - k = 1 by omega]
    rfl
  have e3 : (l.set k c).drop (k + 1 + 1) = l.drop (k + 2) := by rw [List.drop_set_of_lt (show k < k + 1 + 1 by omega)]
  rw [e2]
  show l.take k ++ [c, d] ++ l.drop (k + 2) = l.take k ++ [c] ++ [d] ++ (l.set k c).drop (k + 1 + 1)
  rw [e3]
  simp
theorem putR_blank {l : List TC} {k : Nat} (c : TC) (h : (getC l k).wide = 1) : putR l k c = l.set k c := by
  have e1 : put1 l k = l := by unfold put1; rw [if_neg (fun e => by omega)]
  unfold putR
  rw [e1]
  unfold put2
  rw [if_neg (fun e => by omega)]
theorem OKrow.over {n M : Nat} {r : List TC} (h : OKrow n M r) {k cols : Nat} {c : ByteArray} {dim : Bool} (hb : BlankFrom k r) (hk : k + (cellsC cols c dim).length ≤ n) (hc : 0 < c.size) (hM : (showC c).size ≤ M) (h1 : 3 ≤ M) :
    OKrow n M (overR r k (cellsC cols c dim)) ∧ BlankFrom (k + (cellsC cols c dim).length) (overR r k (cellsC cols c dim)) := by
  have hn := h.1
  have one : ∀ d : TC, One d → d.S.size ≤ M → k + 1 ≤ n → OKrow n M (overR r k [d]) ∧ BlankFrom (k + 1) (overR r k [d]) := by
    intro d hd hs hk
    have hw : (getC r k).wide = 1 := by rw [hb k (Nat.le_refl _) (by omega)]; rfl
    have e : overR r k [d] = putR r k d := by rw [overR_one (by omega), putR_blank d hw]
    refine ⟨by rw [e]; exact h.put (by omega) hd hs (by omega), fun j hj hl => ?_⟩
    rw [overR_len (by show k + 1 ≤ r.length; omega)] at hl
    rw [overR_one (by omega), getC_set (by omega), if_neg (by omega)]
    exact hb j (by omega) hl
  unfold cellsC at *
  by_cases hw : wideC c = 1
  · rw [if_pos hw] at hk ⊢
    exact one _ ⟨rfl, showC_pos hc⟩ hM hk
  · rw [if_neg hw] at hk ⊢
    by_cases h2 : cols = 1
    · rw [if_pos h2] at hk ⊢
      exact one _ ⟨rfl, show 0 < wrongS.size by decide⟩ (by show wrongS.size ≤ M; rw [wrong_size]; exact h1) hk
    · rw [if_neg h2] at hk ⊢
      have hk2 : k + 2 ≤ n := hk
      have hw0 : (getC r k).wide = 1 := by rw [hb k (Nat.le_refl _) (by omega)]; rfl
      have hw1 : (getC (r.set k ⟨showC c, 2, dim⟩) (k + 1)).wide = 1 := by
        rw [getC_set (by omega), if_neg (by omega), hb (k + 1) (by omega) (by omega)]; rfl
      have e : overR r k [⟨showC c, 2, dim⟩, halfC dim] = putR (putR r k ⟨showC c, 2, dim⟩) (k + 1) (halfC dim) := by
        rw [overR_two (by omega), putR_blank _ hw0, putR_blank _ hw1]
      refine ⟨by rw [e]; exact h.two (by omega) rfl (showC_pos hc) rfl rfl hM (by omega), fun j hj hl => ?_⟩
      have hj2 : k + 2 ≤ j := hj
      rw [overR_len (by show k + 2 ≤ r.length; omega)] at hl
      rw [overR_two (by omega), getC_set (by rw [List.length_set]; omega), if_neg (by omega), getC_set (by omega), if_neg (by omega)]
      exact hb j (by omega) hl
theorem OKrow.dots {n M : Nat} {r : List TC} (h : OKrow n M r) {k : Nat} (hb : BlankFrom k r) (hk : k < n) (h1 : 3 ≤ M) : OKrow n M (overR r k [⟨dotsS, 1, true⟩]) := by
  have hn := h.1
  have hw : (getC r k).wide = 1 := by rw [hb k (Nat.le_refl _) (by omega)]; rfl
  rw [overR_one (by omega), ← putR_blank _ hw]
  exact h.put hk ⟨rfl, show 0 < dotsS.size by decide⟩ h1 (by omega)
def CK (l : List (Nat × ByteArray)) : Prop := ∀ x ∈ l, 0 < x.2.size ∧ x.2.size ≤ 1200
theorem eachG_ck (s : ByteArray) (hs : s.size ≤ 1200) : ∀ (n f pos : Nat), f ≤ pos → (f < pos ∨ pos = 0) → pos ≤ s.size → CK (eachG s n f pos)
  | 0, _, _, _, _, _, x, h => by simp [eachG] at h
  | n + 1, f, pos, hf, hf2, hp, x, h => by
    unfold eachG at h
    have hw := Lib.width_pos s pos
    by_cases hlt : pos < s.size
    · rw [if_pos hlt] at h
      have hwn : pos + (Utf8.decode s pos).2 ≤ s.size := by
        have hne : s.data.toList.drop pos ≠ [] := by
          intro h0
          have := congrArg List.length h0
          rw [List.length_drop, ← Lib.size_eq] at this
          simp at this
          omega
        have := Lib.decodeL_le _ hne
        rw [Lib.decodeL_drop, List.length_drop, ← Lib.size_eq] at this
        omega
      split at h
      · exact eachG_ck s hs n f _ (by omega) (.inl (by omega)) hwn x h
      · rename_i h0
        rcases List.mem_cons.1 h with h1 | h
        · subst h1
          show 0 < (s.extract f pos).size ∧ (s.extract f pos).size ≤ 1200
          rw [ByteArray.size_extract]
          have : pos ≠ 0 := fun e => h0 (.inl e)
          omega
        · exact eachG_ck s hs n pos _ (by omega) (.inl (by omega)) hwn x h
    · rw [if_neg hlt] at h
      split at h
      · rename_i h1
        rw [List.mem_singleton] at h
        subst h
        show 0 < (s.extract f s.size).size ∧ (s.extract f s.size).size ≤ 1200
        rw [ByteArray.size_extract]
        omega
      · simp at h
theorem eachL_ck {s : ByteArray} (hs : s.size ≤ 1200) : CK (eachL s) := eachG_ck s hs _ 0 0 (Nat.le_refl _) (.inr rfl) (Nat.zero_le _)
theorem plainT_le (s : ByteArray) : (plainT s).size ≤ 1200 := by
  unfold plainT
  split
  · assumption
  · rw [cutS_size _ _ (backL_le _ _)]
    have : ∀ (l : List Nat) (o : Nat), o ≤ 1200 → backG 1200 l o ≤ 1200 := by
      intro l
      induction l with
      | nil => intro o h; exact h
      | cons x l ih =>
        intro o h
        unfold backG
        refine ih _ ?_
        split <;> omega
    exact this _ 0 (by omega)
theorem CK.tail {x : Nat × ByteArray} {l : List (Nat × ByteArray)} (h : CK (x :: l)) : CK l := fun y hy => h y (List.mem_cons_of_mem _ hy)
theorem CK.head {x : Nat × ByteArray} {l : List (Nat × ByteArray)} (h : CK (x :: l)) : 0 < x.2.size ∧ x.2.size ≤ 1200 := h x List.mem_cons_self
theorem eachL_len (s : ByteArray) : (eachL s).length ≤ s.size + 1 := eachG_len s _ _ _
theorem sumG_le : ∀ (l : List (Nat × ByteArray)), sumG l ≤ 2 * l.length
  | [] => Nat.le_refl _
  | x :: l => by
    have := sumG_le l
    have := wideC_cases x.2
    unfold sumG
    rw [List.length_cons]
    omega
theorem modify_got {α : Type} {l : List α} {i : Nat} {f : α → α} {r : α} (h : (l.modify i f)[i]? = some r) : ∃ r0, l[i]? = some r0 ∧ r = f r0 := by
  rw [List.getElem?_modify] at h
  cases h0 : l[i]? with
  | none => rw [h0] at h; simp at h
  | some r0 => rw [h0] at h; simp at h; exact ⟨r0, rfl, h.symm⟩
structure SK (s : Sh) : Prop where
  c1 : 1 ≤ s.cols
  c2 : s.cols ≤ 120
  n : 1 ≤ s.l.length
  rows : ∀ r ∈ s.l, OKrow s.cols cellM r
  col : s.col ≤ s.cols
  last : ∀ r, s.l[s.l.length - 1]? = some r → BlankFrom s.col r
theorem SK.fresh {s : Sh} (c1 : 1 ≤ s.cols) (c2 : s.cols ≤ 120) (rows : ∀ r ∈ s.l, OKrow s.cols cellM r) : SK s.fresh := by
  refine ⟨c1, c2, by unfold Sh.fresh; simp, fun r hr => ?_, Nat.zero_le _, fun r hr => ?_⟩
  · unfold Sh.fresh at hr
    dsimp only at hr
    rcases List.mem_append.1 hr with h | h
    · exact rows r h
    · rw [List.mem_singleton.1 h]
      exact OKrow.blank (by decide)
  · unfold Sh.fresh at hr
    dsimp only at hr
    rw [List.length_append, List.length_singleton, Nat.add_sub_cancel, List.getElem?_append_right (Nat.le_refl _), Nat.sub_self] at hr
    simp only [List.getElem?_cons_zero, Option.some.injEq] at hr
    rw [← hr]
    exact BlankFrom.new _ _
theorem SK.room {s : Sh} (h : SK s) {n : Nat} (hn : n ≤ s.cols) : SK (s.room n) ∧ (s.room n).col + n ≤ s.cols ∧ (s.room n).cols = s.cols ∧ s.l.length ≤ (s.room n).l.length ∧ (s.room n).l.length ≤ s.l.length + 1 := by
  unfold Sh.room
  split
  · refine ⟨SK.fresh h.c1 h.c2 h.rows, by unfold Sh.fresh; simp; exact hn, rfl, ?_, ?_⟩ <;> unfold Sh.fresh <;> simp
  · exact ⟨h, by omega, rfl, Nat.le_refl _, by omega⟩
theorem SK.lay {s : Sh} (h : SK s) {row k : Nat} {x : List TC} (hr : ∀ r ∈ s.l, s.l[row]? = some r → OKrow s.cols cellM (overR r k x)) : ∀ r ∈ (s.lay row k x).l, OKrow s.cols cellM r := by
  intro r hr1
  unfold Sh.lay at hr1
  dsimp only at hr1
  obtain ⟨i, hi, rfl⟩ := List.mem_iff_getElem.1 hr1
  rw [List.length_modify] at hi
  rw [List.getElem_modify]
  split
  · rename_i e
    subst e
    exact hr _ (List.getElem_mem _) (List.getElem?_eq_getElem hi)
  · exact h.rows _ (List.getElem_mem _)
theorem lay_len (s : Sh) (row k : Nat) (x : List TC) : (s.lay row k x).l.length = s.l.length ∧ (s.lay row k x).cols = s.cols ∧ (s.lay row k x).col = s.col := ⟨List.length_modify .., rfl, rfl⟩
theorem put_eq (s : Sh) (c : ByteArray) : s.put c = { (s.room (cellsC s.cols c false).length).lay ((s.room (cellsC s.cols c false).length).l.length - 1) (s.room (cellsC s.cols c false).length).col (cellsC s.cols c false) with col := (s.room (cellsC s.cols c false).length).col + (cellsC s.cols c false).length } := rfl
theorem at_eq (s : Sh) (c : ByteArray) : s.at_ c = ((s.room (cellsC s.cols c false).length).l.length - 1, (s.room (cellsC s.cols c false).length).col) := rfl
theorem SK.put {s : Sh} (h : SK s) {c : ByteArray} (hc : 0 < c.size ∧ c.size ≤ 1200) : SK (s.put c) ∧ (s.put c).cols = s.cols ∧ s.l.length ≤ (s.put c).l.length ∧ (s.put c).l.length ≤ s.l.length + 1 ∧ (s.at_ c).1 + 1 = (s.put c).l.length ∧ (s.at_ c).2 < s.cols := by
  have hl := cellsC_le s.cols c false h.c1
  rw [put_eq, at_eq]
  obtain ⟨hk, h1, h2, h3, h4⟩ := h.room hl.2.2.1
  generalize s.room (cellsC s.cols c false).length = q at *
  have hov : ∀ r, q.l[q.l.length - 1]? = some r → OKrow s.cols cellM (overR r q.col (cellsC s.cols c false)) ∧ BlankFrom (q.col + (cellsC s.cols c false).length) (overR r q.col (cellsC s.cols c false)) := by
    intro r hr2
    exact OKrow.over (by rw [← h2]; exact hk.rows r (List.mem_of_getElem? hr2)) (hk.last r hr2) h1 hc.1 (showC_le hc.2) (by decide)
  have hc1 := h.c1
  have hc2 := h.c2
  generalize cellsC s.cols c false = x at *
  have hn := hk.n
  have hln := (lay_len q (q.l.length - 1) q.col x).1
  refine ⟨⟨by show 1 ≤ q.cols; rw [h2]; exact hc1, by show q.cols ≤ 120; rw [h2]; exact hc2, by show 1 ≤ (q.lay _ _ _).l.length; rw [hln]; exact hn, fun r hr => ?_, by show q.col + _ ≤ q.cols; rw [h2]; exact h1, fun r hr => ?_⟩, h2, by show _ ≤ (q.lay _ _ _).l.length; rw [hln]; exact h3, by show (q.lay _ _ _).l.length ≤ _; rw [hln]; exact h4, ?_, ?_⟩
  · exact hk.lay (fun r _ hr2 => by rw [h2]; exact (hov r hr2).1) r hr
  · change (q.lay (q.l.length - 1) q.col x).l[(q.lay (q.l.length - 1) q.col x).l.length - 1]? = some r at hr
    rw [hln] at hr
    unfold Sh.lay at hr
    dsimp only at hr
    obtain ⟨r0, hr0, rfl⟩ := modify_got hr
    exact (hov r0 hr0).2
  · show q.l.length - 1 + 1 = (q.lay _ _ _).l.length
    rw [hln]
    omega
  · show q.col < s.cols
    omega
theorem SK.puts : ∀ (l : List (Nat × ByteArray)) (s : Sh), SK s → CK l → SK (s.puts l) ∧ (s.puts l).cols = s.cols ∧ (s.puts l).l.length ≤ s.l.length + l.length
  | [], s, h, _ => ⟨h, rfl, Nat.le_refl _⟩
  | x :: l, s, h, hl => by
    have h1 := h.put hl.head
    have h2 := SK.puts l (s.put x.2) h1.1 hl.tail
    have e : s.puts (x :: l) = (s.put x.2).puts l := List.foldl_cons ..
    rw [e, List.length_cons]
    have h3 := h2.2.2
    have h4 := h1.2.2.2.1
    exact ⟨h2.1, h2.2.1.trans h1.2.1, by omega⟩
def OnS (s : Sh) (p : Nat × Nat) : Prop := p.1 < s.l.length ∧ p.2 < s.cols
theorem SK.text (at_ : Nat) : ∀ (l : List (Nat × ByteArray)) (s : Sh) (p : Nat × Nat), SK s → OnS s p → CK l → SK (Sh.text at_ s p l).1 ∧ (Sh.text at_ s p l).1.cols = s.cols ∧ (Sh.text at_ s p l).1.l.length ≤ s.l.length + l.length ∧ OnS (Sh.text at_ s p l).1 (Sh.text at_ s p l).2
  | [], s, p, h, hp, _ => ⟨h, rfl, Nat.le_refl _, hp⟩
  | x :: l, s, p, h, hp, hl => by
    have h1 := h.put hl.head
    have hp2 : OnS (s.put x.2) (if x.1 = at_ then s.at_ x.2 else p) := by
      unfold OnS
      rw [h1.2.1]
      split
      · exact ⟨by have := h1.2.2.2.2.1; omega, h1.2.2.2.2.2⟩
      · exact ⟨Nat.lt_of_lt_of_le hp.1 h1.2.2.1, hp.2⟩
    have h2 := SK.text at_ l (s.put x.2) (if x.1 = at_ then s.at_ x.2 else p) h1.1 hp2 hl.tail
    have e : Sh.text at_ s p (x :: l) = Sh.text at_ (s.put x.2) (if x.1 = at_ then s.at_ x.2 else p) l := List.foldl_cons ..
    rw [e, List.length_cons]
    have h3 := h2.2.2.1
    have h4 := h1.2.2.2.1
    exact ⟨h2.1, h2.2.1.trans h1.2.1, by omega, h2.2.2.2⟩
structure GK (s : Sh) (row at_ : Nat) : Prop where
  c1 : 1 ≤ s.cols
  c2 : s.cols ≤ 120
  rows : ∀ r ∈ s.l, OKrow s.cols cellM r
  on : row < s.l.length
  bl : ∀ r, s.l[row]? = some r → BlankFrom at_ r
theorem GK.lay {s : Sh} {row k : Nat} (h : GK s row k) {c : ByteArray} {dim : Bool} (hc : 0 < c.size ∧ c.size ≤ 1200) (hk : k + (cellsC s.cols c dim).length ≤ s.cols) : GK (s.lay row k (cellsC s.cols c dim)) row (k + (cellsC s.cols c dim).length) := by
  have hov : ∀ r, s.l[row]? = some r → OKrow s.cols cellM (overR r k (cellsC s.cols c dim)) ∧ BlankFrom (k + (cellsC s.cols c dim).length) (overR r k (cellsC s.cols c dim)) := fun r hr =>
    OKrow.over (h.rows r (List.mem_of_getElem? hr)) (h.bl r hr) hk hc.1 (showC_le hc.2) (by decide)
  refine ⟨h.c1, h.c2, fun r hr => ?_, by rw [(lay_len _ _ _ _).1]; exact h.on, fun r hr => ?_⟩
  · unfold Sh.lay at hr
    dsimp only at hr
    obtain ⟨i, hi, rfl⟩ := List.mem_iff_getElem.1 hr
    rw [List.length_modify] at hi
    rw [List.getElem_modify]
    split
    · rename_i e
      subst e
      exact (hov _ (List.getElem?_eq_getElem hi)).1
    · exact h.rows _ (List.getElem_mem _)
  · unfold Sh.lay at hr
    dsimp only at hr
    obtain ⟨r0, hr0, rfl⟩ := modify_got hr
    exact (hov r0 hr0).2
theorem GK.ghostG {row col room : Nat} : ∀ (l : List (Nat × ByteArray)) (s : Sh) (at_ : Nat), GK s row at_ → CK l → col ≤ at_ → at_ ≤ col + room → col + room ≤ s.cols →
    GK (ghostG row col room s at_ l).1 row (ghostG row col room s at_ l).2 ∧ (ghostG row col room s at_ l).1.cols = s.cols ∧ (ghostG row col room s at_ l).1.l.length = s.l.length ∧ col ≤ (ghostG row col room s at_ l).2 ∧ (ghostG row col room s at_ l).2 ≤ col + room
  | [], s, at_, h, _, h1, h2, _ => ⟨h, rfl, rfl, h1, h2⟩
  | x :: l, s, at_, h, hl, h1, h2, h3 => by
    have e : Go.Proofs.YtledplnlcjfafaaDoorL.ghostG row col room s at_ (x :: l) = if room < at_ - col + (cellsC s.cols x.2 true).length then (s, at_) else Go.Proofs.YtledplnlcjfafaaDoorL.ghostG row col room (s.lay row at_ (cellsC s.cols x.2 true)) (at_ + (cellsC s.cols x.2 true).length) l := by rw [Go.Proofs.YtledplnlcjfafaaDoorL.ghostG]
    rw [e]
    by_cases hn : room < at_ - col + (cellsC s.cols x.2 true).length
    · rw [if_pos hn]
      exact ⟨h, rfl, rfl, h1, h2⟩
    · rw [if_neg hn]
      have hg := h.lay (dim := true) hl.head (show at_ + (cellsC s.cols x.2 true).length ≤ s.cols by omega)
      have := GK.ghostG l (s.lay row at_ (cellsC s.cols x.2 true)) (at_ + (cellsC s.cols x.2 true).length) hg hl.tail (by omega) (by omega) h3
      exact ⟨this.1, this.2.1, this.2.2.1.trans (lay_len _ _ _ _).1, this.2.2.2⟩
theorem GK.ghost {s : Sh} {row col : Nat} (h : GK s row col) (hc : col < s.cols) {g : ByteArray} (hg : g.size ≤ 1200) : (∀ r ∈ (s.ghost g row col).1.l, OKrow s.cols cellM r) ∧ (s.ghost g row col).1.cols = s.cols ∧ (s.ghost g row col).1.l.length = s.l.length ∧ (s.ghost g row col).2 ≤ s.cols ∧ ∀ r, (s.ghost g row col).1.l[row]? = some r → BlankFrom (s.ghost g row col).2 r := by
  unfold Sh.ghost
  dsimp only
  by_cases hr : s.cols - col < sumW g
  · rw [if_pos hr]
    have := GK.ghostG (row := row) (col := col) (room := s.cols - col - 1) _ s col h (eachL_ck hg) (Nat.le_refl _) (by omega) (by omega)
    generalize Go.Proofs.YtledplnlcjfafaaDoorL.ghostG row col (s.cols - col - 1) s col (eachL g) = q at *
    obtain ⟨q, at_⟩ := q
    dsimp only at *
    obtain ⟨k, e2, e3, e4, e5⟩ := this
    have hlt : at_ < q.cols := by rw [e2]; omega
    have hdots := fun (r : List TC) hr => OKrow.dots (k := at_) (k.rows r (List.mem_of_getElem? hr)) (k.bl r hr) hlt (show 3 ≤ cellM by decide)
    rw [e2] at hdots
    refine ⟨fun r hr => ?_, e2, (lay_len _ _ _ _).1.trans e3, by omega, fun r hr => ?_⟩
    · unfold Sh.lay at hr
      dsimp only at hr
      obtain ⟨i, hi, rfl⟩ := List.mem_iff_getElem.1 hr
      rw [List.length_modify] at hi
      rw [List.getElem_modify]
      split
      · rename_i e
        subst e
        exact hdots _ (List.getElem?_eq_getElem hi)
      · rw [← e2]
        exact k.rows _ (List.getElem_mem _)
    · unfold Sh.lay at hr
      dsimp only at hr
      obtain ⟨r0, hr0, rfl⟩ := modify_got hr
      intro j hj hl
      have hlen := (k.rows r0 (List.mem_of_getElem? hr0)).1
      have hlt2 : at_ < r0.length := by rw [hlen]; exact hlt
      rw [overR_len (by show _ + 1 ≤ _; omega)] at hl
      rw [overR_one hlt2, getC_set hlt2, if_neg (by omega)]
      exact k.bl r0 hr0 j (by omega) hl
  · rw [if_neg hr]
    have := GK.ghostG (row := row) (col := col) (room := s.cols - col) _ s col h (eachL_ck hg) (Nat.le_refl _) (by omega) (by omega)
    exact ⟨fun r hr => by have h2 := this.1.rows r hr; rw [this.2.1] at h2; exact h2, this.2.1, this.2.2.1, by omega, this.1.bl⟩
theorem GK.prompt : ∀ (l : List (Nat × ByteArray)) (s : Sh) (x : Nat), GK s 0 x → CK l → x + sumG l ≤ s.cols → (∀ r ∈ (promptG s x l).l, OKrow s.cols cellM r) ∧ (promptG s x l).cols = s.cols ∧ (promptG s x l).l.length = s.l.length
  | [], s, x, h, _, _ => ⟨h.rows, rfl, rfl⟩
  | c :: l, s, x, h, hl, hs => by
    have hle := cellsC_le s.cols c.2 false h.c1
    have e : sumG (c :: l) = wideC c.2 + sumG l := rfl
    have hg := h.lay (dim := false) hl.head (by omega)
    have := GK.prompt l _ _ hg hl.tail (by show x + _ + sumG l ≤ s.cols; omega)
    exact ⟨this.1, this.2.1, this.2.2.trans (lay_len _ _ _ _).1⟩
structure FK (cols : Nat) (f : Fm) : Prop where
  c1 : 1 ≤ cols
  c2 : cols ≤ 120
  n1 : 1 ≤ f.rows.length
  n2 : f.rows.length ≤ 60
  rows : ∀ r ∈ f.rows, OKrow cols cellM r
  row : f.row < f.rows.length
  col : f.col < cols
theorem drawEnd_ok {s : Sh} (h : SK s) {g : ByteArray} (hg : g.size ≤ 1200) : (∀ r ∈ (drawEnd s g).1.l, OKrow s.cols cellM r) ∧ (drawEnd s g).1.cols = s.cols ∧ s.l.length ≤ (drawEnd s g).1.l.length ∧ (drawEnd s g).1.l.length ≤ s.l.length + 1 ∧ OnS (drawEnd s g).1 (drawEnd s g).2 ∧ (drawEnd s g).1.col ≤ s.cols ∧ (∀ r, (drawEnd s g).1.l[(drawEnd s g).1.l.length - 1]? = some r → BlankFrom (drawEnd s g).1.col r) := by
  unfold drawEnd
  dsimp only
  obtain ⟨s1, hs1⟩ : ∃ s1, s1 = (if s.cols ≤ s.col then s.fresh else s) := ⟨_, rfl⟩
  have hk : SK s1 ∧ s1.col < s.cols ∧ s1.cols = s.cols ∧ s.l.length ≤ s1.l.length ∧ s1.l.length ≤ s.l.length + 1 := by
    rw [hs1]
    split
    · exact ⟨SK.fresh h.c1 h.c2 h.rows, h.c1, rfl, by unfold Sh.fresh; simp, by unfold Sh.fresh; simp⟩
    · exact ⟨h, by omega, rfl, Nat.le_refl _, by omega⟩
  rw [← hs1]
  obtain ⟨k, hc, e, hn, hn2⟩ := hk
  have hl := k.n
  have hG : GK s1 (s1.l.length - 1) s1.col := ⟨k.c1, k.c2, k.rows, by omega, k.last⟩
  have := hG.ghost (by rw [e]; exact hc) hg
  rw [e] at this
  refine ⟨this.1, this.2.1, by rw [this.2.2.1]; exact hn, by rw [this.2.2.1]; exact hn2, ⟨by show s1.l.length - 1 < (s1.ghost g (s1.l.length - 1) s1.col).1.l.length; rw [this.2.2.1]; omega, by show s1.col < (s1.ghost g (s1.l.length - 1) s1.col).1.cols; rw [this.2.1]; exact hc⟩, this.2.2.2.1, fun r hr => this.2.2.2.2 r ?_⟩
  rw [this.2.2.1] at hr
  exact hr
theorem drawMid_ok (cols : Nat) (h1 : 1 ≤ cols) (h2 : cols ≤ 120) (v : Vw) : (∀ r ∈ (drawMid cols v).1.l, OKrow cols cellM r) ∧ (drawMid cols v).1.cols = cols ∧ 1 ≤ (drawMid cols v).1.l.length ∧ (drawMid cols v).1.l.length ≤ 3000 ∧ OnS (drawMid cols v).1 (drawMid cols v).2 ∧ (drawMid cols v).1.col ≤ cols ∧ (∀ r, (drawMid cols v).1.l[(drawMid cols v).1.l.length - 1]? = some r → BlankFrom (drawMid cols v).1.col r) := by
  have k0 : SK (({ cols := cols, l := [], col := 0 } : Sh).fresh) := SK.fresh h1 h2 (fun r hr => by cases hr)
  have k1 := SK.puts (eachL (plainT v.left)) _ k0 (eachL_ck (plainT_le _))
  have hp : OnS (Sh.puts (({ cols := cols, l := [], col := 0 } : Sh).fresh) (eachL (plainT v.left))) (0, 0) := ⟨k1.1.n, by rw [k1.2.1]; exact h1⟩
  have k2 := SK.text (backL (plainT v.text) v.at_) (eachL (plainT v.text)) _ _ k1.1 hp (eachL_ck (plainT_le _))
  have l1 := eachL_len (plainT v.left)
  have l2 := eachL_len (plainT v.text)
  have l3 := plainT_le v.left
  have l4 := plainT_le v.text
  have hc : (Sh.text (backL (plainT v.text) v.at_) (Sh.puts (({ cols := cols, l := [], col := 0 } : Sh).fresh) (eachL (plainT v.left))) (0, 0) (eachL (plainT v.text))).1.cols = cols := k2.2.1.trans k1.2.1
  have hln : (Sh.text (backL (plainT v.text) v.at_) (Sh.puts (({ cols := cols, l := [], col := 0 } : Sh).fresh) (eachL (plainT v.left))) (0, 0) (eachL (plainT v.text))).1.l.length ≤ 2500 := by
    have a := k2.2.2.1
    have b := k1.2.2
    have c : (({ cols := cols, l := [], col := 0 } : Sh).fresh).l.length = 1 := rfl
    omega
  have e : drawMid cols v = if backL (plainT v.text) v.at_ = (plainT v.text).size then drawEnd (Sh.text (backL (plainT v.text) v.at_) (Sh.puts (({ cols := cols, l := [], col := 0 } : Sh).fresh) (eachL (plainT v.left))) (0, 0) (eachL (plainT v.text))).1 (plainT v.ghost) else Sh.text (backL (plainT v.text) v.at_) (Sh.puts (({ cols := cols, l := [], col := 0 } : Sh).fresh) (eachL (plainT v.left))) (0, 0) (eachL (plainT v.text)) := rfl
  rw [e]
  clear e k0 k1 hp
  generalize Sh.text (backL (plainT v.text) v.at_) (Sh.puts (({ cols := cols, l := [], col := 0 } : Sh).fresh) (eachL (plainT v.left))) (0, 0) (eachL (plainT v.text)) = q at *
  split
  · have := drawEnd_ok k2.1 (plainT_le v.ghost)
    rw [hc] at this
    have h5 := this.2.2.1
    have h6 := this.2.2.2.1
    have h7 := k2.1.n
    exact ⟨this.1, this.2.1, by omega, by omega, this.2.2.2.2⟩
  · exact ⟨by have := k2.1.rows; rw [hc] at this; exact this, hc, k2.1.n, by omega, k2.2.2.2, by have := k2.1.col; rw [hc] at this; exact this, k2.1.last⟩
theorem drawnP_ok (cols : Nat) (h1 : 1 ≤ cols) (h2 : cols ≤ 120) (v : Vw) : (∀ r ∈ (drawnP cols v).s.l, OKrow cols cellM r) ∧ (drawnP cols v).s.cols = cols ∧ 1 ≤ (drawnP cols v).s.l.length ∧ (drawnP cols v).s.l.length ≤ 3000 ∧ (drawnP cols v).row < (drawnP cols v).s.l.length ∧ (drawnP cols v).col < cols := by
  obtain ⟨m1, m2, m3, m4, m5, m6, m7⟩ := drawMid_ok cols h1 h2 v
  unfold OnS at m5
  rw [m2] at m5
  unfold drawnP
  dsimp only
  split
  · rename_i hr
    unfold hasR at hr
    rw [Bool.and_eq_true, decide_eq_true_eq, decide_eq_true_eq] at hr
    have hG : GK (drawMid cols v).1 0 (cols - sumW (plainT v.right)) := ⟨by rw [m2]; exact h1, by rw [m2]; exact h2, by rw [m2]; exact m1, m3, fun r hr0 => by
      have h3 := hr.2
      unfold firstC at h3
      by_cases hl : (drawMid cols v).1.l.length = 1
      · rw [if_pos hl] at h3
        exact (m7 r (by rw [hl]; exact hr0)).mono (by omega)
      · rw [if_neg hl] at h3
        omega⟩
    have := GK.prompt (eachL (plainT v.right)) _ _ hG (eachL_ck (plainT_le _)) (by rw [m2]; have := hr.2; unfold sumW at *; omega)
    rw [m2] at this
    exact ⟨this.1, this.2.1, by rw [this.2.2]; exact m3, by rw [this.2.2]; exact m4, by rw [this.2.2]; exact m5.1, m5.2⟩
  · exact ⟨m1, m2, m3, m4, m5⟩
theorem ofP_ok (v : Vw) : FK (cutN v.cols 120) (ofP v) := by
  have hc := cutN_le v.cols (n := 120) (by omega)
  have hr := cutN_le v.rows (n := 60) (by omega)
  obtain ⟨m1, m2, m3, m4, m5, m6⟩ := drawnP_ok (cutN v.cols 120) hc.1 hc.2 v
  have e : (ofP v).rows.length = min (min (drawnP (cutN v.cols 120) v).s.l.length ((drawnP (cutN v.cols 120) v).row + 1 - cutN v.rows 60 + cutN v.rows 60) - ((drawnP (cutN v.cols 120) v).row + 1 - cutN v.rows 60)) ((drawnP (cutN v.cols 120) v).s.l.length - ((drawnP (cutN v.cols 120) v).row + 1 - cutN v.rows 60)) := by
    show (List.take _ (List.drop _ _)).length = _
    rw [List.length_take, List.length_drop]
  have er : (ofP v).row = (drawnP (cutN v.cols 120) v).row - ((drawnP (cutN v.cols 120) v).row + 1 - cutN v.rows 60) := rfl
  refine ⟨hc.1, hc.2, by rw [e]; omega, by rw [e]; omega, fun r hr => m1 r (List.mem_of_mem_drop (List.mem_of_mem_take hr)), by rw [e, er]; omega, m6⟩
end Go.Proofs.YtledplnlcjfafaaDoorL

