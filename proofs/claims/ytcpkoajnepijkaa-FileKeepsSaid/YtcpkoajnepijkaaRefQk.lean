/- Parts of the proof of the law that the last file states; declarations that nothing mentions are left out by a program. No conditions. -/
import Derived.Test.YtcpkoajnepijkaaRefPk
namespace Go.Proofs.Ytcpkoajnepijkaa
set_option linter.unusedVariables false
set_option linter.unusedSimpArgs false
open Go.RowKit Go.Proofs.YtcpkoajnepijkaaL Go.Proofs.YtcpkoajnepijkaaW.PrintWords Go.Proofs.Ytcpkoajnepijkaa.Q
theorem splice_set {α : Type} (L : List α) (k : Nat) (c : List α) (x : α) (h : k + c.length < L.length) : (splice L k c).set (k + c.length) x = splice L k (c ++ [x]) := by
  unfold splice
  have h1 : (L.take k).length = k := by rw [List.length_take]; omega
  rw [List.set_append_right _ _ (by rw [h1]; omega), h1, Nat.add_sub_cancel_left, List.set_append_right _ _ (Nat.le_refl _), Nat.sub_self, List.drop_eq_getElem_cons h, List.set_cons_zero]
  simp [Nat.add_assoc]
theorem splice_nil {α : Type} (L : List α) (k : Nat) : splice L k [] = L := by simp [splice]
theorem laid_step (b : List Int) (a : Nat) (c : List Int) (x : Int) : (laidL b a c ++ List.replicate (a + c.length + 1 - (laidL b a c).length) 0).set (a + c.length) x = laidL b a (c ++ [x]) := by
  have hP : laidL b a c ++ List.replicate (a + c.length + 1 - (laidL b a c).length) 0 = splice (b ++ List.replicate (a + c.length + 1 - b.length) 0) a c := by
    by_cases hc : c.length = 0
    · have : c = [] := List.eq_nil_of_length_eq_zero hc
      subst this
      rw [splice_nil]
      simp [laidL]
    · rw [laidL_length, if_neg hc]
      have e1 : laidL b a c = splice (b ++ List.replicate (a + c.length - b.length) 0) a c := by unfold laidL; rw [if_neg hc]
      rw [e1, ← splice_append _ _ _ _ (by simp; omega), List.append_assoc, List.replicate_append_replicate]
      congr 3
      omega
  rw [hP, splice_set _ _ _ _ (by simp; omega)]
  unfold laidL
  rw [if_neg (by simp), List.length_append, List.length_singleton]
  rfl
theorem over_pad (b c : List Int) (no a j : Nat) (hj : j < c.length) (hb : a + c.length ≤ 1000000) : ∀ (p k : Nat) (out : List Int), p = a + j + 1 - out.length → out.length ≤ 100000000 → p < k →
    souffleurref10_over.l1 k out (j : Int) no (a : Int) c = souffleurref10_over.l0 (k - p - 1) ((out ++ List.replicate p 0).set (a + j) c[j]) ((j + 1 : Nat) : Int) no a c := by
  intro p
  induction p with
  | zero =>
    intro k out hp ho hk
    obtain ⟨k, rfl⟩ : ∃ m, k = m + 1 := ⟨k - 1, by omega⟩
    have hw : wrap64 ((a : Int) + (j : Int)) = ((a + j : Nat) : Int) := by unfold wrap64; omega
    simp only [souffleurref10_over.l1]
    rw [hw, if_neg (by omega), if_pos (by omega), if_pos (by omega), if_pos (by omega), if_pos (by omega), wsucc hj (by omega)]
    have hr : rd c (j : Int) = c[j] := by unfold rd; simp [hj]
    rw [hr, Int.toNat_natCast]
    simp
  | succ p ih =>
    intro k out hp ho hk
    obtain ⟨k, rfl⟩ : ∃ m, k = m + 1 := ⟨k - 1, by omega⟩
    have hw : wrap64 ((a : Int) + (j : Int)) = ((a + j : Nat) : Int) := by unfold wrap64; omega
    simp only [souffleurref10_over.l1]
    rw [hw, if_pos (by omega), if_pos (by omega), ih k (out ++ [0]) (by simp; omega) (by simp; omega) (by omega)]
    rw [List.append_assoc, show k + 1 - (p + 1) - 1 = k - p - 1 by omega]
    rfl
theorem over_loop (b c : List Int) (no a : Nat) (hb : b.length ≤ 1000000) (ha : a + c.length ≤ 1000000) : ∀ (d j k : Nat) (out : List Int), j + d = c.length → out = laidL b a (c.take j) → 2 * d + (a + c.length - out.length) < k →
    souffleurref10_over.l0 k out (j : Int) no (a : Int) c = some (laidL b a c) := by
  intro d
  induction d with
  | zero =>
    intro j k out hj ho hk
    obtain ⟨k, rfl⟩ : ∃ m, k = m + 1 := ⟨k - 1, by omega⟩
    simp only [souffleurref10_over.l0]
    rw [if_neg (by omega), ho, List.take_of_length_le (by omega)]
  | succ d ih =>
    intro j k out hj ho hk
    obtain ⟨k, rfl⟩ : ∃ m, k = m + 1 := ⟨k - 1, by omega⟩
    have hlt : j < c.length := by omega
    have hol : out.length ≤ 2000000 := by
      rw [ho, laidL_length, List.length_take]
      split <;> omega
    simp only [souffleurref10_over.l0]
    rw [if_pos (by omega), over_pad b c no a j hlt ha _ k out rfl (by omega) (by omega)]
    have hstep := laid_step b a (c.take j) c[j]
    have htl : (c.take j).length = j := by rw [List.length_take]; omega
    rw [htl, ← ho, ← List.take_succ_eq_append_getElem hlt] at hstep
    have hpe : a + j + 1 - out.length = a + j + 1 - out.length := rfl
    rw [hstep]
    refine ih (j + 1) _ _ (by omega) rfl ?_
    have hn : (laidL b a (c.take (j + 1))).length = max out.length (a + j + 1) := by
      rw [← hstep, List.length_set, List.length_append, List.length_replicate]
      omega
    rw [hn]
    omega
theorem over_tells (b : List Int) (p : PP) (hb : b.length ≤ 1000000) (ha : p.at_ + p.b.length ≤ 100000) {k : Nat} (hk : 300001 ≤ k) : souffleurref10_over.f k b (toP p).f0 (toP p).f1 (toP p).f2 = some (overP b p) := by
  unfold souffleurref10_over.f
  simp only [Option.bind_some, List.nil_append, List.length_nil, toP]
  rw [if_pos (by omega)]
  exact over_loop b p.b p.no p.at_ hb (by omega) p.b.length 0 k b (by omega) (by simp [laidL]) (by omega)
def RowB (row : List PP) : Prop := row.length ≤ 100000 ∧ ∀ p ∈ row, p.at_ + p.b.length ≤ 65536
theorem over_len {b : List Int} {p : PP} (hb : b.length ≤ 65536) (hp : p.at_ + p.b.length ≤ 65536) : (overP b p).length ≤ 65536 := by
  unfold overP
  rw [laidL_length]
  split <;> omega
theorem bytes_loop (nm : ByteArray) (b0 : List Int) (row : List PP) (hr : RowB row) : ∀ (d j k : Nat) (acc : List Int), j + d = row.length → acc.length ≤ 65536 → 300001 + d < k →
    souffleurref10_Bytes.l0 k acc (j : Int) nm b0 (row.map toP) = some ((row.drop j).foldl overP acc) := by
  intro d
  induction d with
  | zero =>
    intro j k acc hj ha hk
    obtain ⟨k, rfl⟩ : ∃ m, k = m + 1 := ⟨k - 1, by omega⟩
    simp only [souffleurref10_Bytes.l0]
    rw [if_neg (by rw [List.length_map]; omega), List.drop_of_length_le (by omega)]
    rfl
  | succ d ih =>
    intro j k acc hj ha hk
    obtain ⟨k, rfl⟩ : ∃ m, k = m + 1 := ⟨k - 1, by omega⟩
    have hlt : j < row.length := by omega
    have hp := hr.2 _ (List.getElem_mem hlt)
    have hrl := hr.1
    simp only [souffleurref10_Bytes.l0]
    rw [if_pos (by rw [List.length_map]; omega), if_pos (by omega), rd_T91_get hlt, over_tells acc row[j] (by omega) (by omega) (by omega)]
    simp only [Option.bind_some]
    rw [wsucc hlt (by omega), ih (j + 1) k _ (by omega) (over_len ha hp) (by omega), List.drop_eq_getElem_cons hlt]
    rfl
theorem bytes_tells (f : PF) (hb : f.b.length ≤ 65536) (hr : RowB f.row) {k : Nat} (hk : 500000 ≤ k) : souffleurref10_Bytes.f k (toF f).f0 (toF f).f1 (toF f).f2 = some (bytesP f) := by
  have hrl := hr.1
  unfold souffleurref10_Bytes.f
  have := bytes_loop f.name f.b f.row hr f.row.length 0 k f.b (by omega) hb (by omega)
  have hlt : ([] : List Int).length + (toF f).f1.length < 140737488355328 := by simp [toF]; omega
  simp only [Option.bind_some]
  rw [if_pos hlt]
  exact this
def BoundP (S : PS) : Prop := S.l.length ≤ 1000 ∧ ∀ f ∈ S.l, f.b.length ≤ 65536 ∧ RowB f.row
theorem count_tells (S : PS) (l : List S47) (n : Int) (hf0 : -1 ≤ S.fuse) (hf1 : S.fuse ≤ 9223372036854775807) (ho : S.ops ≤ 1000000) (hd : S.down = false) (g : Int) : souffleurref10_count.f l n S.ops S.fuse g S.down = some (l, n, ((countP S).ops : Int), (countP S).fuse, g, (countP S).down) := by
  unfold souffleurref10_count.f countP decP
  have hw : wrap64 ((S.ops : Int) + 1) = ((S.ops + 1 : Nat) : Int) := by unfold wrap64; omega
  rw [hw, hd]
  by_cases h0 : S.fuse = 0
  · have hw2 : wrap64 (S.fuse - 1) = S.fuse - 1 := by unfold wrap64; omega
    rw [if_pos h0, if_pos (by omega), hw2, if_neg (by omega)]
    simp [h0]
  · rw [if_neg h0]
    have hb : (S.fuse == 0) = false := by simpa using h0
    by_cases h1 : S.fuse ≥ 0
    · have hw2 : wrap64 (S.fuse - 1) = S.fuse - 1 := by unfold wrap64; omega
      rw [if_pos h1, hw2, if_neg (by omega)]
      simp only [hb]
    · rw [if_neg h1, if_pos (by omega)]
      have : S.fuse = -1 := by omega
      rw [this]
      rfl
end Go.Proofs.Ytcpkoajnepijkaa

