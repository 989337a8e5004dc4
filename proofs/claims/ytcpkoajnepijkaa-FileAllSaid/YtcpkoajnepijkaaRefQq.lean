/- Parts of the proof of the law that the last file states; declarations that nothing mentions are left out by a program. No conditions. -/
import Derived.Test.YtcpkoajnepijkaaRefPq
set_option linter.unusedVariables false
set_option linter.unusedSimpArgs false
namespace Go.Proofs.Ytcpkoajnepijkaa
open Go.RowKit Go.Proofs.YtcpkoajnepijkaaL Go.Proofs.YtcpkoajnepijkaaW.PrintWords Go.Proofs.Ytcpkoajnepijkaa.Q
theorem splice_set {α : Type} (L : List α) (k : Nat) (c : List α) (x : α) (h : k + c.length < L.length) : (splice L k c).set (k + c.length) x = splice L k (c ++ [x]) := by
  unfold splice
  have h1 : (L.take k).length = k := by rw [List.length_take]; omega
  rw [List.set_append_right _ _ (by rw [h1]; omega), h1, Nat.add_sub_cancel_left, List.set_append_right _ _ (Nat.le_refl _), Nat.sub_self, List.drop_eq_getElem_cons h, List.set_cons_zero]
  simp [Nat.add_assoc]
theorem splice_nil {α : Type} (L : List α) (k : Nat) : splice L k [] = L := by simp [splice]
theorem laid_step (b : List Int) (a : Nat) (c : List Int) (x : Int) : (laidL b a c ++ List.replicate (a + c.length + 1 - (laidL b a c).length) 0).set (a + c.length) x = laidL b a (c ++ [x]) := by
  have hP : laidL b a c ++ List.replicate (a + c.length + 1 - (laidL b a c).length) 0 = splice (b ++ List.replicate (a + c.length + 1 - b.length) 0) a c := by
    by_cases hc : c.length = 0
    · have : c = [] := List.eq_nil_of_length_eq_zero hc
      subst this
      rw [splice_nil]
      simp [laidL]
    · rw [laidL_length, if_neg hc]
      have e1 : laidL b a c = splice (b ++ List.replicate (a + c.length - b.length) 0) a c := by unfold laidL; rw [if_neg hc]
      rw [e1, ← splice_append _ _ _ _ (by simp; omega), List.append_assoc, List.replicate_append_replicate]
      congr 3
      omega
  rw [hP, splice_set _ _ _ _ (by simp; omega)]
  unfold laidL
  rw [if_neg (by simp), List.length_append, List.length_singleton]
  rfl
theorem over_pad (b c : List Int) (no a j : Nat) (hj : j < c.length) (hb : a + c.length ≤ 1000000) : ∀ (p k : Nat) (out : List Int), p = a + j + 1 - out.length → out.length ≤ 100000000 → p < k →
    souffleurref10_over.l1 k out (j : Int) no (a : Int) c = souffleurref10_over.l0 (k - p - 1) ((out ++ List.replicate p 0).set (a + j) c[j]) ((j + 1 : Nat) : Int) no a c := by
  intro p
  induction p with
  | zero =>
    intro k out hp ho hk
    obtain ⟨k, rfl⟩ : ∃ m, k = m + 1 := ⟨k - 1, by omega⟩
    have hw : wrap64 ((a : Int) + (j : Int)) = ((a + j : Nat) : Int) := by unfold wrap64; omega
    simp only [souffleurref10_over.l1]
    rw [hw, if_neg (by omega), if_pos (by omega), if_pos (by omega), if_pos (by omega), if_pos (by omega), wsucc hj (by omega)]
    have hr : rd c (j : Int) = c[j] := by unfold rd; simp [hj]
    rw [hr, Int.toNat_natCast]
    simp
  | succ p ih =>
    intro k out hp ho hk
    obtain ⟨k, rfl⟩ : ∃ m, k = m + 1 := ⟨k - 1, by omega⟩
    have hw : wrap64 ((a : Int) + (j : Int)) = ((a + j : Nat) : Int) := by unfold wrap64; omega
    simp only [souffleurref10_over.l1]
    rw [hw, if_pos (by omega), if_pos (by omega), ih k (out ++ [0]) (by simp; omega) (by simp; omega) (by omega)]
    rw [List.append_assoc, show k + 1 - (p + 1) - 1 = k - p - 1 by omega]
    rfl
theorem over_loop (b c : List Int) (no a : Nat) (hb : b.length ≤ 1000000) (ha : a + c.length ≤ 1000000) : ∀ (d j k : Nat) (out : List Int), j + d = c.length → out = laidL b a (c.take j) → 2 * d + (a + c.length - out.length) < k →
    souffleurref10_over.l0 k out (j : Int) no (a : Int) c = some (laidL b a c) := by
  intro d
  induction d with
  | zero =>
    intro j k out hj ho hk
    obtain ⟨k, rfl⟩ : ∃ m, k = m + 1 := ⟨k - 1, by omega⟩
    simp only [souffleurref10_over.l0]
    rw [if_neg (by omega), ho, List.take_of_length_le (by omega)]
  | succ d ih =>
    intro j k out hj ho hk
    obtain ⟨k, rfl⟩ : ∃ m, k = m + 1 := ⟨k - 1, by omega⟩
    have hlt : j < c.length := by omega
    have hol : out.length ≤ 2000000 := by
      rw [ho, laidL_length, List.length_take]
      split <;> omega
    simp only [souffleurref10_over.l0]
    rw [if_pos (by omega), over_pad b c no a j hlt ha _ k out rfl (by omega) (by omega)]
    have hstep := laid_step b a (c.take j) c[j]
    have htl : (c.take j).length = j := by rw [List.length_take]; omega
    rw [htl, ← ho, ← List.take_succ_eq_append_getElem hlt] at hstep
    have hpe : a + j + 1 - out.length = a + j + 1 - out.length := rfl
    rw [hstep]
    refine ih (j + 1) _ _ (by omega) rfl ?_
    have hn : (laidL b a (c.take (j + 1))).length = max out.length (a + j + 1) := by
      rw [← hstep, List.length_set, List.length_append, List.length_replicate]
      omega
    rw [hn]
    omega
theorem over_tells (b : List Int) (p : PP) (hb : b.length ≤ 1000000) (ha : p.at_ + p.b.length ≤ 100000) {k : Nat} (hk : 300001 ≤ k) : souffleurref10_over.f k b (toP p).f0 (toP p).f1 (toP p).f2 = some (overP b p) := by
  unfold souffleurref10_over.f
  simp only [Option.bind_some, List.nil_append, List.length_nil, toP]
  rw [if_pos (by omega)]
  exact over_loop b p.b p.no p.at_ hb (by omega) p.b.length 0 k b (by omega) (by simp [laidL]) (by omega)
def RowB (row : List PP) : Prop := row.length ≤ 100000 ∧ ∀ p ∈ row, p.at_ + p.b.length ≤ 65536
theorem over_len {b : List Int} {p : PP} (hb : b.length ≤ 65536) (hp : p.at_ + p.b.length ≤ 65536) : (overP b p).length ≤ 65536 := by
  unfold overP
  rw [laidL_length]
  split <;> omega
theorem bytes_loop (nm : ByteArray) (b0 : List Int) (row : List PP) (hr : RowB row) : ∀ (d j k : Nat) (acc : List Int), j + d = row.length → acc.length ≤ 65536 → 300001 + d < k →
    souffleurref10_Bytes.l0 k acc (j : Int) nm b0 (row.map toP) = some ((row.drop j).foldl overP acc) := by
  intro d
  induction d with
  | zero =>
    intro j k acc hj ha hk
    obtain ⟨k, rfl⟩ : ∃ m, k = m + 1 := ⟨k - 1, by omega⟩
    simp only [souffleurref10_Bytes.l0]
    rw [if_neg (by rw [List.length_map]; omega), List.drop_of_length_le (by omega)]
    rfl
  | succ d ih =>
    intro j k acc hj ha hk
    obtain ⟨k, rfl⟩ : ∃ m, k = m + 1 := ⟨k - 1, by omega⟩
    have hlt : j < row.length := by omega
    have hp := hr.2 _ (List.getElem_mem hlt)
    have hrl := hr.1
    simp only [souffleurref10_Bytes.l0]
    rw [if_pos (by rw [List.length_map]; omega), if_pos (by omega), rd_T91_get hlt, over_tells acc row[j] (by omega) (by omega) (by omega)]
    simp only [Option.bind_some]
    rw [wsucc hlt (by omega), ih (j + 1) k _ (by omega) (over_len ha hp) (by omega), List.drop_eq_getElem_cons hlt]
    rfl
theorem bytes_tells (f : PF) (hb : f.b.length ≤ 65536) (hr : RowB f.row) {k : Nat} (hk : 500000 ≤ k) : souffleurref10_Bytes.f k (toF f).f0 (toF f).f1 (toF f).f2 = some (bytesP f) := by
  have hrl := hr.1
  unfold souffleurref10_Bytes.f
  have := bytes_loop f.name f.b f.row hr f.row.length 0 k f.b (by omega) hb (by omega)
  have hlt : ([] : List Int).length + (toF f).f1.length < 140737488355328 := by simp [toF]; omega
  simp only [Option.bind_some]
  rw [if_pos hlt]
  exact this
def BoundP (S : PS) : Prop := S.l.length ≤ 1000 ∧ ∀ f ∈ S.l, f.b.length ≤ 65536 ∧ RowB f.row
theorem read_tells (S : PS) (h : BoundP S) (s : ByteArray) {k : Nat} (hk : 500000 ≤ k) (a b c e : Int) : souffleurref10_Read.f k (S.l.map toF) a b c e S.down s = some (readP S s) := by
  unfold souffleurref10_Read.f readP
  cases hd : S.down with
  | true => simp
  | false =>
    have h1 := h.1
    rw [if_neg (by simp), if_neg (by simp), find_tells S.l (by omega) s a b c e false (by omega)]
    simp only [Option.bind_some]
    rcases idx_find s S.l 0 with ⟨e1, e2⟩ | ⟨i, f, e1, e2, e3⟩
    · rw [e1, e2, if_pos (by omega)]
    · obtain ⟨hi, hf⟩ := List.getElem?_eq_some_iff.1 e2
      rw [e1, e3, Nat.zero_add, if_neg (by omega), if_pos (by omega), if_pos (by rw [List.length_map]; omega), rd_T47_get hi, hf]
      have := h.2 f (hf ▸ List.getElem_mem hi)
      rw [bytes_tells f this.1 this.2 hk]
      rfl
theorem pending_loop (l : List PF) (hl : l.length ≤ 1000) (hr : ∀ f ∈ l, f.row.length ≤ 100000) (a b c e : Int) (g : Bool) : ∀ (d j k : Nat) (n : Nat), j + d = l.length → n ≤ j * 100000 → d < k →
    souffleurref10_Pending.l0 k (n : Int) (j : Int) (l.map toF) a b c e g = some (((n + ((l.drop j).map fun f => f.row.length).sum : Nat) : Int)) := by
  intro d
  induction d with
  | zero =>
    intro j k n hj hn hk
    obtain ⟨k, rfl⟩ : ∃ m, k = m + 1 := ⟨k - 1, by omega⟩
    simp only [souffleurref10_Pending.l0]
    rw [if_neg (by rw [List.length_map]; omega), List.drop_of_length_le (by omega)]
    rfl
  | succ d ih =>
    intro j k n hj hn hk
    obtain ⟨k, rfl⟩ : ∃ m, k = m + 1 := ⟨k - 1, by omega⟩
    have hlt : j < l.length := by omega
    have hp := hr _ (List.getElem_mem hlt)
    simp only [souffleurref10_Pending.l0]
    have hw : wrap64 ((n : Int) + (((toF l[j]).f2).length : Int)) = ((n + l[j].row.length : Nat) : Int) := by
      have : (toF l[j]).f2.length = l[j].row.length := by simp [toF]
      rw [this]
      unfold wrap64
      omega
    rw [if_pos (by rw [List.length_map]; omega), if_pos (by omega), rd_T47_get hlt, hw, wsucc hlt (by omega), ih (j + 1) k _ (by omega) (by omega) (by omega), List.drop_eq_getElem_cons hlt]
    rw [List.map_cons, List.sum_cons, Nat.add_assoc]
theorem pending_tells (S : PS) (h : BoundP S) {k : Nat} (hk : 2000 ≤ k) (a b c e : Int) (g : Bool) : souffleurref10_Pending.f k (S.l.map toF) a b c e g = some ((pendingP S : Nat) : Int) := by
  have := pending_loop S.l h.1 (fun f hf => (h.2 f hf).2.1) a b c e g S.l.length 0 k 0 (by omega) (by omega) (by have := h.1; omega)
  rw [List.drop_zero, Nat.zero_add] at this
  exact this
def cntP (no : Nat) (row : List PP) : Nat := (row.filter fun p => decide (p.no < no)).length
theorem cnt_cons (no : Nat) (p : PP) (r : List PP) : cntP no (p :: r) = (if p.no < no then 1 else 0) + cntP no r := by
  unfold cntP
  rw [List.filter_cons]
  by_cases h : p.no < no
  · simp [h]; omega
  · simp [h]
theorem cnt_le (no : Nat) (r : List PP) : cntP no r ≤ r.length := List.length_filter_le _ _
theorem rank_inner (l : List PF) (hl : l.length ≤ 1000) (no : Nat) (a b c e : Int) (g : Bool) {i : Nat} (hi : i < l.length) (hr : l[i].row.length ≤ 100000) : ∀ (d j k n : Nat), j + d = l[i].row.length → n + d ≤ 1000000000 → d < k →
    souffleurref10_rank.l1 k (no : Int) (n : Int) (i : Int) (j : Int) (l.map toF) a b c e g = souffleurref10_rank.l0 (k - d - 1) (no : Int) ((n + cntP no (l[i].row.drop j) : Nat) : Int) ((i + 1 : Nat) : Int) (l.map toF) a b c e g := by
  intro d
  induction d with
  | zero =>
    intro j k n hj hn hk
    obtain ⟨k, rfl⟩ : ∃ m, k = m + 1 := ⟨k - 1, by omega⟩
    simp only [souffleurref10_rank.l1]
    rw [if_pos (by omega), if_pos (by rw [List.length_map]; omega), rd_T47_get hi, if_neg (by simp only [toF, List.length_map]; omega), wsucc hi (by omega), List.drop_of_length_le (by omega)]
    rfl
  | succ d ih =>
    intro j k n hj hn hk
    obtain ⟨k, rfl⟩ : ∃ m, k = m + 1 := ⟨k - 1, by omega⟩
    have hlt : j < l[i].row.length := by omega
    simp only [souffleurref10_rank.l1]
    have hrd : rd_T91 (toF l[i]).f2 (j : Int) = toP l[i].row[j] := rd_T91_get hlt
    have hlen : (toF l[i]).f2.length = l[i].row.length := by simp [toF]
    rw [if_pos (by omega), if_pos (by rw [List.length_map]; omega), rd_T47_get hi, if_pos (by rw [hlen]; omega), if_pos (by omega), hrd, wsucc hlt (by omega), List.drop_eq_getElem_cons hlt, cnt_cons]
    have hw : wrap64 ((n : Int) + 1) = ((n + 1 : Nat) : Int) := by unfold wrap64; omega
    by_cases h : l[i].row[j].no < no
    · rw [if_pos (by show ((l[i].row[j].no : Nat) : Int) < (no : Int); omega), hw, ih (j + 1) k (n + 1) (by omega) (by omega) (by omega), if_pos h, show k + 1 - (d + 1) - 1 = k - d - 1 by omega, Nat.add_assoc]
    · rw [if_neg (by show ¬ ((l[i].row[j].no : Nat) : Int) < (no : Int); omega), ih (j + 1) k n (by omega) (by omega) (by omega), if_neg h, show k + 1 - (d + 1) - 1 = k - d - 1 by omega, Nat.zero_add]
theorem rank_outer (l : List PF) (hl : l.length ≤ 1000) (hr : ∀ f ∈ l, f.row.length ≤ 100000) (no : Nat) (a b c e : Int) (g : Bool) : ∀ (d i k n : Nat), i + d = l.length → n ≤ i * 100000 → d * 200000 < k →
    souffleurref10_rank.l0 k (no : Int) (n : Int) (i : Int) (l.map toF) a b c e g = some (((n + ((l.drop i).map fun f => cntP no f.row).sum : Nat) : Int)) := by
  intro d
  induction d with
  | zero =>
    intro i k n hj hn hk
    obtain ⟨k, rfl⟩ : ∃ m, k = m + 1 := ⟨k - 1, by omega⟩
    simp only [souffleurref10_rank.l0]
    rw [if_neg (by rw [List.length_map]; omega), List.drop_of_length_le (by omega)]
    rfl
  | succ d ih =>
    intro i k n hj hn hk
    obtain ⟨k, rfl⟩ : ∃ m, k = m + 1 := ⟨k - 1, by omega⟩
    have hlt : i < l.length := by omega
    have hp := hr _ (List.getElem_mem hlt)
    have hc := cnt_le no l[i].row
    simp only [souffleurref10_rank.l0]
    have h0 := rank_inner l hl no a b c e g hlt hp l[i].row.length 0 k n (by omega) (by omega) (by omega)
    rw [List.drop_zero] at h0
    rw [if_pos (by rw [List.length_map]; omega)]
    refine Eq.trans h0 ?_
    have hfu : d * 200000 < k - l[i].row.length - 1 := by
      rw [Nat.succ_mul] at hk
      generalize d * 200000 = z at hk ⊢
      omega
    have hnu : n + cntP no l[i].row ≤ (i + 1) * 100000 := by
      rw [Nat.succ_mul]
      generalize i * 100000 = z at hn ⊢
      omega
    rw [ih (i + 1) _ _ (by omega) hnu hfu, List.drop_eq_getElem_cons hlt, List.map_cons, List.sum_cons, Nat.add_assoc]
theorem rank_tells (S : PS) (h : BoundP S) (no : Nat) {k : Nat} (hk : S.l.length * 200000 < k) (a b c e : Int) (g : Bool) : souffleurref10_rank.f k (S.l.map toF) a b c e g (no : Int) = some ((rankP S no : Nat) : Int) := by
  have hr : ∀ f ∈ S.l, f.row.length ≤ 100000 := fun f hf => (h.2 f hf).2.1
  have h2 := rank_outer S.l h.1 hr no a b c e g S.l.length 0 k 0
  have h3 := h2 (Nat.zero_add _) (Nat.zero_le _) hk
  rw [List.drop_zero, Nat.zero_add] at h3
  exact h3
theorem count_tells (S : PS) (l : List S47) (n : Int) (hf0 : -1 ≤ S.fuse) (hf1 : S.fuse ≤ 9223372036854775807) (ho : S.ops ≤ 1000000) (hd : S.down = false) (g : Int) : souffleurref10_count.f l n S.ops S.fuse g S.down = some (l, n, ((countP S).ops : Int), (countP S).fuse, g, (countP S).down) := by
  unfold souffleurref10_count.f countP decP
  have hw : wrap64 ((S.ops : Int) + 1) = ((S.ops + 1 : Nat) : Int) := by unfold wrap64; omega
  rw [hw, hd]
  by_cases h0 : S.fuse = 0
  · have hw2 : wrap64 (S.fuse - 1) = S.fuse - 1 := by unfold wrap64; omega
    rw [if_pos h0, if_pos (by omega), hw2, if_neg (by omega)]
    simp [h0]
  · rw [if_neg h0]
    have hb : (S.fuse == 0) = false := by simpa using h0
    by_cases h1 : S.fuse ≥ 0
    · have hw2 : wrap64 (S.fuse - 1) = S.fuse - 1 := by unfold wrap64; omega
      rw [if_pos h1, hw2, if_neg (by omega)]
      simp only [hb]
    · rw [if_neg h1, if_pos (by omega)]
      have : S.fuse = -1 := by omega
      rw [this]
      rfl
end Go.Proofs.Ytcpkoajnepijkaa

