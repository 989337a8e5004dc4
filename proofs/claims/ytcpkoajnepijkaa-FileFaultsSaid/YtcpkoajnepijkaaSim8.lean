/- The plain model: bounds that the calls keep. No conditions. -/
import Derived.Test.YtcpkoajnepijkaaSim7
namespace Go.Proofs.Ytcpkoajnepijkaa
set_option linter.unusedVariables false
set_option linter.unusedSimpArgs false
open Go.RowKit Go.Proofs.YtcpkoajnepijkaaL

structure Kept (st : FS) (k : Nat) : Prop where
  ops : st.ops ≤ k
  rowl : st.row.length ≤ k
  fuse0 : -1 ≤ st.fuse
  fuse1 : st.fuse ≤ 9223372036854775807
  fault0 : -1 ≤ st.fault
  fault1 : st.fault ≤ 9223372036854775807
  sb : ∀ g, (st.sb g).length ≤ 65536
  sz : ∀ g, st.sz g ≤ 65536
  row : ∀ x ∈ st.row, x.at_ + x.b.length ≤ 65536

section
variable {st : FS} {k : Nat}
theorem Kept.fine (h : Kept st k) (hk : k ≤ 100000) : Fine st := ⟨Nat.le_trans h.ops (by omega), h.fuse0, h.fuse1, h.fault0, h.fault1⟩
theorem Kept.sized (h : Kept st k) (hk : k ≤ 100000) : Sized st := ⟨fun g _ => h.sb g, h.row, Nat.le_trans h.rowl (by omega)⟩
theorem Kept.mono (h : Kept st k) {m : Nat} (hk : k ≤ m) : Kept st m := ⟨Nat.le_trans h.ops hk, Nat.le_trans h.rowl hk, h.fuse0, h.fuse1, h.fault0, h.fault1, h.sb, h.sz, h.row⟩
theorem kept_new : Kept newS 0 := ⟨Nat.le_refl _, Nat.le_refl _, by decide, by decide, by decide, by decide, fun _ => by simp [newS], fun _ => by simp [newS], fun x h => by cases h⟩
theorem Kept.count (h : Kept st k) : Kept (opS st) (k + 1) := by
  refine ⟨Nat.succ_le_succ h.ops, Nat.le_trans h.rowl (Nat.le_succ _), ?_, ?_, h.fault0, h.fault1, h.sb, h.sz, h.row⟩
  · show -1 ≤ (if st.fuse - 1 < -1 then -1 else st.fuse - 1)
    split <;> omega
  · show (if st.fuse - 1 < -1 then -1 else st.fuse - 1) ≤ _
    have := h.fuse1
    split <;> omega
theorem Kept.fault_ (h : Kept st k) : Kept (faultS st) k := by
  refine ⟨h.ops, h.rowl, h.fuse0, h.fuse1, ?_, ?_, h.sb, h.sz, h.row⟩
  · show -1 ≤ (if st.fault - 1 < -1 then -1 else st.fault - 1)
    split <;> omega
  · show (if st.fault - 1 < -1 then -1 else st.fault - 1) ≤ _
    have := h.fault1
    split <;> omega
theorem Kept.all (h : Kept st k) (g : Nat) : (allL st g).length ≤ 65536 := layAll_le (h.sb g) h.row
theorem Kept.forget (h : Kept st k) (g : Nat) : Kept (forgetS st g) k :=
  ⟨h.ops, Nat.le_trans (List.length_filter_le _ _) h.rowl, h.fuse0, h.fuse1, h.fault0, h.fault1, h.sb, h.sz, fun x hx => h.row x (List.mem_filter.1 hx).1⟩
theorem upd_le {f : Nat → Nat} {g n m : Nat} (h : ∀ k, f k ≤ m) (hn : n ≤ m) : ∀ k, upd f g n k ≤ m := fun k => by
  unfold upd
  split
  · exact hn
  · exact h k
theorem updB_le {f : Nat → List Int} {g m : Nat} {b : List Int} (h : ∀ k, (f k).length ≤ m) (hn : b.length ≤ m) : ∀ k, (upd f g b k).length ≤ m := fun k => by
  unfold upd
  split
  · exact hn
  · exact h k
theorem Kept.begun_ (h : Kept st k) (s : ByteArray) (may : Bool) : Kept (begunL st s may).2.2 (k + 1) := by
  unfold begunL
  split
  · exact h.mono (Nat.le_succ _)
  · split
    · exact h.mono (Nat.le_succ _)
    · split
      · exact h.mono (Nat.le_succ _)
      · split
        · exact h.count
        · exact h.count
theorem Kept.sync (h : Kept st k) (s : ByteArray) : Kept (syncL st s).2 (k + 1) := by
  have hb := h.begun_ s true
  unfold syncL
  split
  · rename_i g n st' e
    rw [e] at hb
    have h2 : Kept { st' with sb := upd st'.sb g (allL st' g), sz := upd st'.sz g (st'.sz g) } (k + 1) := ⟨hb.ops, hb.rowl, hb.fuse0, hb.fuse1, hb.fault0, hb.fault1, updB_le hb.sb (hb.all g), upd_le hb.sz (hb.sz g), hb.row⟩
    exact h2.forget g
  · rename_i n st' e
    rw [e] at hb
    exact hb
theorem Kept.cut (h : Kept st k) (s : ByteArray) (i : Int) : Kept (cutL st s i).2 (k + 1) := by
  have hb := h.begun_ s true
  unfold cutL
  split
  · rename_i g n st' e
    rw [e] at hb
    have h2 := hb.forget g
    have hc : cutN i (allL st' g).length ≤ 65536 := Nat.le_trans (cutN_le _ _) (hb.all g)
    exact ⟨h2.ops, h2.rowl, h2.fuse0, h2.fuse1, h2.fault0, h2.fault1, updB_le h2.sb (by rw [List.length_take]; omega), upd_le h2.sz hc, h2.row⟩
  · rename_i n st' e
    rw [e] at hb
    exact hb
theorem Kept.remove (h : Kept st k) (s : ByteArray) : Kept (removeL st s).2 (k + 1) := by
  have hb := h.begun_ s true
  unfold removeL
  split
  · rename_i g n st' e
    rw [e] at hb
    have h2 := hb.forget g
    exact ⟨h2.ops, h2.rowl, h2.fuse0, h2.fuse1, h2.fault0, h2.fault1, h2.sb, h2.sz, h2.row⟩
  · rename_i n st' e
    rw [e] at hb
    exact hb
theorem Kept.rename (h : Kept st k) (s t : ByteArray) : Kept (renameL st s t).2 (k + 1) := by
  have hb := h.begun_ s (namedB t)
  unfold renameL
  split
  · rename_i g n st' e
    rw [e] at hb
    split
    · exact hb
    · unfold renameS
      split
      · rename_i old _
        have h2 := hb.forget old
        exact ⟨h2.ops, h2.rowl, h2.fuse0, h2.fuse1, h2.fault0, h2.fault1, h2.sb, h2.sz, h2.row⟩
      · exact ⟨hb.ops, hb.rowl, hb.fuse0, hb.fuse1, hb.fault0, hb.fault1, hb.sb, hb.sz, hb.row⟩
  · rename_i n st' e
    rw [e] at hb
    exact hb
theorem Kept.crash (h : Kept st k) (keep : List Bool) : Kept (crashL st keep) k := by
  have hc := crashSb_le (keep := keep) h.sb h.row
  refine ⟨h.ops, Nat.zero_le _, by show (-1 : Int) ≤ -1; decide, by show (-1 : Int) ≤ _; decide, by show (-1 : Int) ≤ -1; decide, by show (-1 : Int) ≤ _; decide, hc, fun g => ?_, fun x hx => by cases hx⟩
  show (if g ∈ st.files.map (·.2) then (crashSb keep st.row st.sb g).length else st.sz g) ≤ 65536
  split
  · exact hc g
  · exact h.sz g
end

end Go.Proofs.Ytcpkoajnepijkaa
