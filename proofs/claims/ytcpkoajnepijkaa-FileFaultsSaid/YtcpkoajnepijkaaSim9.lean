/- The file system's calls, by the plain model. No conditions. -/
import Derived.Test.YtcpkoajnepijkaaSim8
namespace Go.Proofs.Ytcpkoajnepijkaa
set_option linter.unusedVariables false
set_option linter.unusedSimpArgs false
open Go.RowKit Go.Proofs.YtcpkoajnepijkaaL Go.Proofs.YtcpkoajnepijkaaW.PrintWords

theorem Kept.write {st : FS} {k : Nat} (h : Kept st k) (s : ByteArray) (b : List Int) (new : Nat) : Kept (writeL st s b new).2 (k + 1) := by
  unfold writeL
  split
  · exact h.mono (Nat.le_succ _)
  split
  · exact h.mono (Nat.le_succ _)
  split
  · exact h.mono (Nat.le_succ _)
  rename_i hfull
  split
  · exact h.fault_.count
  have hle : ((fnd s st.files).map st.sz).getD 0 + b.length ≤ 65536 := by omega
  cases hg : fnd s st.files with
  | none =>
    rw [hg] at hle
    simp only [Option.map_none, Option.getD_none] at hle
    have h1 : Kept { st with live := new :: st.live, sb := upd st.sb new [], sz := upd st.sz new 0 } k := ⟨h.ops, h.rowl, h.fuse0, h.fuse1, h.fault0, h.fault1, updB_le h.sb (by simp), upd_le h.sz (by omega), h.row⟩
    have h2 := h1.fault_.count
    have e0 : upd st.sz new 0 new = 0 := by simp [upd]
    simp only [Option.getD_none]
    refine ⟨h2.ops, ?_, h2.fuse0, h2.fuse1, h2.fault0, h2.fault1, h2.sb, ?_, ?_⟩
    · show (st.row ++ [_]).length ≤ k + 1
      rw [List.length_append]
      have := h.rowl
      simp
      omega
    · exact upd_le h2.sz (by rw [e0]; omega)
    · intro x hx
      rcases List.mem_append.1 hx with hx | hx
      · exact h.row x hx
      · rw [List.mem_singleton.1 hx]
        show upd st.sz new 0 new + b.length ≤ 65536
        rw [e0]; omega
  | some g =>
    rw [hg] at hle
    simp only [Option.map_some, Option.getD_some] at hle
    have h2 := h.fault_.count
    simp only [Option.getD_some]
    refine ⟨h2.ops, ?_, h2.fuse0, h2.fuse1, h2.fault0, h2.fault1, h2.sb, ?_, ?_⟩
    · show (st.row ++ [_]).length ≤ k + 1
      rw [List.length_append]
      have := h.rowl
      simp
      omega
    · exact upd_le h2.sz hle
    · intro x hx
      rcases List.mem_append.1 hx with hx | hx
      · exact h.row x hx
      · rw [List.mem_singleton.1 hx]
        exact hle
theorem Kept.copied {st st' : FS} {k : Nat} (h : Kept st k) (hc : Copied st st') : Kept st' k := by
  obtain ⟨f, c1, c2, c3, c4, c5, c6, c7, c8, c9, c10, c11⟩ := hc
  refine ⟨c8 ▸ h.ops, by rw [c3, List.length_map]; exact h.rowl, c9 ▸ h.fuse0, c9 ▸ h.fuse1, c10 ▸ h.fault0, c10 ▸ h.fault1, fun g => ?_, fun g => ?_, fun x hx => ?_⟩
  · rcases c6 g with e | ⟨g0, e⟩
    · rw [e]; simp
    · rw [e]; exact h.sb g0
  · rcases c7 g with e | ⟨g0, e⟩
    · rw [e]; omega
    · rw [e]; exact h.sz g0
  · rw [c3] at hx
    obtain ⟨y, hy, rfl⟩ := List.mem_map.1 hx
    exact h.row y hy

/-- Block F is a file system that is this one; fp: what of memory may turn with it; k: a bound. -/
def FSat (base : Nat) (Lz : Nat → Prop) (w : World) (F : Nat) (fp : Nat → Prop) (S : PS) (k : Nat) : Prop := ∃ st nos, FRep base Lz w F fp st ∧ Rel st S nos ∧ Kept st k

section
variable {base : Nat} {Lz : Nat → Prop} {w w' : World} {F : Nat} {fp : Nat → Prop} {S : PS} {k : Nat}
theorem FSat.only {G : Nat → Prop} (h : FSat base Lz w F fp S k) (ho : Only G w w') (hG : Mut base w G) (hd : ∀ g, G g → ¬ fp g) : FSat base Lz w' F fp S k := by
  obtain ⟨st, nos, h1, h2, h3⟩ := h
  exact ⟨st, nos, h1.only ho hG hd, h2, h3⟩
theorem FSat.onlyL {G : Nat → Prop} (h : FSat base Lz w F fp S k) (ho : Only G w w') (hG : MutL base Lz w G) (hd : ∀ g, G g → ¬ fp g) : FSat base Lz w' F fp S k := by
  obtain ⟨st, nos, h1, h2, h3⟩ := h
  exact ⟨st, nos, h1.onlyL ho hG hd, h2, h3⟩
theorem FSat.loose {Lz' : Nat → Prop} (h : FSat base Lz w F fp S k) (hl : ∀ g, Lz' g → Lz g) : FSat base Lz' w F fp S k := by
  obtain ⟨st, nos, h1, h2, h3⟩ := h
  exact ⟨st, nos, h1.loose hl, h2, h3⟩
/-- Blocks that are new become loose. -/
theorem FSat.free {Lz' : Nat → Prop} (h : FSat base Lz w F fp S k) (hb : Below w.heap.size w w') (hl : ∀ g, Lz' g → (Lz g ∨ w.heap.size ≤ g) ∧ g < w'.heap.size) : FSat base Lz' w' F fp S k := by
  obtain ⟨st, nos, h1, h2, h3⟩ := h
  exact ⟨st, nos, h1.free hb hl, h2, h3⟩
theorem FSat.lz (h : FSat base Lz w F fp S k) : ∀ g, Lz g → g < w.heap.size := by
  obtain ⟨st, nos, h1, h2, h3⟩ := h
  exact h1.lz
theorem FSat.mono (h : FSat base Lz w F fp S k) {m : Nat} (hk : k ≤ m) : FSat base Lz w F fp S m := by
  obtain ⟨st, nos, h1, h2, h3⟩ := h
  exact ⟨st, nos, h1, h2, h3.mono hk⟩
theorem FSat.base_le (h : FSat base Lz w F fp S k) : base ≤ w.heap.size := by
  obtain ⟨st, nos, ⟨M, rv, cells, h1⟩, h2, h3⟩ := h
  exact h1.hbase
theorem FSat.below (h : FSat base Lz w F fp S k) (hb : Below w.heap.size w w') : FSat base Lz w' F fp S k := by
  obtain ⟨st, nos, h1, h2, h3⟩ := h
  exact ⟨st, nos, h1.below hb, h2, h3⟩
theorem FSat.mut (h : FSat base Lz w F fp S k) : Mut base w fp := by
  obtain ⟨st, nos, ⟨M, rv, cells, h1⟩, h2, h3⟩ := h
  exact h1.fpb
theorem FSat.lt (h : FSat base Lz w F fp S k) : ∀ g, fp g → g < w.heap.size := by
  obtain ⟨st, nos, ⟨M, rv, cells, h1⟩, h2, h3⟩ := h
  exact h1.fpl

theorem FSat.write (h : FSat base Lz w F fp S k) (hk : k ≤ 100000) (s : ByteArray) {A : Option Addr} {n c : Nat} {b : List Int} (hb : RB base NoL w (.slice A n c) b) (hn : n ≤ 65536) :
    Calls Try.prog 23 #[ptr F, .string s, .slice A n c] w fun e w' => e = .returned (.int .i64 (writeP S s b).1) ∧ (∃ fp', FSat base Lz w' F fp' (writeP S s b).2 (k + 1) ∧ ∀ g, fp' g → fp g ∨ w.heap.size ≤ g) ∧ Only fp w w' := by
  obtain ⟨st, nos, h1, h2, h3⟩ := h
  have hnew : ∀ p ∈ st.files, p.2 ≠ w.heap.size := fun p hp => by
    obtain ⟨M, rv, cells, hx⟩ := h1
    obtain ⟨v, hv, _⟩ := hx.ino _ (hx.filesLive p hp)
    have := hv.lt
    omega
  have hr := h2.write s b hnew
  refine (write_calls h1 (h3.fine hk) s A n c b hb hn (Nat.le_trans h3.rowl hk) (fun g _ => h3.sz g)).mono ?_
  rintro e w' ⟨rfl, ⟨fp', a1, a2⟩, a3⟩
  obtain ⟨r1, nos', r2⟩ := hr
  rw [r1]
  exact ⟨rfl, ⟨fp', ⟨_, nos', a1, r2, h3.write s b _⟩, a2⟩, a3⟩
theorem FSat.read (h : FSat base Lz w F fp S k) (hk : k ≤ 100000) (s : ByteArray) :
    Calls Try.prog 18 #[ptr F, .string s] w fun e w' => ∃ v', e = .returned (.tuple #[v', .int .i64 (readP S s).2]) ∧ Own w' w.heap.size v' (readP S s).1 ∧ Below w.heap.size w w' := by
  obtain ⟨st, nos, h1, h2, h3⟩ := h
  rw [← h2.read s]
  exact read_calls h1 (h3.sized hk) s
theorem FSat.down (h : FSat base Lz w F fp S k) : Calls Try.prog 25 #[ptr F] w fun e w' => e = .returned (.bool S.down) ∧ w' = w := by
  obtain ⟨st, nos, h1, h2, h3⟩ := h
  rw [h2.down]
  exact down_calls h1
theorem FSat.ops (h : FSat base Lz w F fp S k) : Calls Try.prog 26 #[ptr F] w fun e w' => e = .returned (.int .i64 S.ops) ∧ w' = w := by
  obtain ⟨st, nos, h1, h2, h3⟩ := h
  rw [h2.ops]
  exact ops_calls h1
theorem FSat.pending (h : FSat base Lz w F fp S k) : Calls Try.prog 22 #[ptr F] w fun e w' => e = .returned (.int .i64 (pendingP S)) ∧ w' = w := by
  obtain ⟨st, nos, h1, h2, h3⟩ := h
  rw [← h2.pending]
  exact pending_calls h1
end

end Go.Proofs.Ytcpkoajnepijkaa
