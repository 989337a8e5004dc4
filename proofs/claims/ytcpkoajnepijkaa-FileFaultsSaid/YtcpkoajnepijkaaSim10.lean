/- The file system's calls, by the plain model, the others. No conditions. -/
import Derived.Test.YtcpkoajnepijkaaSim9
namespace Go.Proofs.Ytcpkoajnepijkaa
set_option linter.unusedVariables false
set_option linter.unusedSimpArgs false
open Go.RowKit Go.Proofs.YtcpkoajnepijkaaL Go.Proofs.YtcpkoajnepijkaaW.PrintWords

/-- What is left behind a call that tells a number. -/
def LeftP (base : Nat) (Lz : Nat → Prop) (w : World) (F : Nat) (fp : Nat → Prop) (k : Nat) (e : Ending) (w' : World) (x : Int × PS) : Prop :=
  e = .returned (.int .i64 x.1) ∧ (∃ fp', FSat base Lz w' F fp' x.2 k ∧ ∀ g, fp' g → fp g ∨ w.heap.size ≤ g) ∧ Only fp w w'

section
variable {base : Nat} {Lz : Nat → Prop} {w w' : World} {F : Nat} {fp : Nat → Prop} {S : PS} {k : Nat}
theorem fsat_new (hb : base ≤ w.heap.size) (hlz : ∀ g, Lz g → g < w.heap.size) :
    Calls Try.prog 12 #[] w fun e w' => ∃ F fp, e = .returned (ptr F) ∧ FSat base Lz w' F fp newP 0 ∧ (∀ g, fp g → w.heap.size ≤ g) ∧ Below w.heap.size w w' := by
  refine (new_calls hb hlz).mono ?_
  rintro e w' ⟨F, rfl, h1, h2⟩
  exact ⟨F, _, rfl, ⟨newS, [], h1, rel_new, kept_new⟩, fun g hg => hg.1, h2⟩
theorem FSat.sync (h : FSat base Lz w F fp S k) (hk : k ≤ 100000) (s : ByteArray) : Calls Try.prog 29 #[ptr F, .string s] w fun e w' => LeftP base Lz w F fp (k + 1) e w' (syncP S s) := by
  obtain ⟨st, nos, h1, h2, h3⟩ := h
  obtain ⟨r1, nos', r2⟩ := h2.sync s
  refine (sync_calls h1 (h3.fine hk) (h3.sized hk) s).mono ?_
  rintro e w' ⟨a1, ⟨fp', a2, a3⟩, a4⟩
  exact ⟨by rw [a1, r1], ⟨fp', ⟨_, nos', a2, r2, h3.sync s⟩, a3⟩, a4⟩
theorem FSat.cut (h : FSat base Lz w F fp S k) (hk : k ≤ 100000) (s : ByteArray) (i : Int) : Calls Try.prog 32 #[ptr F, .string s, .int .i64 i] w fun e w' => LeftP base Lz w F fp (k + 1) e w' (cutP S s i) := by
  obtain ⟨st, nos, h1, h2, h3⟩ := h
  obtain ⟨r1, nos', r2⟩ := h2.cut s i
  refine (cut_calls h1 (h3.fine hk) (h3.sized hk) s i).mono ?_
  rintro e w' ⟨a1, ⟨fp', a2, a3⟩, a4⟩
  exact ⟨by rw [a1, r1], ⟨fp', ⟨_, nos', a2, r2, h3.cut s i⟩, a3⟩, a4⟩
theorem FSat.remove (h : FSat base Lz w F fp S k) (hk : k ≤ 100000) (s : ByteArray) : Calls Try.prog 33 #[ptr F, .string s] w fun e w' => LeftP base Lz w F fp (k + 1) e w' (removeP S s) := by
  obtain ⟨st, nos, h1, h2, h3⟩ := h
  obtain ⟨r1, nos', r2⟩ := h2.remove_ s
  refine (remove_calls h1 (h3.fine hk) (h3.sized hk) s).mono ?_
  rintro e w' ⟨a1, ⟨fp', a2, a3⟩, a4⟩
  exact ⟨by rw [a1, r1], ⟨fp', ⟨_, nos', a2, r2, h3.remove s⟩, a3⟩, a4⟩
theorem FSat.rename (h : FSat base Lz w F fp S k) (hk : k ≤ 100000) (s t : ByteArray) : Calls Try.prog 31 #[ptr F, .string s, .string t] w fun e w' => LeftP base Lz w F fp (k + 1) e w' (renameP S s t) := by
  obtain ⟨st, nos, h1, h2, h3⟩ := h
  obtain ⟨r1, nos', r2⟩ := h2.rename s t
  refine (rename_calls h1 (h3.fine hk) (h3.sized hk) s t).mono ?_
  rintro e w' ⟨a1, ⟨fp', a2, a3⟩, a4⟩
  exact ⟨by rw [a1, r1], ⟨fp', ⟨_, nos', a2, r2, h3.rename s t⟩, a3⟩, a4⟩
theorem FSat.arm (h : FSat base Lz w F fp S k) {n : Int} (hn : n ≤ 9223372036854775807) : Calls Try.prog 24 #[ptr F, .int .i64 n] w fun e w' => e = .returned (.tuple #[]) ∧ FSat base Lz w' F fp { S with fuse := if n < -1 then -1 else n } k ∧ Only fp w w' := by
  obtain ⟨st, nos, h1, h2, h3⟩ := h
  refine (arm_calls h1 n).mono ?_
  rintro e w' ⟨rfl, a1, a2⟩
  refine ⟨rfl, ⟨_, nos, a1, h2.arm _, ⟨h3.ops, h3.rowl, ?_, ?_, h3.fault0, h3.fault1, h3.sb, h3.sz, h3.row⟩⟩, a2.mono (fun g _ e => e ▸ h1.fpF)⟩
  · show -1 ≤ (if n < -1 then -1 else n)
    split <;> omega
  · show (if n < -1 then -1 else n) ≤ _
    split <;> omega
theorem FSat.fault (h : FSat base Lz w F fp S k) {n : Int} (hn : n ≤ 9223372036854775807) : Calls Try.prog 28 #[ptr F, .int .i64 n] w fun e w' => e = .returned (.tuple #[]) ∧ FSat base Lz w' F fp { S with fault := if n < -1 then -1 else n } k ∧ Only fp w w' := by
  obtain ⟨st, nos, h1, h2, h3⟩ := h
  refine (fault_calls h1 n).mono ?_
  rintro e w' ⟨rfl, a1, a2⟩
  refine ⟨rfl, ⟨_, nos, a1, h2.armFault _, ⟨h3.ops, h3.rowl, h3.fuse0, h3.fuse1, ?_, ?_, h3.sb, h3.sz, h3.row⟩⟩, a2.mono (fun g _ e => e ▸ h1.fpF)⟩
  · show -1 ≤ (if n < -1 then -1 else n)
    split <;> omega
  · show (if n < -1 then -1 else n) ≤ _
    split <;> omega
theorem FSat.crash (h : FSat base Lz w F fp S k) (hk : k ≤ 100000) {Gk ok ck : Nat} {Ak : Option Addr} {keep : List Bool} (hAk : 0 < keep.length → Ak = some ⟨Gk, ok, none⟩)
    (hkeep : ∀ i (hi : i < keep.length), w.cell? ⟨Gk, ok + i, none⟩ = some (.bool keep[i])) (hkfp : 0 < keep.length → ¬ fp Gk) (hkl : keep.length ≤ 1000000) :
    Calls Try.prog 20 #[ptr F, .slice Ak keep.length ck] w fun e w' => e = .returned (.tuple #[]) ∧ FSat base Lz w' F fp (crashP S keep) k ∧ Only fp w w' := by
  obtain ⟨st, nos, h1, h2, h3⟩ := h
  refine (crash_calls h1 (h3.sized hk) h3.sb hAk hkeep hkfp hkl).mono ?_
  rintro e w' ⟨rfl, a1, a2⟩
  exact ⟨rfl, ⟨_, [], a1, h2.crash keep, h3.crash keep⟩, a2⟩
theorem FSat.copy (h : FSat base Lz w F fp S k) (hk : k ≤ 100000) :
    Calls Try.prog 19 #[ptr F] w fun e w' => ∃ C fp', e = .returned (ptr C) ∧ FSat base Lz w' C fp' S k ∧ (∀ g, fp' g → w.heap.size ≤ g) ∧ Below w.heap.size w w' := by
  obtain ⟨st, nos, h1, h2, h3⟩ := h
  refine (copy_calls h1 (h3.sized hk)).mono ?_
  rintro e w' ⟨C, fp', st', rfl, a1, a2, a3, a4⟩
  have hnd : (st'.files.map (·.1)).Nodup := by
    obtain ⟨M, rv, cells, hx⟩ := a1
    have := hx.map.nodup
    rwa [List.map_map] at this
  exact ⟨C, fp', rfl, ⟨st', nos, a1, h2.copied hnd a2, h3.copied a2⟩, a3, a4⟩
end

end Go.Proofs.Ytcpkoajnepijkaa
