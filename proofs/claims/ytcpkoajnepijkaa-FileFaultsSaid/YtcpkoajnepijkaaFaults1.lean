/- FileFaults, by the plain model. No conditions. -/
import Derived.Test.YtcpkoajnepijkaaOne
namespace Go.Proofs.Ytcpkoajnepijkaa
set_option linter.unusedVariables false
set_option linter.unusedSimpArgs false
open Go.RowKit Go.Proofs.YtcpkoajnepijkaaL

def fx (b c : List Int) (k : Nat) : List Int := if k % 2 = 1 then c else b
def fwant (b c : List Int) (n : Nat) : Nat → List Int
  | 0 => []
  | k + 1 => if k = n then fwant b c n k else fwant b c n k ++ fx b c k
def fcnt (n k : Nat) : Nat := if k ≤ n then k else k - 1
def ffault (n k : Nat) : Int := if k ≤ n then (n : Int) - k else -1
structure FInv (b c : List Int) (n k : Nat) (S : PS) : Prop where
  ops : S.ops = k
  fuse : S.fuse = -1
  fault : S.fault = ffault n k
  down : S.down = false
  l : (S.l = [] ∧ fwant b c n k = [] ∧ fcnt n k = 0) ∨ ∃ row, S.l = [⟨nA, [], row⟩] ∧ bytesP ⟨nA, [], row⟩ = fwant b c n k ∧ row.length = fcnt n k
theorem fwant_le {b c : List Int} {n m : Nat} (hb : b.length ≤ m) (hc : c.length ≤ m) : ∀ k, (fwant b c n k).length ≤ k * m
  | 0 => by simp [fwant]
  | k + 1 => by
    have ih := fwant_le (n := n) hb hc k
    have hx : (fx b c k).length ≤ m := by unfold fx; split <;> assumption
    have e : (k + 1) * m = k * m + m := Nat.succ_mul k m
    unfold fwant
    split
    · omega
    · rw [List.length_append]; omega
theorem finv_zero (b c : List Int) (n : Nat) : FInv b c n 0 { newP with fault := n } :=
  ⟨rfl, rfl, by simp [ffault], rfl, .inl ⟨rfl, rfl, by simp [fcnt]⟩⟩
theorem finv_step {b c : List Int} {n k : Nat} {S : PS} (h : FInv b c n k S) (hl : (fwant b c n k).length + (fx b c k).length ≤ 65536) :
    (writeP S nA (fx b c k)).1 = (if k = n then 102 else 0) ∧ FInv b c n (k + 1) (writeP S nA (fx b c k)).2 := by
  obtain ⟨l, no, ops, fuse, fault, down⟩ := S
  obtain ⟨h1, h2, h3, h4, h5⟩ := h
  simp only at h1 h2 h3 h4 h5
  subst h1 h2 h3 h4
  have hz : (ffault n ops == 0) = decide (ops = n) := by
    unfold ffault
    by_cases e : ops = n
    · simp [e]
    · simp only [e, decide_false]
      split
      · have : (n : Int) - ops ≠ 0 := by omega
        simpa using this
      · rfl
  have hd : decP (ffault n ops) = ffault n (ops + 1) := by
    unfold ffault decP
    repeat' split
    all_goals omega
  rcases h5 with ⟨rfl, h6, h7⟩ | ⟨row, rfl, h6, h7⟩
  · rw [write_none _ _ _ _ (by omega), hz]
    by_cases e : ops = n
    · subst e
      simp only [decide_true, if_true]
      refine ⟨(by first | rfl | simp | simp [e]), ⟨rfl, rfl, hd, rfl, .inl ⟨rfl, ?_, ?_⟩⟩⟩
      · simp [fwant, h6]
      · simp [fcnt] at h7
        simp [fcnt, h7]
    · simp only [e, decide_false, if_false, Bool.false_eq_true]
      refine ⟨(by first | rfl | simp | simp [e]), ⟨rfl, rfl, hd, rfl, .inr ⟨_, rfl, ?_, ?_⟩⟩⟩
      · rw [bytesP_one]
        simp [fwant, e, h6]
      · unfold fcnt at h7 ⊢
        simp only [List.length_singleton]
        repeat' split
        all_goals (split at h7 <;> omega)
  · have hb : (bytesP ⟨nA, [], row⟩).length + (fx b c ops).length ≤ 65536 := by rw [h6]; exact hl
    have hw := write_one [] row no ops (ffault n ops) (fx b c ops) hb
    unfold oneP at hw
    rw [hw, hz]
    by_cases e : ops = n
    · subst e
      simp only [decide_true, if_true]
      refine ⟨(by first | rfl | simp | simp [e]), ⟨rfl, rfl, hd, rfl, .inr ⟨row, rfl, ?_, ?_⟩⟩⟩
      · rw [h6]; simp [fwant]
      · rw [h7]; simp [fcnt]
    · simp only [e, decide_false, if_false, Bool.false_eq_true]
      refine ⟨(by first | rfl | simp | simp [e]), ⟨rfl, rfl, hd, rfl, .inr ⟨_, rfl, ?_, ?_⟩⟩⟩
      · rw [bytesP_snoc]
        unfold overP
        rw [laidL_end, h6]
        simp [fwant, e]
      · rw [List.length_append, h7]
        unfold fcnt
        simp only [List.length_singleton]
        repeat' split
        all_goals omega
theorem finv_end {b c : List Int} {n : Nat} {S : PS} (h : FInv b c n (n + 3) S) : readP S nA = (fwant b c n (n + 3), 0) ∧ S.ops = n + 3 ∧ pendingP S = n + 2 := by
  obtain ⟨l, no, ops, fuse, fault, down⟩ := S
  obtain ⟨h1, h2, h3, h4, h5⟩ := h
  simp only at h1 h2 h3 h4 h5
  subst h1 h2 h3 h4
  have hc : fcnt n (n + 3) = n + 2 := by unfold fcnt; rw [if_neg (by omega)]; omega
  rcases h5 with ⟨rfl, h6, h7⟩ | ⟨row, rfl, h6, h7⟩
  · rw [hc] at h7; omega
  · refine ⟨?_, rfl, ?_⟩
    · have := read_one [] row no (n + 3) (-1) (ffault n (n + 3))
      unfold oneP at this
      rw [this, h6]
    · simp [pendingP, h7, hc]

end Go.Proofs.Ytcpkoajnepijkaa
