/- The plain model at one file. No conditions. -/
import Derived.Test.YtcpkoajnepijkaaAlive1
namespace Go.Proofs.Ytcpkoajnepijkaa
set_option linter.unusedVariables false
set_option linter.unusedSimpArgs false
open Go.RowKit Go.Proofs.YtcpkoajnepijkaaL

theorem laidL_end (a b : List Int) : laidL a a.length b = a ++ b := by
  unfold laidL
  split
  · rename_i h
    rw [List.eq_nil_of_length_eq_zero h, List.append_nil]
  · have e : a.length + b.length - a.length = b.length := by omega
    rw [e]
    unfold splice
    simp
theorem laidL_nil (b : List Int) : laidL [] 0 b = b := by
  have := laidL_end [] b
  simpa using this
/-- One file, of this name. -/
def oneP (b : List Int) (row : List PP) (no ops : Nat) (fuse fault : Int) : PS := ⟨[⟨nA, b, row⟩], no, ops, fuse, fault, false⟩
theorem find_one (f : PF) : findP f.name [f] = some f := by simp [findP]
theorem named_A : namedB nA = true := by decide +kernel
theorem with_one {f g : PF} (h : f.name = g.name) : withP g [f] = [g] := by simp [withP, withoutP, insP, h]
theorem read_one (b : List Int) (row : List PP) (no ops : Nat) (fuse fault : Int) : readP (oneP b row no ops fuse fault) nA = (bytesP ⟨nA, b, row⟩, 0) := by
  simp [readP, oneP, findP]
theorem write_one (b : List Int) (row : List PP) (no ops : Nat) (fault : Int) (c : List Int) (h : (bytesP ⟨nA, b, row⟩).length + c.length ≤ 65536) :
    writeP (oneP b row no ops (-1) fault) nA c = if fault == 0 then (102, oneP b row no (ops + 1) (-1) (decP fault)) else (0, oneP b (row ++ [⟨no, (bytesP ⟨nA, b, row⟩).length, c⟩]) (no + 1) (ops + 1) (-1) (decP fault)) := by
  have h' : ¬ 65536 < (bytesP ⟨nA, b, row⟩).length + c.length := by omega
  unfold writeP oneP
  simp [findP, named_A, h', countP, decP, with_one]
theorem write_none (no ops : Nat) (fault : Int) (c : List Int) (h : c.length ≤ 65536) :
    writeP ⟨[], no, ops, -1, fault, false⟩ nA c = if fault == 0 then (102, ⟨[], no, ops + 1, -1, decP fault, false⟩) else (0, oneP [] [⟨no, 0, c⟩] (no + 1) (ops + 1) (-1) (decP fault)) := by
  have h' : ¬ 65536 < c.length := by omega
  unfold writeP oneP
  simp [findP, named_A, h', countP, decP, bytesP, withP, withoutP, insP]
theorem sync_one (b : List Int) (row : List PP) (no ops : Nat) (fault : Int) : syncP (oneP b row no ops (-1) fault) nA = (0, oneP (bytesP ⟨nA, b, row⟩) [] no (ops + 1) (-1) fault) := by
  unfold syncP beginP oneP
  simp [findP, countP, decP, with_one]
theorem crash_one (b : List Int) (row : List PP) (no ops : Nat) (fuse fault : Int) (keep : List Bool) :
    crashP (oneP b row no ops fuse fault) keep = oneP ((row.filter fun p => keptAt keep (rankP (oneP b row no ops fuse fault) p.no)).foldl overP b) [] no ops (-1) (-1) := by
  simp [crashP, oneP]
theorem bytesP_nil (b : List Int) : bytesP ⟨nA, b, []⟩ = b := rfl
theorem bytesP_snoc (b : List Int) (row : List PP) (p : PP) : bytesP ⟨nA, b, row ++ [p]⟩ = overP (bytesP ⟨nA, b, row⟩) p := by simp [bytesP]
theorem bytesP_one (no : Nat) (c : List Int) : bytesP ⟨nA, [], [⟨no, 0, c⟩]⟩ = c := by simp [bytesP, overP, laidL_nil]

/-! FileOwn -/
def ownS1 (b : List Int) : PS := oneP [] [⟨0, 0, b⟩] 1 1 (-1) (-1)
def ownS2 (b : List Int) (keep : Bool) : PS := if keep = true then oneP b [] 1 2 (-1) (-1) else ownS1 b
theorem own_write (b : List Int) (h : b.length ≤ 65536) : writeP newP nA b = (0, ownS1 b) := by
  have := write_none 0 0 (-1) b h
  simp [decP] at this
  exact this
theorem own_sync (b : List Int) : syncP (ownS1 b) nA = (0, ownS2 b true) := by
  unfold ownS1
  rw [sync_one, bytesP_one]
  rfl
theorem own_read (b : List Int) (keep : Bool) : readP (ownS2 b keep) nA = (b, 0) := by
  cases keep
  · show readP (ownS1 b) nA = _
    unfold ownS1
    rw [read_one, bytesP_one]
  · show readP (oneP b [] 1 2 (-1) (-1)) nA = _
    rw [read_one]; rfl
theorem own_crash (b : List Int) (keep : Bool) : readP (crashP (ownS2 b keep) [true]) nA = (b, 0) := by
  cases keep
  · show readP (crashP (ownS1 b) [true]) nA = _
    unfold ownS1
    rw [crash_one, read_one]
    simp [keptAt, rankP, oneP, bytesP, overP, laidL_nil]
  · show readP (crashP (oneP b [] 1 2 (-1) (-1)) [true]) nA = _
    rw [crash_one, read_one]; rfl

end Go.Proofs.Ytcpkoajnepijkaa
