/- Parts of the proof of the law that the last file states; declarations that nothing mentions are left out by a program. No conditions. -/
import Derived.Test.YtledplnlcjfafaaDoorLPlainq
import Derived.Test.YtledplnlcjfafaaDoorLEachq
import Derived.Test.YtledplnlcjfafaaDoorLSignq
import Derived.Test.YtledplnlcjfafaaDoorLWidthq
set_option linter.unusedVariables false
set_option linter.unusedSimpArgs false
section
namespace Go.Proofs.YtledplnlcjfafaaDoorL
open Go Go.RowKit Go.Proofs.YtledplnlcjfafaaDoorW.PrintWords
def backG (at_ : Int) : List Nat → Nat → Nat
  | [], o => o
  | x :: l, o => backG at_ l (if (x : Int) ≤ at_ then x else o)
def backL (s : ByteArray) (at_ : Int) : Nat := backG at_ (boundsL s) 0
theorem nat_cell {w : World} {base g cap : Nat} {l : List Nat} (h : w.ownsRow base 3 1 (.slice (some ⟨g, 0, none⟩) l.length cap) l.length (natCells l)) (i : Nat) (hi : i < l.length) : w.cell? ⟨g, i, none⟩ = some (.int .i64 (l[i] : Int)) := by
  rw [World.ownsRow.cellAt h i (by omega)]
  simp [natCells, hi]
theorem boundsL_len (s : ByteArray) : (boundsL s).length ≤ s.size + 2 := by
  unfold boundsL
  rw [List.length_append, atsL_len]
  have := eachG_len s (s.size + 1) 0 0
  unfold eachL
  simp only [List.length_cons, List.length_nil]
  omega
theorem boundsL_pos (s : ByteArray) : 0 < (boundsL s).length := by
  unfold boundsL
  simp
theorem eachG_ats (s : ByteArray) : ∀ (n f pos : Nat), f ≤ pos → pos ≤ s.size → ∀ x ∈ atsL (eachG s n f pos), x ≤ s.size
  | 0, _, _, _, _, x, h => by simp [eachG, atsL] at h
  | n + 1, f, pos, hf, hp, x, h => by
    unfold eachG at h
    by_cases hlt : pos < s.size
    · rw [if_pos hlt] at h
      have hwn : pos + (Utf8.decode s pos).2 ≤ s.size := by
        have hne : s.data.toList.drop pos ≠ [] := by
          intro h0
          have := congrArg List.length h0
          rw [List.length_drop, ← Lib.size_eq] at this
          simp at this
          omega
        have := Lib.decodeL_le _ hne
        rw [Lib.decodeL_drop, List.length_drop, ← Lib.size_eq] at this
        omega
      split at h
      · exact eachG_ats s n f _ (by omega) hwn x h
      · rcases List.mem_cons.1 h with h1 | h
        · have h2 : x = f := h1
          omega
        · exact eachG_ats s n pos _ (by omega) hwn x h
    · rw [if_neg hlt] at h
      split at h
      · simp [atsL] at h; omega
      · simp [atsL] at h
theorem boundsL_le (s : ByteArray) : ∀ x ∈ boundsL s, x ≤ s.size := by
  intro x h
  unfold boundsL at h
  rcases List.mem_append.1 h with h | h
  · exact eachG_ats s _ 0 0 (Nat.le_refl _) (Nat.zero_le _) x h
  · simp at h; omega
theorem backG_le (at_ : Int) (z : Nat) : ∀ (l : List Nat) (o : Nat), o ≤ z → (∀ x ∈ l, x ≤ z) → backG at_ l o ≤ z
  | [], o, h, _ => h
  | x :: l, o, h, hl => by
    unfold backG
    refine backG_le at_ z l _ ?_ (fun y hy => hl y (List.mem_cons_of_mem _ hy))
    split
    · exact hl x List.mem_cons_self
    · exact h
theorem backL_le (s : ByteArray) (at_ : Int) : backL s at_ ≤ s.size := backG_le at_ s.size _ 0 (Nat.zero_le _) (boundsL_le s)
def plainS (s : ByteArray) : ByteArray := ⟨(plainL s.data.toList).toArray⟩
theorem plainS_size (s : ByteArray) : (plainS s).size ≤ 16 * s.size := by
  show (plainL s.data.toList).toArray.size ≤ _
  rw [List.size_toArray]
  unfold plainL cleanL
  have h1 := mapD_len (fun r => r) _ s.data.toList (Nat.le_refl _)
  have h2 := mapD_len plainF _ (Lib.mapD (fun r => r) s.data.toList) (Nat.le_refl _)
  rw [← Lib.size_eq] at h1
  omega
def cutS (s : ByteArray) (n : Nat) : ByteArray := s.extract 0 n
theorem cutS_size (s : ByteArray) (n : Nat) (h : n ≤ s.size) : (cutS s n).size = n := by
  unfold cutS
  rw [ByteArray.size_extract]
  omega
end Go.Proofs.YtledplnlcjfafaaDoorL
end
section
namespace Go.Proofs.YtledplnlcjfafaaDoorL
open Go Go.RowKit
structure TC where
  S : ByteArray
  wide : Nat
  dim : Bool
def blankC : TC := ⟨⟨#[32]⟩, 1, false⟩
def halfC (d : Bool) : TC := ⟨⟨#[]⟩, 0, d⟩
structure Tm where
  cols : Nat
  l : List (List TC)
  gone : List (List TC)
  off : Nat
  row : Nat
  col : Nat
  full : Bool
  dim : Bool
  inn : Nat
  seq : ByteArray
  b : List UInt8
def getC (l : List TC) (k : Nat) : TC := l.getD k blankC
def blankR (n : Nat) : List TC := List.replicate n blankC
def put1 (l : List TC) (k : Nat) : List TC := if (getC l k).wide = 0 ∧ (getC l (k - 1)).wide = 2 then l.set (k - 1) blankC else l
def put2 (l : List TC) (k : Nat) : List TC := if (getC l k).wide = 2 then l.set (k + 1) blankC else l
def putR (l : List TC) (k : Nat) (c : TC) : List TC := (put2 (put1 l k) k).set k c
def Tm.onRow (s : Tm) (r : Nat) (f : List TC → List TC) : Tm := { s with l := s.l.modify r f }
def Tm.put (s : Tm) (r k : Nat) (c : TC) : Tm := s.onRow r (putR · k c)
def cutN (x : Int) (n : Nat) : Nat := (min (max x 1) (n : Int)).toNat
def newT (rows cols : Int) : Tm := ⟨cutN cols 120, List.replicate (cutN rows 60) (blankR (cutN cols 120)), [], 0, 0, 0, false, false, 0, ⟨#[]⟩, []⟩
def RowOK (r : List TC) : Prop := ∀ j, j < r.length → ((getC r j).wide ≤ 2 ∧ ((getC r j).wide = 2 → j + 1 < r.length)) ∧ ((getC r j).wide = 0 ↔ 0 < j ∧ (getC r (j - 1)).wide = 2) ∧ ((getC r j).S.size = 0 ↔ (getC r j).wide = 0)
def OKrow (n M : Nat) (r : List TC) : Prop := r.length = n ∧ RowOK r ∧ ∀ c ∈ r, c.S.size ≤ M
end Go.Proofs.YtledplnlcjfafaaDoorL
end
