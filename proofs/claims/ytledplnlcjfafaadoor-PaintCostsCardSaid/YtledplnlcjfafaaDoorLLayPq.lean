/- Parts of the proof of the law that the last file states; declarations that nothing mentions are left out by a program. No conditions. -/
import Derived.Test.YtledplnlcjfafaaDoorLTextPq
import Derived.Test.YtledplnlcjfafaaDoorLTermQq
set_option linter.unusedVariables false
set_option linter.unusedSimpArgs false
namespace Go.Proofs.YtledplnlcjfafaaDoorL
open Go Go.RowKit
structure Vw where
  rows : Int
  cols : Int
  left : ByteArray
  right : ByteArray
  ghost : ByteArray
  text : ByteArray
  at_ : Int
structure Fm where
  rows : List (List TC)
  row : Nat
  col : Nat
def firstR (c : ByteArray) : Int := ((Lib.decodeL (c.data.toList.take 4)).1 : Int)
def wideC (c : ByteArray) : Nat := max (ofR (firstR c)).toNat 1
def wrongS : ByteArray := ⟨#[239, 191, 189]⟩
def dotsS : ByteArray := ⟨#[226, 128, 166]⟩
def showC (c : ByteArray) : ByteArray := if ofR (firstR c) = 0 ∨ ctlB (firstR c) = true then wrongS else ⟨(cleanL c.data.toList).toArray⟩
def sumG : List (Nat × ByteArray) → Nat
  | [] => 0
  | x :: l => wideC x.2 + sumG l
def sumW (s : ByteArray) : Nat := sumG (eachL s)
def plainT (s : ByteArray) : ByteArray := if (plainS s).size ≤ 1200 then plainS s else cutS (plainS s) (backL (plainS s) 1200)
def cellsC (cols : Nat) (c : ByteArray) (dim : Bool) : List TC :=
  if wideC c = 1 then [⟨showC c, 1, dim⟩] else if cols = 1 then [⟨wrongS, 1, dim⟩] else [⟨showC c, 2, dim⟩, halfC dim]
def overR (l : List TC) (k : Nat) (x : List TC) : List TC := l.take k ++ x ++ l.drop (k + x.length)
structure Sh where
  cols : Nat
  l : List (List TC)
  col : Nat
def Sh.fresh (s : Sh) : Sh := { s with l := s.l ++ [blankR s.cols], col := 0 }
def Sh.lay (s : Sh) (row col : Nat) (x : List TC) : Sh := { s with l := s.l.modify row (overR · col x) }
def Sh.room (s : Sh) (n : Nat) : Sh := if s.cols < s.col + n then s.fresh else s
def Sh.put (s : Sh) (c : ByteArray) : Sh :=
  let x := cellsC s.cols c false
  let s1 := s.room x.length
  { s1.lay (s1.l.length - 1) s1.col x with col := s1.col + x.length }
def Sh.at_ (s : Sh) (c : ByteArray) : Nat × Nat := let s1 := s.room (cellsC s.cols c false).length; (s1.l.length - 1, s1.col)
def Sh.puts (s : Sh) (l : List (Nat × ByteArray)) : Sh := l.foldl (fun s x => s.put x.2) s
def Sh.text (at_ : Nat) (s : Sh) (p : Nat × Nat) (l : List (Nat × ByteArray)) : Sh × (Nat × Nat) := l.foldl (fun q x => (q.1.put x.2, if x.1 = at_ then q.1.at_ x.2 else q.2)) (s, p)
def ghostG (row col room : Nat) : Sh → Nat → List (Nat × ByteArray) → Sh × Nat
  | s, at_, [] => (s, at_)
  | s, at_, x :: l =>
    let c := cellsC s.cols x.2 true
    if room < at_ - col + c.length then (s, at_) else ghostG row col room (s.lay row at_ c) (at_ + c.length) l
def Sh.ghost (s : Sh) (g : ByteArray) (row col : Nat) : Sh × Nat :=
  let room := s.cols - col
  if room < sumW g then
    let p := ghostG row col (room - 1) s col (eachL g)
    (p.1.lay row p.2 [⟨dotsS, 1, true⟩], p.2 + 1)
  else ghostG row col room s col (eachL g)
def promptG : Sh → Nat → List (Nat × ByteArray) → Sh
  | s, _, [] => s
  | s, x, c :: l => promptG (s.lay 0 x (cellsC s.cols c.2 false)) (x + (cellsC s.cols c.2 false).length) l
structure Dr where
  s : Sh
  row : Nat
  col : Nat
  right : Bool
def drawEnd (s : Sh) (ghost : ByteArray) : Sh × Nat × Nat :=
  let s1 := if s.cols ≤ s.col then s.fresh else s
  let g := s1.ghost ghost (s1.l.length - 1) s1.col
  ({ g.1 with col := g.2 }, s1.l.length - 1, s1.col)
def drawMid (cols : Nat) (v : Vw) : Sh × Nat × Nat :=
  let s0 : Sh := ({ cols := cols, l := [], col := 0 } : Sh).fresh
  let s1 := s0.puts (eachL (plainT v.left))
  let t := plainT v.text
  let p := Sh.text (backL t v.at_) s1 (0, 0) (eachL t)
  if backL t v.at_ = t.size then drawEnd p.1 (plainT v.ghost) else (p.1, p.2.1, p.2.2)
def firstC (cols : Nat) (v : Vw) (s : Sh) : Nat := if s.l.length = 1 then s.col else cols
def hasR (cols : Nat) (v : Vw) (s : Sh) : Bool := decide ((plainT v.right).size ≠ 0) && decide (firstC cols v s + 1 + sumW (plainT v.right) ≤ cols)
def drawnP (cols : Nat) (v : Vw) : Dr :=
  let p := drawMid cols v
  let r := hasR cols v p.1
  ⟨if r = true then promptG p.1 (cols - sumW (plainT v.right)) (eachL (plainT v.right)) else p.1, p.2.1, p.2.2, r⟩
def ofP (v : Vw) : Fm :=
  let rows := cutN v.rows 60
  let d := drawnP (cutN v.cols 120) v
  let top := d.row + 1 - rows
  ⟨(d.s.l.drop top).take (min d.s.l.length (top + rows) - top), d.row - top, d.col⟩
end Go.Proofs.YtledplnlcjfafaaDoorL

