/- Parts of the proof of the law that the last file states; declarations that nothing mentions are left out by a program. No conditions. -/
import Derived.Test.YtgifpkjcggnhgaaGreatDoorLSignq
import Derived.Test.YtgifpkjcggnhgaaGreatDoorLWidthq
set_option linter.unusedVariables false
set_option linter.unusedSimpArgs false
namespace Go.Proofs.YtgifpkjcggnhgaaGreatDoorL
open Go Go.RowKit
structure TC where
  S : ByteArray
  wide : Nat
  dim : Bool
def blankC : TC := ⟨⟨#[32]⟩, 1, false⟩
def halfC (d : Bool) : TC := ⟨⟨#[]⟩, 0, d⟩
structure Tm where
  cols : Nat
  l : List (List TC)
  gone : List (List TC)
  off : Nat
  row : Nat
  col : Nat
  full : Bool
  dim : Bool
  inn : Nat
  seq : ByteArray
  b : List UInt8
def getC (l : List TC) (k : Nat) : TC := l.getD k blankC
def blankR (n : Nat) : List TC := List.replicate n blankC
def put1 (l : List TC) (k : Nat) : List TC := if (getC l k).wide = 0 ∧ (getC l (k - 1)).wide = 2 then l.set (k - 1) blankC else l
def put2 (l : List TC) (k : Nat) : List TC := if (getC l k).wide = 2 then l.set (k + 1) blankC else l
def putR (l : List TC) (k : Nat) (c : TC) : List TC := (put2 (put1 l k) k).set k c
def eraseR : Nat → Nat → List TC → List TC
  | 0, _, l => l
  | n + 1, k, l => eraseR n (k + 1) (putR l k blankC)
def Tm.onRow (s : Tm) (r : Nat) (f : List TC → List TC) : Tm := { s with l := s.l.modify r f }
def Tm.put (s : Tm) (r k : Nat) (c : TC) : Tm := s.onRow r (putR · k c)
def Tm.erase (s : Tm) (r k : Nat) : Tm := s.onRow r (eraseR (s.cols - k) k)
def keptL (g : List (List TC)) : List (List TC) := g.drop (g.length - 1000)
def Tm.scroll (s : Tm) : Tm := { s with gone := keptL (s.gone ++ [s.l.headD []]), off := s.off + 1, l := s.l.tail ++ [blankR s.cols] }
def Tm.down (s : Tm) : Tm := if s.row + 1 < s.l.length then { s with full := false, row := s.row + 1 } else { s with full := false }.scroll
def joinR (l : List TC) (k : Nat) (t : ByteArray) : List TC :=
  let j := if (getC l k).wide = 0 then k - 1 else k
  l.set j { getC l j with S := (getC l j).S ++ t }
def Tm.join (s : Tm) (t : ByteArray) : Tm :=
  if s.full = true then s.onRow s.row (joinR · s.col t) else if s.col = 0 then s else s.onRow s.row (joinR · (s.col - 1) t)
def Tm.fresh (s : Tm) : Tm := { s.down with col := 0 }
def Tm.roomy (s : Tm) (w : Nat) : Tm := if s.cols < s.col + w then (s.put s.row s.col blankC).fresh else s
def Tm.show_ (s : Tm) (r : Int) (w : Nat) : Tm := s.put s.row s.col ⟨Utf8.encode r, w, s.dim⟩
def Tm.half (s : Tm) (w : Nat) : Tm := if w = 2 then s.put s.row (s.col + 1) (halfC s.dim) else s
def Tm.go_on (s : Tm) (w : Nat) : Tm := if s.cols ≤ s.col + w then { s with col := s.cols - 1, full := true } else { s with col := s.col + w }
def Tm.print (s : Tm) (r : Int) (w : Nat) : Tm := (((s.roomy w).show_ r w).half w).go_on w
def Tm.sign (s : Tm) (r : Int) : Tm :=
  if ctlB r = true then s else if ofR r = 0 then s.join (Utf8.encode r) else
    let s1 := if s.full = true then s.fresh else s
    if ofR r = 2 ∧ s.cols = 1 then s1.print 65533 1 else s1.print r (ofR r).toNat
def Tm.signs (s : Tm) (l : List Nat) : Tm := l.foldl (fun (s : Tm) (r : Nat) => s.sign (r : Int)) s
def Tm.control (s : Tm) (x : Nat) : Tm :=
  if x = 13 then { s with col := 0, full := false } else if x = 10 then s.down else if x = 8 then { s with col := s.col - 1, full := false } else s
def digitB (x : UInt8) : Bool := decide (48 ≤ x.toNat) && decide (x.toNat ≤ 57)
def numV (l : List UInt8) : Nat := l.foldl (fun a x => 10 * a + (x.toNat - 48)) 0
def numberP (q : List UInt8) : Nat × Bool := if q.all digitB = true ∧ q.length ≤ 3 then (numV q, true) else (0, false)
def clampN (x : Int) (n : Nat) : Nat := (min (max x 0) ((n : Int) - 1)).toNat
def Tm.to_ (s : Tm) (row col : Int) : Tm := { s with row := clampN row s.l.length, col := clampN col s.cols, full := false }
def cutAtB (x : UInt8) : List UInt8 → List UInt8 × List UInt8 × Bool
  | [] => ([], [], false)
  | y :: l => if y = x then ([], l, true) else (y :: (cutAtB x l).1, (cutAtB x l).2)
def Tm.home (s : Tm) (q : List UInt8) : Tm :=
  let c := cutAtB 59 q
  let r := numberP c.1
  let k := numberP c.2.1
  if q ≠ [] ∧ (c.2.2 = false ∨ r.2 = false ∨ k.2 = false ∨ c.1 = [] ∨ c.2.1 = []) then s else s.to_ ((max r.1 1 : Nat) - 1 : Int) ((max k.1 1 : Nat) - 1 : Int)
def eraseRest : Nat → Nat → Tm → Tm
  | 0, _, s => s
  | n + 1, k, s => eraseRest n (k + 1) (s.erase k 0)
def Tm.ends (s : Tm) (q : List UInt8) (x : Nat) : Tm :=
  if x = 72 then s.home q else if (numberP q).2 = false then s else
    let n := (numberP q).1
    let by_ : Int := ((max n 1 : Nat) : Int)
    if x = 65 then s.to_ ((s.row : Int) - by_) s.col
    else if x = 66 then s.to_ ((s.row : Int) + by_) s.col
    else if x = 68 then s.to_ s.row ((s.col : Int) - by_)
    else if x = 67 then s.to_ s.row ((s.col : Int) + by_)
    else if x = 71 then s.to_ s.row (by_ - 1)
    else if x = 74 then (if n = 0 then eraseRest (s.l.length - (s.row + 1)) (s.row + 1) (s.erase s.row s.col) else s)
    else if x = 75 then (if n = 0 then s.erase s.row s.col else s)
    else if x = 109 then (if n = 0 ∨ n = 2 ∨ n = 22 then { s with dim := decide (n = 2) } else s)
    else s
def tailsP (x : Nat) : Nat × Nat × Nat :=
  if 194 ≤ x ∧ x ≤ 223 then (1, 128, 191) else if x = 224 then (2, 160, 191) else if x = 237 then (2, 128, 159) else if 225 ≤ x ∧ x ≤ 239 then (2, 128, 191)
  else if x = 240 then (3, 144, 191) else if 241 ≤ x ∧ x ≤ 243 then (3, 128, 191) else if x = 244 then (3, 128, 143) else (0, 0, 0)
def wholeG : Nat → Nat → Nat → List UInt8 → Bool
  | 0, _, _, _ => true
  | n + 1, lo, hi, l => match l with
    | [] => false
    | x :: l => if x.toNat < lo ∨ hi < x.toNat then true else wholeG n 128 191 l
def wholeL : List UInt8 → Bool
  | [] => false
  | x :: l => wholeG (tailsP x.toNat).1 (tailsP x.toNat).2.1 (tailsP x.toNat).2.2 l
def drainT : Nat → Tm → Tm
  | 0, s => s
  | n + 1, s => if wholeL s.b = true then drainT n { s.sign ((Lib.decodeL (s.b.take 4)).1 : Int) with b := s.b.drop (Lib.decodeL (s.b.take 4)).2 } else s
def Tm.plain (s : Tm) (x : Nat) : Tm := if x = 27 then { s with inn := 1 } else if x < 32 ∨ x = 127 then s.control x else s.sign (x : Int)
def Tm.byte (s : Tm) (x : UInt8) : Tm :=
  if s.inn = 0 ∧ 128 ≤ x.toNat then drainT (s.b.length + 2) { s with b := s.b ++ [x] }
  else if s.inn = 0 ∨ x.toNat = 27 then Tm.plain { s.signs (runesL s.b) with b := [] } x.toNat
  else if s.inn = 1 ∧ x.toNat = 91 then { s with inn := 2, seq := ⟨#[]⟩ }
  else if s.inn = 2 ∧ 32 ≤ x.toNat ∧ x.toNat < 64 then { s with seq := if s.seq.size < 16 then s.seq.push x else s.seq }
  else if s.inn = 2 ∧ 64 ≤ x.toNat ∧ x.toNat ≤ 126 then Tm.ends { s with inn := 0 } s.seq.data.toList x.toNat
  else { s with inn := 0 }
def Tm.feed (s : Tm) (l : List UInt8) : Tm := l.foldl Tm.byte s
def cutN (x : Int) (n : Nat) : Nat := (min (max x 1) (n : Int)).toNat
def newT (rows cols : Int) : Tm := ⟨cutN cols 120, List.replicate (cutN rows 60) (blankR (cutN cols 120)), [], 0, 0, 0, false, false, 0, ⟨#[]⟩, []⟩
def Tm.goOff (s : Tm) : Tm := { s with gone := keptL (s.gone ++ [s.l.headD []]), off := s.off + 1, l := s.l.tail, row := s.row - 1 }
def goOffs : Nat → Nat → Tm → Tm
  | 0, _, s => s
  | n + 1, rows, s => if rows ≤ s.row then goOffs n rows s.goOff else s
def fitR (cols : Nat) (l : List TC) : List TC :=
  let m := if cols < l.length then (if (getC l cols).wide = 0 then l.set (cols - 1) blankC else l).take cols else l
  m ++ blankR (cols - m.length)
def Tm.resize (s : Tm) (rows cols : Int) : Tm :=
  let s1 := goOffs (s.row + 1) (cutN rows 60) s
  let l1 := (s1.l.take (cutN rows 60)).map (fitR (cutN cols 120))
  let s2 := { s1 with l := l1 ++ List.replicate (cutN rows 60 - l1.length) (blankR (cutN cols 120)), cols := cutN cols 120 }
  s2.to_ s2.row s2.col
def RowOK (r : List TC) : Prop := ∀ j, j < r.length → ((getC r j).wide ≤ 2 ∧ ((getC r j).wide = 2 → j + 1 < r.length)) ∧ ((getC r j).wide = 0 ↔ 0 < j ∧ (getC r (j - 1)).wide = 2) ∧ ((getC r j).S.size = 0 ↔ (getC r j).wide = 0)
def OKrow (n M : Nat) (r : List TC) : Prop := r.length = n ∧ RowOK r ∧ ∀ c ∈ r, c.S.size ≤ M
structure OKT (M : Nat) (s : Tm) : Prop where
  m : 4 ≤ M
  c1 : 1 ≤ s.cols
  c2 : s.cols ≤ 120
  r1 : 1 ≤ s.l.length
  r2 : s.l.length ≤ 60
  rows : ∀ r ∈ s.l, OKrow s.cols M r
  row : s.row < s.l.length
  col : s.col < s.cols
  full : s.full = true → s.col + 1 = s.cols
  gone : s.gone.length ≤ 1000 ∧ s.gone.length ≤ s.off ∧ ∀ r ∈ s.gone, 1 ≤ r.length ∧ r.length ≤ 120
  off : s.off ≤ M
  inn : s.inn ≤ 2
  seq : s.seq.size ≤ 16
  b : s.b.length ≤ 4
end Go.Proofs.YtgifpkjcggnhgaaGreatDoorL

