/- The file system by names: a plain model, and how the one by inodes stands to it. No conditions. -/
import Derived.Test.YtcpkoajnepijkaaFile16
namespace Go.Proofs.Ytcpkoajnepijkaa
set_option linter.unusedVariables false
set_option linter.unusedSimpArgs false
open Go.RowKit Go.Proofs.YtcpkoajnepijkaaL

structure PP where
  no : Nat
  at_ : Nat
  b : List Int
deriving DecidableEq
structure PF where
  name : ByteArray
  b : List Int
  row : List PP
deriving DecidableEq
structure PS where
  l : List PF
  no : Nat
  ops : Nat
  fuse : Int
  fault : Int
  down : Bool
deriving DecidableEq

def ltN (s t : ByteArray) : Bool := decide (s.toList < t.toList)
def newP : PS := ⟨[], 0, 0, -1, -1, false⟩
def overP (b : List Int) (p : PP) : List Int := laidL b p.at_ p.b
def bytesP (f : PF) : List Int := f.row.foldl overP f.b
def findP (s : ByteArray) : List PF → Option PF
  | [] => none
  | f :: r => if f.name = s then some f else findP s r
def withoutP (s : ByteArray) (l : List PF) : List PF := l.filter fun f => !decide (f.name = s)
def insP (f : PF) : List PF → List PF
  | [] => [f]
  | x :: r => if ltN f.name x.name = true then f :: x :: r else x :: insP f r
def withP (f : PF) (l : List PF) : List PF := insP f (withoutP f.name l)
def decP (n : Int) : Int := if n - 1 < -1 then -1 else n - 1
def countP (S : PS) : PS := { S with ops := S.ops + 1, fuse := decP S.fuse, down := S.fuse == 0 }
def readP (S : PS) (s : ByteArray) : List Int × Int :=
  if S.down = true then ([], 100) else match findP s S.l with | none => ([], 101) | some f => (bytesP f, 0)
def pendingP (S : PS) : Nat := (S.l.map fun f => f.row.length).sum
def writeP (S : PS) (s : ByteArray) (b : List Int) : Int × PS :=
  if S.down = true then (100, S) else
  if namedB s = false ∨ (findP s S.l = none ∧ 8 ≤ S.l.length) then (101, S) else
  let f := (findP s S.l).getD ⟨s, [], []⟩
  if (bytesP f).length + b.length > 65536 then (103, S) else
  let S1 := countP { S with fault := decP S.fault }
  if S.fault == 0 then (if S.fuse == 0 then 100 else 102, S1) else
  (if S.fuse == 0 then 100 else 0, { S1 with l := withP { f with row := f.row ++ [⟨S.no, (bytesP f).length, b⟩] } S.l, no := S.no + 1 })
def beginP (S : PS) (s : ByteArray) (may : Bool) : Option PF × Int × PS :=
  if S.down = true then (none, 100, S) else
  match findP s S.l with
  | none => (none, 101, S)
  | some f => if may = false then (none, 101, S) else if S.fuse == 0 then (none, 100, countP S) else (some f, 0, countP S)
def syncP (S : PS) (s : ByteArray) : Int × PS :=
  match beginP S s true with
  | (some f, n, S') => (n, { S' with l := withP { f with b := bytesP f, row := [] } S'.l })
  | (none, n, S') => (n, S')
def renameP (S : PS) (s t : ByteArray) : Int × PS :=
  match beginP S s (namedB t) with
  | (some f, n, S') => (n, { S' with l := withP { f with name := t } (withoutP s S'.l) })
  | (none, n, S') => (n, S')
def removeP (S : PS) (s : ByteArray) : Int × PS :=
  match beginP S s true with
  | (some _, n, S') => (n, { S' with l := withoutP s S'.l })
  | (none, n, S') => (n, S')
def cutP (S : PS) (s : ByteArray) (k : Int) : Int × PS :=
  match beginP S s true with
  | (some f, n, S') => (n, { S' with l := withP { f with b := (bytesP f).take (cutN k (bytesP f).length), row := [] } S'.l })
  | (none, n, S') => (n, S')
def rankP (S : PS) (no : Nat) : Nat := (S.l.map fun f => (f.row.filter fun p => decide (p.no < no)).length).sum
def crashP (S : PS) (keep : List Bool) : PS :=
  { S with l := S.l.map fun f => { f with b := (f.row.filter fun p => keptAt keep (rankP S p.no)).foldl overP f.b, row := [] }, fuse := -1, fault := -1, down := false }

/-- The writes of inode g, with their numbers. -/
def rowOf (row : List Wr) (nos : List Nat) (g : Nat) : List PP := ((row.zip nos).filter fun x => x.1.tgt == g).map fun x => ⟨x.2, x.1.at_, x.1.b⟩

structure Rel (st : FS) (S : PS) (nos : List Nat) : Prop where
  sorted : S.l.Pairwise fun x y => ltN x.name y.name = true
  len : st.files.length = S.l.length
  nd : (st.files.map (·.1)).Nodup
  inj : ∀ p ∈ st.files, ∀ q ∈ st.files, p.2 = q.2 → p = q
  fwd : ∀ f ∈ S.l, ∃ g, (f.name, g) ∈ st.files ∧ st.sb g = f.b ∧ st.sz g = (bytesP f).length ∧ f.row = rowOf st.row nos g
  bwd : ∀ p ∈ st.files, ∃ f ∈ S.l, f.name = p.1
  rows : ∀ x ∈ st.row, ∃ s, (s, x.tgt) ∈ st.files
  nlen : nos.length = st.row.length
  ninc : nos.Pairwise (· < ·)
  nlt : ∀ n ∈ nos, n < S.no
  ops : S.ops = st.ops
  fuse : S.fuse = st.fuse
  fault : S.fault = st.fault
  down : S.down = st.down

theorem rel_new : Rel newS newP [] :=
  ⟨List.Pairwise.nil, rfl, List.nodup_nil, (fun p h => by cases h), (fun p h => by cases h), (fun p h => by cases h), (fun p h => by cases h), rfl, List.Pairwise.nil, (fun p h => by cases h), rfl, rfl, rfl, rfl⟩

theorem bytesP_row {st : FS} {nos : List Nat} {g : Nat} (hn : nos.length = st.row.length) {f : PF} (hb : st.sb g = f.b) (hr : f.row = rowOf st.row nos g) : bytesP f = allL st g := by
  unfold bytesP allL layAll
  rw [hr, hb]
  have : ∀ (row : List Wr) (nos : List Nat) (b : List Int), nos.length = row.length → (rowOf row nos g).foldl overP b = row.foldl (fun b x => if x.tgt = g then laidL b x.at_ x.b else b) b := by
    intro row
    induction row with
    | nil => intro nos b _; simp [rowOf]
    | cons x row ih =>
      intro nos b hn
      cases nos with
      | nil => simp at hn
      | cons n nos =>
        have hn' : nos.length = row.length := by simpa using hn
        by_cases h : x.tgt = g
        · have h2 := ih nos (laidL b x.at_ x.b) hn'
          simp only [rowOf, List.zip_cons_cons, List.foldl_cons, h, if_true] at h2 ⊢
          rw [List.filter_cons_of_pos (by simp [h]), List.map_cons, List.foldl_cons]
          exact h2
        · have h2 := ih nos b hn'
          simp only [rowOf, List.zip_cons_cons, List.foldl_cons, h, if_false] at h2 ⊢
          rw [List.filter_cons_of_neg (by simp [h])]
          exact h2
  exact this st.row nos f.b hn

end Go.Proofs.Ytcpkoajnepijkaa
