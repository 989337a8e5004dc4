/- A file system in memory: what its blocks hold; the small methods. No conditions. -/
import Derived.Test.YtcpkoajnepijkaaProg
import Derived.Test.YtcpkoajnepijkaaLHeap
namespace Go.Proofs.Ytcpkoajnepijkaa
set_option linter.unusedVariables false
set_option linter.unusedSimpArgs false
open Go.RowKit Go.Proofs.YtcpkoajnepijkaaL Go.Proofs.YtcpkoajnepijkaaW.PrintWords

structure Wr where
  tgt : Nat
  at_ : Nat
  b : List Int
/-- A file system: names and their inodes; all inodes that there were, what is synced of them, how long they are; the row of writes. -/
structure FS where
  files : List (ByteArray × Nat)
  live : List Nat
  sb : Nat → List Int
  sz : Nat → Nat
  row : List Wr
  ops : Nat
  fuse : Int
  fault : Int
  down : Bool

abbrev u8 := Kd.int .u8
def T5 (w : World) (g : Nat) : Prop := ∃ cells fr, w.heap[g]? = some (.cells cells 5 fr)
/-- Bytes that nobody writes. -/
def RB (base : Nat) (Lz : Nat → Prop) (w : World) (v : Value) (xs : List Int) : Prop :=
  ∃ A c, v = .slice A xs.length c ∧ xs.length ≤ c ∧ u8.C w A xs.length xs ∧ ∀ ad, A = some ad → 0 < xs.length → ad.block < base ∨ (T5 w ad.block ∧ ¬ Lz ad.block)
def Mut (base : Nat) (w : World) (G : Nat → Prop) : Prop := ∀ g, G g → base ≤ g ∧ ¬ T5 w g
/-- .. or loose: bytes of which no file system holds any. -/
def MutL (base : Nat) (Lz : Nat → Prop) (w : World) (G : Nat → Prop) : Prop := ∀ g, G g → base ≤ g ∧ (T5 w g → Lz g)
theorem Mut.wk {base : Nat} {Lz : Nat → Prop} {w : World} {G : Nat → Prop} (h : Mut base w G) : MutL base Lz w G := fun g hg => ⟨(h g hg).1, fun h5 => absurd h5 (h g hg).2⟩
/-- Nothing is loose. -/
def NoL : Nat → Prop := fun _ => False

theorem u8C_keep {w w' : World} {A : Option Addr} {n : Nat} {xs : List Int} (h : u8.C w A n xs) (hk : ∀ ad, A = some ad → 0 < n → w'.heap[ad.block]? = w.heap[ad.block]?) : u8.C w' A n xs := by
  refine ⟨h.1, h.2.1, fun hn => ?_⟩
  obtain ⟨ad, e, hc⟩ := h.2.2 hn
  refine ⟨ad, e, fun i p hp => ?_⟩
  obtain ⟨cs, h1, h2, h3⟩ := hc i p hp
  refine ⟨cs, h1, h2, fun j u hu => ?_⟩
  rw [← h3 j u hu]
  exact World.cell?_of_block (by rw [add_block]; exact hk ad e hn)
theorem u8C_lt {w : World} {A : Option Addr} {n : Nat} {xs : List Int} (h : u8.C w A n xs) : ∀ ad, A = some ad → 0 < n → ad.block < w.heap.size := by
  intro ad e hn
  obtain ⟨ad', e', hc⟩ := h.2.2 hn
  rw [e] at e'
  injection e' with e'
  subst e'
  have hl := h.1
  obtain ⟨cs, h1, h2, h3⟩ := hc 0 (xs[0]'(by omega)) (List.getElem?_eq_getElem (by omega))
  have hcs : cs = [.int .u8 (xs[0]'(by omega))] := h2
  have := h3 0 (.int .u8 (xs[0]'(by omega))) (by rw [hcs]; rfl)
  have := World.block_lt_of_cell? w _ this
  rwa [add_block] at this

section
variable {base : Nat} {Lz : Nat → Prop} {w w' : World} {v : Value} {xs : List Int}
theorem RB.onlyL {G : Nat → Prop} (h : RB base Lz w v xs) (ho : Only G w w') (hG : MutL base Lz w G) : RB base Lz w' v xs := by
  obtain ⟨A, c, rfl, hc, hC, hI⟩ := h
  have hk : ∀ ad, A = some ad → 0 < xs.length → w'.heap[ad.block]? = w.heap[ad.block]? := fun ad e hn => by
    refine ho.block _ (u8C_lt hC ad e hn) (fun hg => ?_)
    obtain ⟨h1, h2⟩ := hG _ hg
    rcases hI ad e hn with h | h
    · omega
    · exact h.2 (h2 h.1)
  refine ⟨A, c, rfl, hc, u8C_keep hC hk, fun ad e hn => ?_⟩
  rcases hI ad e hn with h | h
  · exact .inl h
  · right
    obtain ⟨⟨cells, fr, hh⟩, hl⟩ := h
    exact ⟨⟨cells, fr, (hk ad e hn).trans hh⟩, hl⟩
theorem RB.only {G : Nat → Prop} (h : RB base Lz w v xs) (ho : Only G w w') (hG : Mut base w G) : RB base Lz w' v xs := h.onlyL ho hG.wk
theorem RB.below (h : RB base Lz w v xs) (hb : Below w.heap.size w w') : RB base Lz w' v xs := h.only (Only.of_below (F := fun _ => False) hb) (fun _ h => h.elim)
theorem RB.nil (base : Nat) (Lz : Nat → Prop) (w : World) : RB base Lz w (.slice none 0 0) [] := ⟨none, 0, rfl, Nat.le_refl _, Kd.C_nil _ _, fun _ e _ => by cases e⟩
theorem RB.loose {Lz' : Nat → Prop} (h : RB base Lz w v xs) (hl : ∀ g, g < w.heap.size → Lz' g → Lz g) : RB base Lz' w v xs := by
  obtain ⟨A, c, rfl, hc, hC, hI⟩ := h
  refine ⟨A, c, rfl, hc, hC, fun ad e hn => (hI ad e hn).imp id (fun h5 => ⟨h5.1, fun hz => ?_⟩)⟩
  obtain ⟨⟨cells, fr, hh⟩, hn⟩ := h5
  exact hn (hl _ (Array.getElem?_eq_some_iff.1 hh).1 hz)
theorem RB.noL (h : RB base Lz w v xs) : RB base NoL w v xs := h.loose (fun _ _ h => h.elim)
/-- Bytes that came in. -/
theorem RB.arg {A : Option Addr} {c : Nat} (hc : xs.length ≤ c) (hC : u8.C w A xs.length xs) : RB w.heap.size Lz w (.slice A xs.length c) xs := ⟨A, c, rfl, hc, hC, fun ad e hn => .inl (u8C_lt hC ad e hn)⟩
theorem RB.of_R {ok : Nat → Prop} {B : Nat} (h : u8.R 5 w B ok v xs) (hL : ∀ g, B ≤ g → ¬ Lz g) : RB base Lz w v xs := by
  obtain ⟨A, c, rfl, hc, hC⟩ := Kd.R_reads h
  refine ⟨A, c, rfl, hc, hC, fun ad e _ => .inr ?_⟩
  subst e
  obtain ⟨inner, ho⟩ := Kd.R_own h
  obtain ⟨cells, hh⟩ := own_typed ho ad.block rfl
  exact ⟨⟨cells, _, hh⟩, hL _ (own_base ho _ rfl)⟩
end

/-- The row of writes as its cells. -/
def RowIs (base : Nat) (Lz : Nat → Prop) (w : World) : List Wr → List Value → Prop
  | [], [] => True
  | x :: r, p :: a :: v :: cs => p = .pointer (some ⟨x.tgt, 0, none⟩) ∧ a = .int .i64 x.at_ ∧ RB base Lz w v x.b ∧ RowIs base Lz w r cs
  | _, _ => False

section
variable {base : Nat} {Lz : Nat → Prop} {w w' : World}
theorem RowIs.imp {Lz' : Nat → Prop} (hRB : ∀ v xs, RB base Lz w v xs → RB base Lz' w' v xs) : ∀ {row : List Wr} {cs : List Value}, RowIs base Lz w row cs → RowIs base Lz' w' row cs
  | [], [], _ => trivial
  | x :: r, p :: a :: v :: cs, h => ⟨h.1, h.2.1, hRB _ _ h.2.2.1, RowIs.imp hRB h.2.2.2⟩
theorem RowIs.snoc {x : Wr} {v : Value} (hv : RB base Lz w v x.b) : ∀ {row : List Wr} {cs : List Value}, RowIs base Lz w row cs → RowIs base Lz w (row ++ [x]) (cs ++ [.pointer (some ⟨x.tgt, 0, none⟩), .int .i64 x.at_, v])
  | [], [], _ => ⟨rfl, rfl, hv, trivial⟩
  | y :: r, p :: a :: u :: cs, h => ⟨h.1, h.2.1, h.2.2.1, RowIs.snoc hv h.2.2.2⟩
theorem RowIs.get : ∀ {row : List Wr} {cs : List Value} (_ : RowIs base Lz w row cs) (i : Nat) (hi : i < row.length),
    cs[i * 3]? = some (.pointer (some ⟨row[i].tgt, 0, none⟩)) ∧ cs[i * 3 + 1]? = some (.int .i64 row[i].at_) ∧ ∃ v, cs[i * 3 + 2]? = some v ∧ RB base Lz w v row[i].b
  | x :: r, p :: a :: v :: cs, h, 0, _ => ⟨by simp [h.1], by simp [h.2.1], v, by simp, h.2.2.1⟩
  | x :: r, p :: a :: v :: cs, h, i + 1, hi => by
    have := RowIs.get h.2.2.2 i (by simpa using hi)
    have e0 : (i + 1) * 3 = i * 3 + 3 := by omega
    have e1 : i * 3 + 3 + 1 = i * 3 + 1 + 3 := by omega
    have e2 : i * 3 + 3 + 2 = i * 3 + 2 + 3 := by omega
    rw [e0, e1, e2]
    simpa using this
end

structure FRepX (base : Nat) (Lz : Nat → Prop) (w : World) (F : Nat) (fp : Nat → Prop) (st : FS) (M : Nat) (rv : Value) (cells : List Value) : Prop where
  blk : Blk w F 67 #[.map (some M), rv, .int .i64 st.ops, .int .i64 st.fuse, .int .i64 st.fault, .bool st.down]
  map : MapStr w M (st.files.map fun p => (p.1, .pointer (some ⟨p.2, 0, none⟩)))
  row : w.ownsRow base 80 3 rv st.row.length cells
  rowIs : RowIs base Lz w st.row cells
  ino : ∀ g ∈ st.live, ∃ v, Blk w g 77 #[v, .int .i64 (st.sz g)] ∧ RB base Lz w v (st.sb g)
  filesLive : ∀ p ∈ st.files, p.2 ∈ st.live
  rowLive : ∀ x ∈ st.row, x.tgt ∈ st.live
  fpF : fp F
  fpM : fp M
  fpR : ∀ k, rv.ownBlock = some k → fp k
  fpI : ∀ g ∈ st.live, fp g
  fpb : Mut base w fp
  fpl : ∀ g, fp g → g < w.heap.size
  hbase : base ≤ w.heap.size
  lz : ∀ g, Lz g → g < w.heap.size
def FRep (base : Nat) (Lz : Nat → Prop) (w : World) (F : Nat) (fp : Nat → Prop) (st : FS) : Prop := ∃ M rv cells, FRepX base Lz w F fp st M rv cells

section
variable {base : Nat} {Lz : Nat → Prop} {w w' : World} {F : Nat} {fp : Nat → Prop} {st : FS} {M : Nat} {rv : Value} {cells : List Value}
theorem row_only {G : Nat → Prop} {e size n : Nat} {v : Value} {xs : List Value} (h : w.ownsRow base e size v n xs) (ho : Only G w w') (hG : ∀ k, v.ownBlock = some k → ¬ G k) : w'.ownsRow base e size v n xs :=
  own_move h (fun k hk => ho.block k (own_lt h k hk) (hG k hk))

/-- What else turns in memory leaves a file system as it is. -/
theorem FRepX.onlyL {G : Nat → Prop} (h : FRepX base Lz w F fp st M rv cells) (ho : Only G w w') (hG : MutL base Lz w G) (hd : ∀ g, G g → ¬ fp g) : FRepX base Lz w' F fp st M rv cells := by
  have hk : ∀ g, fp g → w'.heap[g]? = w.heap[g]? := fun g hg => ho.block g (h.fpl g hg) (fun h' => hd g h' hg)
  have hRB : ∀ v xs, RB base Lz w v xs → RB base Lz w' v xs := fun v xs hv => hv.onlyL ho hG
  refine ⟨h.blk.to (hk _ h.fpF), h.map.to (hk _ h.fpM), row_only h.row ho (fun k hk' hg => hd k hg (h.fpR k hk')), h.rowIs.imp hRB, fun g hg => ?_, h.filesLive, h.rowLive, h.fpF, h.fpM, h.fpR, h.fpI, fun g hg => ?_, fun g hg => Nat.lt_of_lt_of_le (h.fpl g hg) ho.size, Nat.le_trans h.hbase ho.size, fun g hg => Nat.lt_of_lt_of_le (h.lz g hg) ho.size⟩
  · obtain ⟨v, h1, h2⟩ := h.ino g hg
    exact ⟨v, h1.to (hk _ (h.fpI g hg)), hRB _ _ h2⟩
  · obtain ⟨h1, h2⟩ := h.fpb g hg
    refine ⟨h1, fun h5 => h2 ?_⟩
    unfold T5 at h5 ⊢
    rwa [hk g hg] at h5
theorem FRepX.only {G : Nat → Prop} (h : FRepX base Lz w F fp st M rv cells) (ho : Only G w w') (hG : Mut base w G) (hd : ∀ g, G g → ¬ fp g) : FRepX base Lz w' F fp st M rv cells := h.onlyL ho hG.wk hd
theorem FRepX.loose {Lz' : Nat → Prop} (h : FRepX base Lz w F fp st M rv cells) (hl : ∀ g, Lz' g → Lz g) : FRepX base Lz' w F fp st M rv cells := by
  have hRB : ∀ v xs, RB base Lz w v xs → RB base Lz' w v xs := fun v xs hv => hv.loose (fun g _ => hl g)
  refine ⟨h.blk, h.map, h.row, h.rowIs.imp hRB, fun g hg => ?_, h.filesLive, h.rowLive, h.fpF, h.fpM, h.fpR, h.fpI, h.fpb, h.fpl, h.hbase, fun g hg => h.lz g (hl g hg)⟩
  obtain ⟨v, h1, h2⟩ := h.ino g hg
  exact ⟨v, h1, hRB _ _ h2⟩
/-- Blocks that are new become loose. -/
theorem FRepX.free {Lz' : Nat → Prop} (h : FRepX base Lz w F fp st M rv cells) (hb : Below w.heap.size w w') (hl : ∀ g, Lz' g → (Lz g ∨ w.heap.size ≤ g) ∧ g < w'.heap.size) : FRepX base Lz' w' F fp st M rv cells := by
  have h1 : FRepX base (fun g => Lz' g ∧ Lz g) w F fp st M rv cells := h.loose (fun g hg => hg.2)
  have hb' := h.only (Only.of_below (F := fun _ => False) hb) (fun _ h => h.elim) (fun _ h => h.elim)
  have hRB : ∀ v xs, RB base Lz w v xs → RB base Lz' w' v xs := fun v xs hv => by
    have hv1 : RB base Lz' w v xs := hv.loose (fun g hg hz => ((hl g hz).1).resolve_right (by omega))
    exact hv1.only (Only.of_below (F := fun _ => False) hb) (fun _ h => h.elim)
  refine ⟨hb'.blk, hb'.map, hb'.row, h.rowIs.imp hRB, fun g hg => ?_, h.filesLive, h.rowLive, h.fpF, h.fpM, h.fpR, h.fpI, hb'.fpb, hb'.fpl, hb'.hbase, fun g hg => (hl g hg).2⟩
  obtain ⟨v, h1, h2⟩ := h.ino g hg
  exact ⟨v, h1.to (hb.block g h1.lt), hRB _ _ h2⟩
theorem FRep.onlyL {G : Nat → Prop} (h : FRep base Lz w F fp st) (ho : Only G w w') (hG : MutL base Lz w G) (hd : ∀ g, G g → ¬ fp g) : FRep base Lz w' F fp st := by
  obtain ⟨M, rv, cells, h⟩ := h
  exact ⟨M, rv, cells, h.onlyL ho hG hd⟩
theorem FRep.loose {Lz' : Nat → Prop} (h : FRep base Lz w F fp st) (hl : ∀ g, Lz' g → Lz g) : FRep base Lz' w F fp st := by
  obtain ⟨M, rv, cells, h⟩ := h
  exact ⟨M, rv, cells, h.loose hl⟩
theorem FRep.free {Lz' : Nat → Prop} (h : FRep base Lz w F fp st) (hb : Below w.heap.size w w') (hl : ∀ g, Lz' g → (Lz g ∨ w.heap.size ≤ g) ∧ g < w'.heap.size) : FRep base Lz' w' F fp st := by
  obtain ⟨M, rv, cells, h⟩ := h
  exact ⟨M, rv, cells, h.free hb hl⟩
theorem FRep.lz (h : FRep base Lz w F fp st) : ∀ g, Lz g → g < w.heap.size := by
  obtain ⟨M, rv, cells, h⟩ := h
  exact h.lz
theorem FRep.nol (h : FRep base Lz w F fp st) {B : Nat} (hB : w.heap.size ≤ B) : ∀ g, B ≤ g → ¬ Lz g := fun g hg hz => by have := h.lz g hz; omega
theorem FRep.only {G : Nat → Prop} (h : FRep base Lz w F fp st) (ho : Only G w w') (hG : Mut base w G) (hd : ∀ g, G g → ¬ fp g) : FRep base Lz w' F fp st := by
  obtain ⟨M, rv, cells, h⟩ := h
  exact ⟨M, rv, cells, h.only ho hG hd⟩
theorem FRep.below (h : FRep base Lz w F fp st) (hb : Below w.heap.size w w') : FRep base Lz w' F fp st := h.only (Only.of_below (F := fun _ => False) hb) (fun _ h => h.elim) (fun _ h => h.elim)
theorem FRepX.rowNeF (h : FRepX base Lz w F fp st M rv cells) : ∀ k, rv.ownBlock = some k → k ≠ F := by
  intro k hk e
  subst e
  exact own_blk_ne h.row h.blk (by decide) hk
theorem FRepX.inoNe {g t : Nat} {cs : Array Value} (h : FRepX base Lz w F fp st M rv cells) (hg : g ∈ st.live) (hb : Blk w t 67 cs) : g ≠ t := by
  obtain ⟨v, h1, _⟩ := h.ino g hg
  exact h1.ne_ hb (by decide)
/-- The struct's own fields alone turn. -/
theorem FRepX.setF (h : FRepX base Lz w F fp st M rv cells) (ho : Only (· = F) w w') {ops : Nat} {fuse fault : Int} {down : Bool}
    (hb : Blk w' F 67 #[.map (some M), rv, .int .i64 ops, .int .i64 fuse, .int .i64 fault, .bool down]) : FRepX base Lz w' F fp { st with ops, fuse, fault, down } M rv cells := by
  have hG : Mut base w (· = F) := fun g hg => hg ▸ h.fpb F h.fpF
  have hRB : ∀ v xs, RB base Lz w v xs → RB base Lz w' v xs := fun v xs hv => hv.only ho hG
  have hk : ∀ g, g < w.heap.size → g ≠ F → w'.heap[g]? = w.heap[g]? := fun g hg hne => ho.block g hg hne
  refine ⟨hb, h.map.to (hk _ h.map.lt (h.map.ne_blk h.blk)), row_only h.row ho h.rowNeF, h.rowIs.imp hRB, fun g hg => ?_, h.filesLive, h.rowLive, h.fpF, h.fpM, h.fpR, h.fpI, fun g hg => ?_, fun g hg => Nat.lt_of_lt_of_le (h.fpl g hg) ho.size, Nat.le_trans h.hbase ho.size, fun g hg => Nat.lt_of_lt_of_le (h.lz g hg) ho.size⟩
  · obtain ⟨v, h1, h2⟩ := h.ino g hg
    exact ⟨v, h1.to (hk _ h1.lt (h1.ne_ h.blk (by decide))), hRB _ _ h2⟩
  · obtain ⟨h1, h2⟩ := h.fpb g hg
    refine ⟨h1, fun h5 => ?_⟩
    by_cases hgF : g = F
    · subst hgF
      obtain ⟨c5, fr, h5⟩ := h5
      rw [hb] at h5
      injection h5 with h5
      injection h5 with _ h5
      exact absurd h5 (by decide)
    · unfold T5 at h5
      rw [hk g (h.fpl g hg) hgF] at h5
      exact h2 h5
end

def opS (st : FS) : FS := { st with ops := st.ops + 1, fuse := if st.fuse - 1 < -1 then -1 else st.fuse - 1, down := st.fuse == 0 }
def faultS (st : FS) : FS := { st with fault := if st.fault - 1 < -1 then -1 else st.fault - 1 }
structure Fine (st : FS) : Prop where
  ops : st.ops ≤ 1000000
  fuse0 : -1 ≤ st.fuse
  fuse1 : st.fuse ≤ 9223372036854775807
  fault0 : -1 ≤ st.fault
  fault1 : st.fault ≤ 9223372036854775807

theorem op_calls {base : Nat} {Lz : Nat → Prop} {w : World} {F : Nat} {fp : Nat → Prop} {st : FS} (h : FRep base Lz w F fp st) (hf : Fine st) :
    Calls Try.prog 45 #[.pointer (some ⟨F, 0, none⟩)] w fun e w' => e = .returned (.bool (!(st.fuse == 0))) ∧ FRep base Lz w' F fp (opS st) ∧ Only (· = F) w w' := by
  obtain ⟨M, rv, cells, h⟩ := h
  have H := hide h
  have c2 := h.blk.cell 2 rfl
  have c3 := h.blk.cell 3 rfl
  have c5 := h.blk.cell 5 rfl
  have f2 := h.blk.frozen 2
  have f3 := h.blk.frozen 3
  have f5 := h.blk.frozen 5
  have h1 := hf.ops
  have h2 := hf.fuse0
  have h3 := hf.fuse1
  clear h
  go_enter Try.func45, Try.ntmps45
  go_wp2
  all_goals
    go_ret
    refine ⟨rfl, ⟨M, rv, cells, H.out.setF ((((Only.refl _ _).set1 2 _).set1 5 _).set1 3 _) ?_⟩, (((Only.refl _ _).set1 2 _).set1 5 _).set1 3 _⟩
    have := ((H.out.blk.set_ 2 (.int .i64 ((st.ops : Int) + 1))).set_ 5 (.bool (st.fuse == 0)))
    first
    | (rw [if_pos (by assumption)]; exact this.set_ 3 _)
    | (rw [if_neg (by omega)]; exact this.set_ 3 _)

theorem faulty_calls {base : Nat} {Lz : Nat → Prop} {w : World} {F : Nat} {fp : Nat → Prop} {st : FS} (h : FRep base Lz w F fp st) (hf : Fine st) :
    Calls Try.prog 44 #[.pointer (some ⟨F, 0, none⟩)] w fun e w' => e = .returned (.bool (st.fault == 0)) ∧ FRep base Lz w' F fp (faultS st) ∧ Only (· = F) w w' := by
  obtain ⟨M, rv, cells, h⟩ := h
  have H := hide h
  have c4 := h.blk.cell 4 rfl
  have f4 := h.blk.frozen 4
  have h2 := hf.fault0
  have h3 := hf.fault1
  clear h
  go_enter Try.func44, Try.ntmps44
  go_wp2
  all_goals
    go_ret
    refine ⟨rfl, ⟨M, rv, cells, H.out.setF ((Only.refl _ _).set1 4 _) ?_⟩, (Only.refl _ _).set1 4 _⟩
    first
    | exact H.out.blk.set_ 4 _
    | (rw [if_pos (by assumption)]; exact H.out.blk.set_ 4 _)
    | (rw [if_neg (by omega)]; exact H.out.blk.set_ 4 _)

theorem arm_calls {base : Nat} {Lz : Nat → Prop} {w : World} {F : Nat} {fp : Nat → Prop} {st : FS} (h : FRep base Lz w F fp st) (n : Int) :
    Calls Try.prog 24 #[.pointer (some ⟨F, 0, none⟩), .int .i64 n] w fun e w' => e = .returned (.tuple #[]) ∧ FRep base Lz w' F fp { st with fuse := if n < -1 then -1 else n } ∧ Only (· = F) w w' := by
  obtain ⟨M, rv, cells, h⟩ := h
  have H := hide h
  have c4 := h.blk.cell 3 rfl
  have f4 := h.blk.frozen 3
  clear h
  go_enter Try.func24, Try.ntmps24
  go_wp2
  all_goals
    go_end0
    refine ⟨rfl, ⟨M, rv, cells, H.out.setF ((Only.refl _ _).set1 3 _) ?_⟩, (Only.refl _ _).set1 3 _⟩
    first
    | exact H.out.blk.set_ 3 _
    | (rw [if_pos (by assumption)]; exact H.out.blk.set_ 3 _)
    | (rw [if_neg (by omega)]; exact H.out.blk.set_ 3 _)

theorem fault_calls {base : Nat} {Lz : Nat → Prop} {w : World} {F : Nat} {fp : Nat → Prop} {st : FS} (h : FRep base Lz w F fp st) (n : Int) :
    Calls Try.prog 28 #[.pointer (some ⟨F, 0, none⟩), .int .i64 n] w fun e w' => e = .returned (.tuple #[]) ∧ FRep base Lz w' F fp { st with fault := if n < -1 then -1 else n } ∧ Only (· = F) w w' := by
  obtain ⟨M, rv, cells, h⟩ := h
  have H := hide h
  have c4 := h.blk.cell 4 rfl
  have f4 := h.blk.frozen 4
  clear h
  go_enter Try.func28, Try.ntmps28
  go_wp2
  all_goals
    go_end0
    refine ⟨rfl, ⟨M, rv, cells, H.out.setF ((Only.refl _ _).set1 4 _) ?_⟩, (Only.refl _ _).set1 4 _⟩
    first
    | exact H.out.blk.set_ 4 _
    | (rw [if_pos (by assumption)]; exact H.out.blk.set_ 4 _)
    | (rw [if_neg (by omega)]; exact H.out.blk.set_ 4 _)

theorem down_calls {base : Nat} {Lz : Nat → Prop} {w : World} {F : Nat} {fp : Nat → Prop} {st : FS} (h : FRep base Lz w F fp st) :
    Calls Try.prog 25 #[.pointer (some ⟨F, 0, none⟩)] w fun e w' => e = .returned (.bool st.down) ∧ w' = w := by
  obtain ⟨M, rv, cells, h⟩ := h
  have c5 := h.blk.cell 5 rfl
  clear h
  go_enter Try.func25, Try.ntmps25
  go_wp2
  go_ret
  exact ⟨rfl, rfl⟩

theorem ops_calls {base : Nat} {Lz : Nat → Prop} {w : World} {F : Nat} {fp : Nat → Prop} {st : FS} (h : FRep base Lz w F fp st) :
    Calls Try.prog 26 #[.pointer (some ⟨F, 0, none⟩)] w fun e w' => e = .returned (.int .i64 st.ops) ∧ w' = w := by
  obtain ⟨M, rv, cells, h⟩ := h
  have c5 := h.blk.cell 2 rfl
  clear h
  go_enter Try.func26, Try.ntmps26
  go_wp2
  go_ret
  exact ⟨rfl, rfl⟩

theorem own_slice {w : World} {base e size n : Nat} {v : Value} {xs : List Value} (h : w.ownsRow base e size v n xs) : ∃ A c, v = .slice A n c ∧ n ≤ c := by
  rcases h.2 with ⟨rfl, rfl⟩ | ⟨g, cap, cur, rfl, _, _, hc, _⟩
  · exact ⟨none, 0, rfl, Nat.le_refl _⟩
  · exact ⟨_, _, rfl, hc⟩

theorem pending_calls {base : Nat} {Lz : Nat → Prop} {w : World} {F : Nat} {fp : Nat → Prop} {st : FS} (h : FRep base Lz w F fp st) :
    Calls Try.prog 22 #[.pointer (some ⟨F, 0, none⟩)] w fun e w' => e = .returned (.int .i64 st.row.length) ∧ w' = w := by
  obtain ⟨M, rv, cells, h⟩ := h
  obtain ⟨A, c, rfl, _⟩ := own_slice h.row
  have c5 := h.blk.cell 1 rfl
  clear h
  go_enter Try.func22, Try.ntmps22
  go_wp2
  go_ret
  exact ⟨rfl, rfl⟩

def newS : FS := ⟨[], [], fun _ => [], fun _ => 0, [], 0, -1, -1, false⟩
/-- A new file system: two new blocks. -/
theorem new_calls {base : Nat} {Lz : Nat → Prop} {w : World} (hb : base ≤ w.heap.size) (hL : ∀ g, Lz g → g < w.heap.size) :
    Calls Try.prog 12 #[] w fun e w' => ∃ F, e = .returned (.pointer (some ⟨F, 0, none⟩)) ∧ FRep base Lz w' F (fun g => w.heap.size ≤ g ∧ g < w'.heap.size) newS ∧ Below w.heap.size w w' := by
  have hmm : ∀ W : World, (Instr.makeMap 64 none).run Try.prog W = .ok (.map (some W.heap.size)) (W.alloc (.map #[] 0)) := fun W => by rw [run_makeMap]
  go_enter Try.func12, Try.ntmps12
  go_wp2
  go_ret
  refine ⟨_, rfl, ⟨w.heap.size, .slice none 0 0, [], ?_⟩, ((Below.refl _ _).alloc (Nat.le_refl _) _).alloc (by simp) _⟩
  have hB : Blk ((w.alloc (.map #[] 0)).alloc (.cells #[.map (some w.heap.size), .slice none 0 0, .int .i64 0, .int .i64 (-1), .int .i64 (-1), .bool false] 67)) (w.heap.size + 1) 67 #[.map (some w.heap.size), .slice none 0 0, .int .i64 0, .int .i64 (-1), .int .i64 (-1), .bool false] := by
    have := Blk.new (w.alloc (.map #[] 0)) 67 #[.map (some w.heap.size), .slice none 0 0, .int .i64 0, .int .i64 (-1), .int .i64 (-1), .bool false]
    simpa using this
  have hM : MapStr ((w.alloc (.map #[] 0)).alloc (.cells #[.map (some w.heap.size), .slice none 0 0, .int .i64 0, .int .i64 (-1), .int .i64 (-1), .bool false] 67)) w.heap.size [] :=
    (MapStr.new w).to (Below.heap_alloc _ _ _ (by simp))
  refine ⟨hB, hM, own_nil _ _ _ _, trivial, (fun g hg => by cases hg), (fun p hp => by cases hp), (fun p hp => by cases hp), ⟨by simp, by simp⟩, ⟨by simp, by simp; omega⟩, (fun k hk => by simp [Value.ownBlock] at hk), (fun g hg => by cases hg), fun g hg => ⟨by omega, fun h5 => ?_⟩, fun g hg => hg.2, (by simp; omega), fun g hg => by have := hL g hg; simp; omega⟩
  obtain ⟨c5, fr, h5⟩ := h5
  have h1 := hg.1
  have h2 := hg.2
  simp at h2
  rcases Nat.lt_or_ge g (w.heap.size + 1) with hlt | hge
  · obtain rfl : g = w.heap.size := by omega
    obtain ⟨es, clock, hM, _⟩ := hM
    rw [hM] at h5
    cases h5
  · obtain rfl : g = w.heap.size + 1 := by omega
    rw [hB] at h5
    injection h5 with h5
    injection h5 with _ h5
    exact absurd h5 (by decide)

theorem named_calls (s : ByteArray) (w : World) : Calls Try.prog 43 #[.string s] w fun e w' => e = .returned (.bool (decide (1 ≤ s.size) && decide (s.size ≤ 20))) ∧ w' = w := by
  by_cases h1 : 1 ≤ s.size
  · go_enter Try.func43, Try.ntmps43
    go_wp2
    go_ret
    exact ⟨by simp [h1]; omega, rfl⟩
  · go_enter Try.func43, Try.ntmps43
    go_wp2
    go_ret
    exact ⟨by simp [h1], rfl⟩

end Go.Proofs.Ytcpkoajnepijkaa
