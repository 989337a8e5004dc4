/- Parts of the proof of the law that the last file states; declarations that nothing mentions are left out by a program. No conditions. -/
import Derived.Test.YtcpkoajnepijkaaProg
import Derived.WalkSpells
import Derived.Laws.CopyOwn
import Derived.LaidEqlPtr
import Derived.Test.YtcpkoajnepijkaaLHeapq
set_option linter.unusedVariables false
set_option linter.unusedSimpArgs false
namespace Go.Proofs.Ytcpkoajnepijkaa
open Go.RowKit Go.Proofs.YtcpkoajnepijkaaL Go.Proofs.YtcpkoajnepijkaaW.PrintWords
structure Wr where
  tgt : Nat
  at_ : Nat
  b : List Int
structure FS where
  files : List (ByteArray × Nat)
  live : List Nat
  sb : Nat → List Int
  sz : Nat → Nat
  row : List Wr
  ops : Nat
  fuse : Int
  fault : Int
  down : Bool
abbrev u8 := Kd.int .u8
def T5 (w : World) (g : Nat) : Prop := ∃ cells fr, w.heap[g]? = some (.cells cells 5 fr)
def RB (base : Nat) (Lz : Nat → Prop) (w : World) (v : Value) (xs : List Int) : Prop :=
  ∃ A c, v = .slice A xs.length c ∧ xs.length ≤ c ∧ u8.C w A xs.length xs ∧ ∀ ad, A = some ad → 0 < xs.length → ad.block < base ∨ (T5 w ad.block ∧ ¬ Lz ad.block)
def Mut (base : Nat) (w : World) (G : Nat → Prop) : Prop := ∀ g, G g → base ≤ g ∧ ¬ T5 w g
def MutL (base : Nat) (Lz : Nat → Prop) (w : World) (G : Nat → Prop) : Prop := ∀ g, G g → base ≤ g ∧ (T5 w g → Lz g)
theorem Mut.wk {base : Nat} {Lz : Nat → Prop} {w : World} {G : Nat → Prop} (h : Mut base w G) : MutL base Lz w G := fun g hg => ⟨(h g hg).1, fun h5 => absurd h5 (h g hg).2⟩
def NoL : Nat → Prop := fun _ => False
theorem u8C_keep {w w' : World} {A : Option Addr} {n : Nat} {xs : List Int} (h : u8.C w A n xs) (hk : ∀ ad, A = some ad → 0 < n → w'.heap[ad.block]? = w.heap[ad.block]?) : u8.C w' A n xs := by
  refine ⟨h.1, h.2.1, fun hn => ?_⟩
  obtain ⟨ad, e, hc⟩ := h.2.2 hn
  refine ⟨ad, e, fun i p hp => ?_⟩
  obtain ⟨cs, h1, h2, h3⟩ := hc i p hp
  refine ⟨cs, h1, h2, fun j u hu => ?_⟩
  rw [← h3 j u hu]
  exact World.cell?_of_block (by rw [add_block]; exact hk ad e hn)
theorem u8C_lt {w : World} {A : Option Addr} {n : Nat} {xs : List Int} (h : u8.C w A n xs) : ∀ ad, A = some ad → 0 < n → ad.block < w.heap.size := by
  intro ad e hn
  obtain ⟨ad', e', hc⟩ := h.2.2 hn
  rw [e] at e'
  injection e' with e'
  subst e'
  have hl := h.1
  obtain ⟨cs, h1, h2, h3⟩ := hc 0 (xs[0]'(by omega)) (List.getElem?_eq_getElem (by omega))
  have hcs : cs = [.int .u8 (xs[0]'(by omega))] := h2
  have := h3 0 (.int .u8 (xs[0]'(by omega))) (by rw [hcs]; rfl)
  have := World.block_lt_of_cell? w _ this
  rwa [add_block] at this
section
variable {base : Nat} {Lz : Nat → Prop} {w w' : World} {v : Value} {xs : List Int}
theorem RB.onlyL {G : Nat → Prop} (h : RB base Lz w v xs) (ho : Only G w w') (hG : MutL base Lz w G) : RB base Lz w' v xs := by
  obtain ⟨A, c, rfl, hc, hC, hI⟩ := h
  have hk : ∀ ad, A = some ad → 0 < xs.length → w'.heap[ad.block]? = w.heap[ad.block]? := fun ad e hn => by
    refine ho.block _ (u8C_lt hC ad e hn) (fun hg => ?_)
    obtain ⟨h1, h2⟩ := hG _ hg
    rcases hI ad e hn with h | h
    · omega
    · exact h.2 (h2 h.1)
  refine ⟨A, c, rfl, hc, u8C_keep hC hk, fun ad e hn => ?_⟩
  rcases hI ad e hn with h | h
  · exact .inl h
  · right
    obtain ⟨⟨cells, fr, hh⟩, hl⟩ := h
    exact ⟨⟨cells, fr, (hk ad e hn).trans hh⟩, hl⟩
theorem RB.only {G : Nat → Prop} (h : RB base Lz w v xs) (ho : Only G w w') (hG : Mut base w G) : RB base Lz w' v xs := h.onlyL ho hG.wk
theorem RB.below (h : RB base Lz w v xs) (hb : Below w.heap.size w w') : RB base Lz w' v xs := h.only (Only.of_below (F := fun _ => False) hb) (fun _ h => h.elim)
theorem RB.nil (base : Nat) (Lz : Nat → Prop) (w : World) : RB base Lz w (.slice none 0 0) [] := ⟨none, 0, rfl, Nat.le_refl _, Kd.C_nil _ _, fun _ e _ => by cases e⟩
theorem RB.loose {Lz' : Nat → Prop} (h : RB base Lz w v xs) (hl : ∀ g, g < w.heap.size → Lz' g → Lz g) : RB base Lz' w v xs := by
  obtain ⟨A, c, rfl, hc, hC, hI⟩ := h
  refine ⟨A, c, rfl, hc, hC, fun ad e hn => (hI ad e hn).imp id (fun h5 => ⟨h5.1, fun hz => ?_⟩)⟩
  obtain ⟨⟨cells, fr, hh⟩, hn⟩ := h5
  exact hn (hl _ (Array.getElem?_eq_some_iff.1 hh).1 hz)
theorem RB.noL (h : RB base Lz w v xs) : RB base NoL w v xs := h.loose (fun _ _ h => h.elim)
theorem RB.arg {A : Option Addr} {c : Nat} (hc : xs.length ≤ c) (hC : u8.C w A xs.length xs) : RB w.heap.size Lz w (.slice A xs.length c) xs := ⟨A, c, rfl, hc, hC, fun ad e hn => .inl (u8C_lt hC ad e hn)⟩
theorem RB.of_R {ok : Nat → Prop} {B : Nat} (h : u8.R 5 w B ok v xs) (hL : ∀ g, B ≤ g → ¬ Lz g) : RB base Lz w v xs := by
  obtain ⟨A, c, rfl, hc, hC⟩ := Kd.R_reads h
  refine ⟨A, c, rfl, hc, hC, fun ad e _ => .inr ?_⟩
  subst e
  obtain ⟨inner, ho⟩ := Kd.R_own h
  obtain ⟨cells, hh⟩ := own_typed ho ad.block rfl
  exact ⟨⟨cells, _, hh⟩, hL _ (own_base ho _ rfl)⟩
end
def RowIs (base : Nat) (Lz : Nat → Prop) (w : World) : List Wr → List Value → Prop
  | [], [] => True
  | x :: r, p :: a :: v :: cs => p = .pointer (some ⟨x.tgt, 0, none⟩) ∧ a = .int .i64 x.at_ ∧ RB base Lz w v x.b ∧ RowIs base Lz w r cs
  | _, _ => False
section
variable {base : Nat} {Lz : Nat → Prop} {w w' : World}
theorem RowIs.imp {Lz' : Nat → Prop} (hRB : ∀ v xs, RB base Lz w v xs → RB base Lz' w' v xs) : ∀ {row : List Wr} {cs : List Value}, RowIs base Lz w row cs → RowIs base Lz' w' row cs
  | [], [], _ => trivial
  | x :: r, p :: a :: v :: cs, h => ⟨h.1, h.2.1, hRB _ _ h.2.2.1, RowIs.imp hRB h.2.2.2⟩
theorem RowIs.snoc {x : Wr} {v : Value} (hv : RB base Lz w v x.b) : ∀ {row : List Wr} {cs : List Value}, RowIs base Lz w row cs → RowIs base Lz w (row ++ [x]) (cs ++ [.pointer (some ⟨x.tgt, 0, none⟩), .int .i64 x.at_, v])
  | [], [], _ => ⟨rfl, rfl, hv, trivial⟩
  | y :: r, p :: a :: u :: cs, h => ⟨h.1, h.2.1, h.2.2.1, RowIs.snoc hv h.2.2.2⟩
theorem RowIs.get : ∀ {row : List Wr} {cs : List Value} (_ : RowIs base Lz w row cs) (i : Nat) (hi : i < row.length),
    cs[i * 3]? = some (.pointer (some ⟨row[i].tgt, 0, none⟩)) ∧ cs[i * 3 + 1]? = some (.int .i64 row[i].at_) ∧ ∃ v, cs[i * 3 + 2]? = some v ∧ RB base Lz w v row[i].b
  | x :: r, p :: a :: v :: cs, h, 0, _ => ⟨by simp [h.1], by simp [h.2.1], v, by simp, h.2.2.1⟩
  | x :: r, p :: a :: v :: cs, h, i + 1, hi => by
    have := RowIs.get h.2.2.2 i (by simpa using hi)
    have e0 : (i + 1) * 3 = i * 3 + 3 := by omega
    have e1 : i * 3 + 3 + 1 = i * 3 + 1 + 3 := by omega
    have e2 : i * 3 + 3 + 2 = i * 3 + 2 + 3 := by omega
    rw [e0, e1, e2]
    simpa using this
end
structure FRepX (base : Nat) (Lz : Nat → Prop) (w : World) (F : Nat) (fp : Nat → Prop) (st : FS) (M : Nat) (rv : Value) (cells : List Value) : Prop where
  blk : Blk w F 67 #[.map (some M), rv, .int .i64 st.ops, .int .i64 st.fuse, .int .i64 st.fault, .bool st.down]
  map : MapStr w M (st.files.map fun p => (p.1, .pointer (some ⟨p.2, 0, none⟩)))
  row : w.ownsRow base 80 3 rv st.row.length cells
  rowIs : RowIs base Lz w st.row cells
  ino : ∀ g ∈ st.live, ∃ v, Blk w g 77 #[v, .int .i64 (st.sz g)] ∧ RB base Lz w v (st.sb g)
  filesLive : ∀ p ∈ st.files, p.2 ∈ st.live
  rowLive : ∀ x ∈ st.row, x.tgt ∈ st.live
  fpF : fp F
  fpM : fp M
  fpR : ∀ k, rv.ownBlock = some k → fp k
  fpI : ∀ g ∈ st.live, fp g
  fpb : Mut base w fp
  fpl : ∀ g, fp g → g < w.heap.size
  hbase : base ≤ w.heap.size
  lz : ∀ g, Lz g → g < w.heap.size
def FRep (base : Nat) (Lz : Nat → Prop) (w : World) (F : Nat) (fp : Nat → Prop) (st : FS) : Prop := ∃ M rv cells, FRepX base Lz w F fp st M rv cells
section
variable {base : Nat} {Lz : Nat → Prop} {w w' : World} {F : Nat} {fp : Nat → Prop} {st : FS} {M : Nat} {rv : Value} {cells : List Value}
theorem row_only {G : Nat → Prop} {e size n : Nat} {v : Value} {xs : List Value} (h : w.ownsRow base e size v n xs) (ho : Only G w w') (hG : ∀ k, v.ownBlock = some k → ¬ G k) : w'.ownsRow base e size v n xs :=
  own_move h (fun k hk => ho.block k (own_lt h k hk) (hG k hk))
theorem FRepX.onlyL {G : Nat → Prop} (h : FRepX base Lz w F fp st M rv cells) (ho : Only G w w') (hG : MutL base Lz w G) (hd : ∀ g, G g → ¬ fp g) : FRepX base Lz w' F fp st M rv cells := by
  have hk : ∀ g, fp g → w'.heap[g]? = w.heap[g]? := fun g hg => ho.block g (h.fpl g hg) (fun h' => hd g h' hg)
  have hRB : ∀ v xs, RB base Lz w v xs → RB base Lz w' v xs := fun v xs hv => hv.onlyL ho hG
  refine ⟨h.blk.to (hk _ h.fpF), h.map.to (hk _ h.fpM), row_only h.row ho (fun k hk' hg => hd k hg (h.fpR k hk')), h.rowIs.imp hRB, fun g hg => ?_, h.filesLive, h.rowLive, h.fpF, h.fpM, h.fpR, h.fpI, fun g hg => ?_, fun g hg => Nat.lt_of_lt_of_le (h.fpl g hg) ho.size, Nat.le_trans h.hbase ho.size, fun g hg => Nat.lt_of_lt_of_le (h.lz g hg) ho.size⟩
  · obtain ⟨v, h1, h2⟩ := h.ino g hg
    exact ⟨v, h1.to (hk _ (h.fpI g hg)), hRB _ _ h2⟩
  · obtain ⟨h1, h2⟩ := h.fpb g hg
    refine ⟨h1, fun h5 => h2 ?_⟩
    unfold T5 at h5 ⊢
    rwa [hk g hg] at h5
theorem FRepX.only {G : Nat → Prop} (h : FRepX base Lz w F fp st M rv cells) (ho : Only G w w') (hG : Mut base w G) (hd : ∀ g, G g → ¬ fp g) : FRepX base Lz w' F fp st M rv cells := h.onlyL ho hG.wk hd
theorem FRep.lz (h : FRep base Lz w F fp st) : ∀ g, Lz g → g < w.heap.size := by
  obtain ⟨M, rv, cells, h⟩ := h
  exact h.lz
theorem FRep.nol (h : FRep base Lz w F fp st) {B : Nat} (hB : w.heap.size ≤ B) : ∀ g, B ≤ g → ¬ Lz g := fun g hg hz => by have := h.lz g hz; omega
theorem FRep.only {G : Nat → Prop} (h : FRep base Lz w F fp st) (ho : Only G w w') (hG : Mut base w G) (hd : ∀ g, G g → ¬ fp g) : FRep base Lz w' F fp st := by
  obtain ⟨M, rv, cells, h⟩ := h
  exact ⟨M, rv, cells, h.only ho hG hd⟩
theorem FRep.below (h : FRep base Lz w F fp st) (hb : Below w.heap.size w w') : FRep base Lz w' F fp st := h.only (Only.of_below (F := fun _ => False) hb) (fun _ h => h.elim) (fun _ h => h.elim)
theorem FRepX.rowNeF (h : FRepX base Lz w F fp st M rv cells) : ∀ k, rv.ownBlock = some k → k ≠ F := by
  intro k hk e
  subst e
  exact own_blk_ne h.row h.blk (by decide) hk
theorem FRepX.setF (h : FRepX base Lz w F fp st M rv cells) (ho : Only (· = F) w w') {ops : Nat} {fuse fault : Int} {down : Bool}
    (hb : Blk w' F 67 #[.map (some M), rv, .int .i64 ops, .int .i64 fuse, .int .i64 fault, .bool down]) : FRepX base Lz w' F fp { st with ops, fuse, fault, down } M rv cells := by
  have hG : Mut base w (· = F) := fun g hg => hg ▸ h.fpb F h.fpF
  have hRB : ∀ v xs, RB base Lz w v xs → RB base Lz w' v xs := fun v xs hv => hv.only ho hG
  have hk : ∀ g, g < w.heap.size → g ≠ F → w'.heap[g]? = w.heap[g]? := fun g hg hne => ho.block g hg hne
  refine ⟨hb, h.map.to (hk _ h.map.lt (h.map.ne_blk h.blk)), row_only h.row ho h.rowNeF, h.rowIs.imp hRB, fun g hg => ?_, h.filesLive, h.rowLive, h.fpF, h.fpM, h.fpR, h.fpI, fun g hg => ?_, fun g hg => Nat.lt_of_lt_of_le (h.fpl g hg) ho.size, Nat.le_trans h.hbase ho.size, fun g hg => Nat.lt_of_lt_of_le (h.lz g hg) ho.size⟩
  · obtain ⟨v, h1, h2⟩ := h.ino g hg
    exact ⟨v, h1.to (hk _ h1.lt (h1.ne_ h.blk (by decide))), hRB _ _ h2⟩
  · obtain ⟨h1, h2⟩ := h.fpb g hg
    refine ⟨h1, fun h5 => ?_⟩
    by_cases hgF : g = F
    · subst hgF
      obtain ⟨c5, fr, h5⟩ := h5
      rw [hb] at h5
      injection h5 with h5
      injection h5 with _ h5
      exact absurd h5 (by decide)
    · unfold T5 at h5
      rw [hk g (h.fpl g hg) hgF] at h5
      exact h2 h5
end
def opS (st : FS) : FS := { st with ops := st.ops + 1, fuse := if st.fuse - 1 < -1 then -1 else st.fuse - 1, down := st.fuse == 0 }
def faultS (st : FS) : FS := { st with fault := if st.fault - 1 < -1 then -1 else st.fault - 1 }
structure Fine (st : FS) : Prop where
  ops : st.ops ≤ 1000000
  fuse0 : -1 ≤ st.fuse
  fuse1 : st.fuse ≤ 9223372036854775807
  fault0 : -1 ≤ st.fault
  fault1 : st.fault ≤ 9223372036854775807
theorem op_calls {base : Nat} {Lz : Nat → Prop} {w : World} {F : Nat} {fp : Nat → Prop} {st : FS} (h : FRep base Lz w F fp st) (hf : Fine st) :
    Calls Try.prog 45 #[.pointer (some ⟨F, 0, none⟩)] w fun e w' => e = .returned (.bool (!(st.fuse == 0))) ∧ FRep base Lz w' F fp (opS st) ∧ Only (· = F) w w' := by
  obtain ⟨M, rv, cells, h⟩ := h
  have H := hide h
  have c2 := h.blk.cell 2 rfl
  have c3 := h.blk.cell 3 rfl
  have c5 := h.blk.cell 5 rfl
  have f2 := h.blk.frozen 2
  have f3 := h.blk.frozen 3
  have f5 := h.blk.frozen 5
  have h1 := hf.ops
  have h2 := hf.fuse0
  have h3 := hf.fuse1
  clear h
  go_enter Try.func45, Try.ntmps45
  go_wp2
  all_goals
    go_ret
    refine ⟨rfl, ⟨M, rv, cells, H.out.setF ((((Only.refl _ _).set1 2 _).set1 5 _).set1 3 _) ?_⟩, (((Only.refl _ _).set1 2 _).set1 5 _).set1 3 _⟩
    have := ((H.out.blk.set_ 2 (.int .i64 ((st.ops : Int) + 1))).set_ 5 (.bool (st.fuse == 0)))
    first
    | (rw [if_pos (by assumption)]; exact this.set_ 3 _)
    | (rw [if_neg (by omega)]; exact this.set_ 3 _)
theorem faulty_calls {base : Nat} {Lz : Nat → Prop} {w : World} {F : Nat} {fp : Nat → Prop} {st : FS} (h : FRep base Lz w F fp st) (hf : Fine st) :
    Calls Try.prog 44 #[.pointer (some ⟨F, 0, none⟩)] w fun e w' => e = .returned (.bool (st.fault == 0)) ∧ FRep base Lz w' F fp (faultS st) ∧ Only (· = F) w w' := by
  obtain ⟨M, rv, cells, h⟩ := h
  have H := hide h
  have c4 := h.blk.cell 4 rfl
  have f4 := h.blk.frozen 4
  have h2 := hf.fault0
  have h3 := hf.fault1
  clear h
  go_enter Try.func44, Try.ntmps44
  go_wp2
  all_goals
    go_ret
    refine ⟨rfl, ⟨M, rv, cells, H.out.setF ((Only.refl _ _).set1 4 _) ?_⟩, (Only.refl _ _).set1 4 _⟩
    first
    | exact H.out.blk.set_ 4 _
    | (rw [if_pos (by assumption)]; exact H.out.blk.set_ 4 _)
    | (rw [if_neg (by omega)]; exact H.out.blk.set_ 4 _)
theorem arm_calls {base : Nat} {Lz : Nat → Prop} {w : World} {F : Nat} {fp : Nat → Prop} {st : FS} (h : FRep base Lz w F fp st) (n : Int) :
    Calls Try.prog 24 #[.pointer (some ⟨F, 0, none⟩), .int .i64 n] w fun e w' => e = .returned (.tuple #[]) ∧ FRep base Lz w' F fp { st with fuse := if n < -1 then -1 else n } ∧ Only (· = F) w w' := by
  obtain ⟨M, rv, cells, h⟩ := h
  have H := hide h
  have c4 := h.blk.cell 3 rfl
  have f4 := h.blk.frozen 3
  clear h
  go_enter Try.func24, Try.ntmps24
  go_wp2
  all_goals
    go_end0
    refine ⟨rfl, ⟨M, rv, cells, H.out.setF ((Only.refl _ _).set1 3 _) ?_⟩, (Only.refl _ _).set1 3 _⟩
    first
    | exact H.out.blk.set_ 3 _
    | (rw [if_pos (by assumption)]; exact H.out.blk.set_ 3 _)
    | (rw [if_neg (by omega)]; exact H.out.blk.set_ 3 _)
theorem fault_calls {base : Nat} {Lz : Nat → Prop} {w : World} {F : Nat} {fp : Nat → Prop} {st : FS} (h : FRep base Lz w F fp st) (n : Int) :
    Calls Try.prog 28 #[.pointer (some ⟨F, 0, none⟩), .int .i64 n] w fun e w' => e = .returned (.tuple #[]) ∧ FRep base Lz w' F fp { st with fault := if n < -1 then -1 else n } ∧ Only (· = F) w w' := by
  obtain ⟨M, rv, cells, h⟩ := h
  have H := hide h
  have c4 := h.blk.cell 4 rfl
  have f4 := h.blk.frozen 4
  clear h
  go_enter Try.func28, Try.ntmps28
  go_wp2
  all_goals
    go_end0
    refine ⟨rfl, ⟨M, rv, cells, H.out.setF ((Only.refl _ _).set1 4 _) ?_⟩, (Only.refl _ _).set1 4 _⟩
    first
    | exact H.out.blk.set_ 4 _
    | (rw [if_pos (by assumption)]; exact H.out.blk.set_ 4 _)
    | (rw [if_neg (by omega)]; exact H.out.blk.set_ 4 _)
theorem down_calls {base : Nat} {Lz : Nat → Prop} {w : World} {F : Nat} {fp : Nat → Prop} {st : FS} (h : FRep base Lz w F fp st) :
    Calls Try.prog 25 #[.pointer (some ⟨F, 0, none⟩)] w fun e w' => e = .returned (.bool st.down) ∧ w' = w := by
  obtain ⟨M, rv, cells, h⟩ := h
  have c5 := h.blk.cell 5 rfl
  clear h
  go_enter Try.func25, Try.ntmps25
  go_wp2
  go_ret
  exact ⟨rfl, rfl⟩
theorem ops_calls {base : Nat} {Lz : Nat → Prop} {w : World} {F : Nat} {fp : Nat → Prop} {st : FS} (h : FRep base Lz w F fp st) :
    Calls Try.prog 26 #[.pointer (some ⟨F, 0, none⟩)] w fun e w' => e = .returned (.int .i64 st.ops) ∧ w' = w := by
  obtain ⟨M, rv, cells, h⟩ := h
  have c5 := h.blk.cell 2 rfl
  clear h
  go_enter Try.func26, Try.ntmps26
  go_wp2
  go_ret
  exact ⟨rfl, rfl⟩
theorem own_slice {w : World} {base e size n : Nat} {v : Value} {xs : List Value} (h : w.ownsRow base e size v n xs) : ∃ A c, v = .slice A n c ∧ n ≤ c := by
  rcases h.2 with ⟨rfl, rfl⟩ | ⟨g, cap, cur, rfl, _, _, hc, _⟩
  · exact ⟨none, 0, rfl, Nat.le_refl _⟩
  · exact ⟨_, _, rfl, hc⟩
theorem pending_calls {base : Nat} {Lz : Nat → Prop} {w : World} {F : Nat} {fp : Nat → Prop} {st : FS} (h : FRep base Lz w F fp st) :
    Calls Try.prog 22 #[.pointer (some ⟨F, 0, none⟩)] w fun e w' => e = .returned (.int .i64 st.row.length) ∧ w' = w := by
  obtain ⟨M, rv, cells, h⟩ := h
  obtain ⟨A, c, rfl, _⟩ := own_slice h.row
  have c5 := h.blk.cell 1 rfl
  clear h
  go_enter Try.func22, Try.ntmps22
  go_wp2
  go_ret
  exact ⟨rfl, rfl⟩
def newS : FS := ⟨[], [], fun _ => [], fun _ => 0, [], 0, -1, -1, false⟩
theorem new_calls {base : Nat} {Lz : Nat → Prop} {w : World} (hb : base ≤ w.heap.size) (hL : ∀ g, Lz g → g < w.heap.size) :
    Calls Try.prog 12 #[] w fun e w' => ∃ F, e = .returned (.pointer (some ⟨F, 0, none⟩)) ∧ FRep base Lz w' F (fun g => w.heap.size ≤ g ∧ g < w'.heap.size) newS ∧ Below w.heap.size w w' := by
  have hmm : ∀ W : World, (Instr.makeMap 64 none).run Try.prog W = .ok (.map (some W.heap.size)) (W.alloc (.map #[] 0)) := fun W => by rw [run_makeMap]
  go_enter Try.func12, Try.ntmps12
  go_wp2
  go_ret
  refine ⟨_, rfl, ⟨w.heap.size, .slice none 0 0, [], ?_⟩, ((Below.refl _ _).alloc (Nat.le_refl _) _).alloc (by simp) _⟩
  have hB : Blk ((w.alloc (.map #[] 0)).alloc (.cells #[.map (some w.heap.size), .slice none 0 0, .int .i64 0, .int .i64 (-1), .int .i64 (-1), .bool false] 67)) (w.heap.size + 1) 67 #[.map (some w.heap.size), .slice none 0 0, .int .i64 0, .int .i64 (-1), .int .i64 (-1), .bool false] := by
    have := Blk.new (w.alloc (.map #[] 0)) 67 #[.map (some w.heap.size), .slice none 0 0, .int .i64 0, .int .i64 (-1), .int .i64 (-1), .bool false]
    simpa using this
  have hM : MapStr ((w.alloc (.map #[] 0)).alloc (.cells #[.map (some w.heap.size), .slice none 0 0, .int .i64 0, .int .i64 (-1), .int .i64 (-1), .bool false] 67)) w.heap.size [] :=
    (MapStr.new w).to (Below.heap_alloc _ _ _ (by simp))
  refine ⟨hB, hM, own_nil _ _ _ _, trivial, (fun g hg => by cases hg), (fun p hp => by cases hp), (fun p hp => by cases hp), ⟨by simp, by simp⟩, ⟨by simp, by simp; omega⟩, (fun k hk => by simp [Value.ownBlock] at hk), (fun g hg => by cases hg), fun g hg => ⟨by omega, fun h5 => ?_⟩, fun g hg => hg.2, (by simp; omega), fun g hg => by have := hL g hg; simp; omega⟩
  obtain ⟨c5, fr, h5⟩ := h5
  have h1 := hg.1
  have h2 := hg.2
  simp at h2
  rcases Nat.lt_or_ge g (w.heap.size + 1) with hlt | hge
  · obtain rfl : g = w.heap.size := by omega
    obtain ⟨es, clock, hM, _⟩ := hM
    rw [hM] at h5
    cases h5
  · obtain rfl : g = w.heap.size + 1 := by omega
    rw [hB] at h5
    injection h5 with h5
    injection h5 with _ h5
    exact absurd h5 (by decide)
theorem named_calls (s : ByteArray) (w : World) : Calls Try.prog 43 #[.string s] w fun e w' => e = .returned (.bool (decide (1 ≤ s.size) && decide (s.size ≤ 20))) ∧ w' = w := by
  by_cases h1 : 1 ≤ s.size
  · go_enter Try.func43, Try.ntmps43
    go_wp2
    go_ret
    exact ⟨by simp [h1]; omega, rfl⟩
  · go_enter Try.func43, Try.ntmps43
    go_wp2
    go_ret
    exact ⟨by simp [h1], rfl⟩
end Go.Proofs.Ytcpkoajnepijkaa
namespace Go.Proofs.Ytcpkoajnepijkaa
open Go.RowKit Go.Proofs.YtcpkoajnepijkaaL Go.Proofs.YtcpkoajnepijkaaW.PrintWords
theorem info5 : (Try.prog.info? 5).map (fun i => (i.zero, i.size, i.bytes)) = some (some (.int .u8 0), 1, 1) := by kernel_rfl
theorem size5 : (Try.prog.info? 5).map (·.size) = some 1 := by kernel_rfl
abbrev Own (w : World) (B : Nat) (v : Value) (xs : List Int) : Prop := u8.R 5 w B (fun _ => True) v xs
theorem own_lit0 (w : World) (B : Nat) (hB : B ≤ w.heap.size) : Own (w.alloc (.cells #[] 5)) B (.slice (some ⟨w.heap.size, 0, none⟩) 0 0) [] :=
  Kd.R_of_own (World.ownsRow_lit w #[] 0 hB (by unfold maxLen; omega) (by simp)) (fun _ _ => trivial)
theorem clone_calls {base : Nat} {Lz : Nat → Prop} {w : World} {v : Value} {xs : List Int} (h : RB base Lz w v xs) (hl : xs.length ≤ 1000000000) :
    Calls Try.prog 41 #[v] w fun e w' => ∃ v', e = .returned v' ∧ Own w' w.heap.size v' xs ∧ Below w.heap.size w w' := by
  obtain ⟨A, c, rfl, hc, hC, _⟩ := h
  cases A with
  | none =>
    have hx : xs = [] := by
      rcases Nat.eq_zero_or_pos xs.length with h | h
      · exact List.eq_nil_of_length_eq_zero h
      · obtain ⟨ad, e, _⟩ := hC.2.2 h
        cases e
    subst hx
    clear hC hl hc
    have hnil : ∀ W, (binOp .eql 31 (.slice none 0 c) (.slice none 0 0)).run Try.prog W = .ok (.bool true) W := fun W => Lib.run_eql_slice_nil W 31 5 none 0 c 0 0 Try.underlying31
    show Calls Try.prog 41 #[.slice none 0 c] w _
    go_enter Try.func41, Try.ntmps41
    go_wp2
    go_ret
    exact ⟨_, rfl, Kd.R_nil _ _ _ _ _, Below.refl _ _⟩
  | some ad =>
    have HC := Zz.mk hC
    have HCC := Zz.mk hc
    have HL := Zz.mk hl
    clear hC hc hl
    have hnil : ∀ W, (binOp .eql 31 (.slice (some ad) xs.length c) (.slice none 0 0)).run Try.prog W = .ok (.bool false) W := fun W => Lib.run_eql_slice_nil W 31 5 (some ad) xs.length c 0 0 Try.underlying31
    go_enter Try.func41, Try.ntmps41
    go_wp2_with (at_builtin; refine Kd.R_append_rows u8 (w0 := w) w.heap.size rfl (.tmp 5) (.tmp 6) 31 5 (.int .u8 0) 1 rfl Try.underlying31 info5 rfl (by decide) (by decide) (.slice (some ⟨w.heap.size, 0, none⟩) 0 0) [] xs (some ad) xs.length c (fun _ => True) (fun _ => False) rfl rfl (own_lit0 w _ (Nat.le_refl _)) (Kd.C_alloc HC.out _) (fun x cs h => h) (fun _ h => h.elim) (fun _ _ => trivial) (below_alloc (Below.refl _ _) _) (by simp) (by have := HL.out; simp; omega) ?_; intro v1 w1 ho hb _ _)
    go_ret
    exact ⟨_, rfl, ho, hb⟩
def laidL (b : List Int) (k : Nat) (c : List Int) : List Int :=
  if c.length = 0 then b else splice (b ++ List.replicate (k + c.length - b.length) 0) k c
theorem laidL_length (b : List Int) (k : Nat) (c : List Int) : (laidL b k c).length = if c.length = 0 then b.length else max b.length (k + c.length) := by
  unfold laidL
  split
  · rfl
  · rw [length_splice _ _ _ (by simp; omega)]
    simp
    omega
theorem splice_append {α : Type} (L L2 : List α) (k : Nat) (c : List α) (hk : k + c.length ≤ L.length) : splice (L ++ L2) k c = splice L k c ++ L2 := by
  unfold splice
  rw [List.take_append_of_le_length (by omega), List.drop_append_of_le_length (by omega)]
  simp
theorem take_splice {α : Type} (L : List α) (k : Nat) (c : List α) (n : Nat) (hk : k + c.length ≤ n) (hn : n ≤ L.length) : (splice L k c).take n = splice (L.take n) k c := by
  have hl : (L.take n).length = n := by rw [List.length_take]; omega
  have h := splice_append (L.take n) (L.drop n) k c (by omega)
  rw [List.take_append_drop] at h
  rw [h, List.take_append_of_le_length (by rw [length_splice _ _ _ (by omega)]; omega), List.take_of_length_le (by rw [length_splice _ _ _ (by omega)]; omega)]
theorem own_spliced {w : World} {B g n cap : Nat} {cur : Array Value} {xs cs : List Int} {k : Nat} (hB : B ≤ g) (hnc : n ≤ cap) (hcap : cap ≤ maxLen) (hs : cur.size = cap) (hx : cur.toList.take n = encs (Value.int .u8) xs) (hn : xs.length = n) (hk : k + cs.length ≤ n)
    (hw : w.heap[g]? = some (.cells (splice cur.toList k (encs (Value.int .u8) cs)).toArray 5 (0, 0))) : Own w B (.slice (some ⟨g, 0, none⟩) n cap) (splice xs k cs) := by
  have hl : (splice xs k cs).length = n := by rw [length_splice _ _ _ (by omega)]; exact hn
  have hcl : cur.toList.length = cap := by rw [Array.length_toList]; exact hs
  refine Kd.R_of_own (enc := Value.int .u8) ?_ (fun _ _ => trivial)
  rw [hl]
  have he : (encs (Value.int .u8) cs).length = cs.length := by simp [encs]
  have hkk : k + (encs (Value.int .u8) cs).length ≤ cur.toList.length := by rw [he]; omega
  refine ⟨by simp [encs, hl], .inr ⟨g, cap, _, rfl, hB, hw, hnc, hcap, ?_, ?_⟩⟩
  · rw [List.size_toArray, length_splice _ _ _ hkk, hcl, Nat.mul_one]
  · rw [Nat.mul_one]
    show (splice cur.toList k (encs (Value.int .u8) cs)).take n = encs (Value.int .u8) (splice xs k cs)
    have h1 : encs (Value.int .u8) (splice xs k cs) = splice (encs (Value.int .u8) xs) k (encs (Value.int .u8) cs) := by
      unfold splice encs
      simp [List.map_take, List.map_drop]
    rw [h1, ← hx]
    exact take_splice _ _ _ _ (by rw [he]; exact hk) (by rw [Array.length_toList]; omega)
theorem copy_n {k n : Nat} {c : List Int} (h : k + c.length ≤ n) : (encs (Value.int .u8) c).length = Nat.min c.length (n - k) := by
  have : (encs (Value.int .u8) c).length = c.length := by simp [encs]
  rw [this]
  exact (Nat.min_eq_left (by omega)).symm
theorem copy_fit {k n cap : Nat} {c : List Int} {cur : Array Value} (h : k + c.length ≤ n) (h2 : n ≤ cap) (hs : cur.size = cap) : k + (encs (Value.int .u8) c).length ≤ cur.toList.length := by
  have : (encs (Value.int .u8) c).length = c.length := by simp [encs]
  have hcl : cur.toList.length = cap := by rw [Array.length_toList]; exact hs
  rw [this, hcl]
  omega
theorem enc_one {c : List Int} : ∀ v ∈ encs (Value.int .u8) c, v.oneCell' = true := by
  intro v hv
  obtain ⟨x, _, rfl⟩ := List.mem_map.1 hv
  rfl
theorem copy_src {w w' : World} {A : Option Addr} {c : List Int} (h : u8.C w A c.length c) (hb : Below w.heap.size w w') (hp : 0 < (encs (Value.int .u8) c).length) :
    ∃ ad, A = some ad ∧ ∀ j v, (encs (Value.int .u8) c)[j]? = some v → w'.cell? (ad.add j) = some v := by
  obtain ⟨ad, e, hc⟩ := (Kd.C_below h hb).2.2 (by simpa [encs] using hp)
  refine ⟨ad, e, fun j v hv => ?_⟩
  obtain ⟨x, hx, rfl⟩ : ∃ x, c[j]? = some x ∧ Value.int .u8 x = v := by
    simp only [encs, List.getElem?_map] at hv
    cases hx : c[j]? with
    | none => rw [hx] at hv; cases hv
    | some x => rw [hx] at hv; exact ⟨x, rfl, by simpa using hv⟩
  obtain ⟨cs, _, h2, h3⟩ := hc j x hx
  have hcs : cs = [.int .u8 x] := h2
  have h4 : w'.cell? (ad.add (j * 1 + 0)) = some (.int .u8 x) := h3 0 (.int .u8 x) (by rw [hcs]; rfl)
  simpa using h4
theorem own_form {w : World} {B : Nat} {v : Value} {xs : List Int} (h : Own w B v xs) : ∃ A n c, v = .slice A n c ∧ n = xs.length := by
  obtain ⟨A, c, rfl, _, _⟩ := Kd.R_reads h
  exact ⟨A, _, c, rfl, rfl⟩
theorem own_pad_zero (b : List Int) : b ++ List.replicate 0 (0 : Int) = b := by simp
set_option maxRecDepth 100000 in
set_option maxHeartbeats 1000000 in
theorem laid_calls {base : Nat} {Lz : Nat → Prop} {w : World} {v u : Value} {b c : List Int} {k : Nat} (h : RB base Lz w v b) (h2 : RB base Lz w u c) (hk : k ≤ 100000) (hb : b.length ≤ 100000) (hc : c.length ≤ 100000) :
    Calls Try.prog 42 #[v, .int .i64 k, u] w fun e w' => ∃ v', e = .returned v' ∧ Own w' w.heap.size v' (laidL b k c) ∧ Below w.heap.size w w' := by
  have HRB := Zz.mk h
  obtain ⟨A, cv, rfl, hcv, hC, _⟩ := h
  obtain ⟨A2, cu, rfl, hcu, hC2, _⟩ := h2
  have HC2 := Zz.mk hC2
  have hn2 := hC2.2.1
  clear hC hC2 hcv hcu hn2
  go_enter Try.func42, Try.ntmps42
  go_wp2_with (go_at_call 41; (with_reducible refine (clone_calls HRB.out (by omega)).mono ?_); rintro e w1 ⟨v1, rfl, ho, hbl⟩; have HO := Zz.mk ho; have HB := Zz.mk hbl; clear ho hbl)
  go_loopg [7] (k + c.length - b.length) (fun kq v7 w' => ∃ i : Nat, Zz (c.length = 0 → i = 0) ∧ i + kq = k + c.length - b.length ∧ Zz (Own w' w.heap.size v7 (b ++ List.replicate i 0)) ∧ Zz (Below w.heap.size w w'))
  case atStart => exact ⟨0, ⟨fun _ => rfl⟩, by omega, ⟨by rw [own_pad_zero]; exact HO.out⟩, HB⟩
  case round =>
    obtain ⟨i, HZ, hi, HO, HB⟩ := hrel
    obtain ⟨A7, n7, c7, rfl, hn7⟩ := own_form HO.out
    rw [List.length_append, List.length_replicate] at hn7
    by_cases hr : 0 < c.length ∧ n7 < k + c.length
    · obtain ⟨hr1, hr2⟩ := hr
      obtain ⟨d, rfl⟩ : ∃ d, gk = d + 1 := ⟨gk - 1, by omega⟩
      have e1 : decide (0 < c.length) = true := decide_eq_true hr1
      have e2 : decide (n7 < k + c.length) = true := decide_eq_true hr2
      have HREP := Zz.mk (show (b ++ List.replicate i (0 : Int)) ++ [0] = b ++ List.replicate (i + 1) 0 by rw [List.append_assoc, List.replicate_succ'])
      have HN7 := Zz.mk hn7
      clear hn7
      go_wp2_with (at_builtin; refine Kd.R_append u8 (w0 := w) w.heap.size rfl (.tmp 22) (.tmp 23) 31 5 (.int .u8 0) 1 rfl Try.underlying31 info5 rfl (by decide) (by decide) (.slice A7 n7 c7) (b ++ List.replicate i 0) 0 [.int .u8 0] (fun _ => True) (fun _ => False) rfl (by first | (go_simp; done) | (go_simp; rfl)) rfl (fun _ hk => hk.elim) (fun _ _ => trivial) HO.out HB.out HB.out.size (by have := HN7.out; simp; omega) ?_; intro v1 w1 ho hb _ _; rw [HREP.out] at ho; replace HO := Zz.mk ho; replace HB := Zz.mk hb; clear ho hb)
      go_roundg d
      case measure => omega
      case rel => exact ⟨i + 1, ⟨fun h0 => by omega⟩, by omega, HO, HB⟩
    · by_cases h0 : c.length = 0
      · have e1 : decide (0 < c.length) = false := decide_eq_false (by omega)
        have hi0 := HZ.out h0
        subst hi0
        have HL := Zz.mk (show laidL b k c = b by simp [laidL, h0])
        have H0 := Zz.mk h0
        clear h0 hn7 hr hi
        go_wp2_with (with_reducible refine wpList_copy_nothing rfl (.tmp 30) (.tmp 31) 31 31 rfl 5 Try.underlying31 size5 _ _ _ _ _ _ rfl rfl (by rw [H0.out]; exact Nat.zero_min _) ?_)
        all_goals
          go_ret
          refine ⟨_, rfl, ?_, HB.out⟩
          rw [HL.out]
          have := HO.out
          rw [own_pad_zero] at this
          first | exact this | (have e := (by assumption : c7 = n7); rw [e] at this; exact this) | (have e := (by assumption : c7 = k); rw [e] at this; exact this)
      · have e1 : decide (0 < c.length) = true := decide_eq_true (by omega)
        have e2 : decide (n7 < k + c.length) = false := decide_eq_false (by omega)
        have hown := Kd.own_of_R HO.out
        rcases hown.2 with ⟨hv, hz⟩ | ⟨g, cap, cur, hv, hBg, hh, hnc, hcap, hsz, hx⟩
        · exfalso
          rw [List.length_append, List.length_replicate] at hz
          omega
        · injection hv with hA hN hC
          subst hA hC
          rw [List.length_append, List.length_replicate, ← hn7] at hnc hx
          rw [Nat.mul_one] at hsz hx
          have hkn : k < n7 := by omega
          have hcp : 0 < c.length := by omega
          have hkc : k < c7 := by omega
          have hge : k + c.length ≤ n7 := by omega
          have HG := Zz.mk hh
          have HX := Zz.mk hx
          have HS := Zz.mk hsz
          have HN := Zz.mk hn7
          have HI := Zz.mk hi
          have HR : Zz (k + c.length - b.length = i) := ⟨by have := HI.out; omega⟩
          clear hh hx hsz hn7 hi hr h0 hown hN
          go_wp2_with (with_reducible refine wpList_copy_splice rfl (.tmp 30) (.tmp 31) 31 31 rfl 5 Try.underlying31 size5 _ _ _ _ _ _ rfl rfl g k cur.toList 5 (by rw [Array.toArray_toList]; exact HG.out) (encs (Value.int .u8) c) (copy_n hge) (fun hp => ⟨rfl, copy_src HC2.out HB.out hp⟩) (copy_fit hge hnc HS.out) enc_one w.heap.size w HB.out hBg ?_; intro w9 h9 hb9)
          go_ret
          refine ⟨_, rfl, ?_, hb9⟩
          have e1 : laidL b k c = splice (b ++ List.replicate i 0) k c := by
            unfold laidL
            rw [if_neg (by omega), HR.out]
          rw [e1]
          exact own_spliced hBg hnc hcap HS.out HX.out (by rw [List.length_append, List.length_replicate]; exact HN.out.symm) hge h9
end Go.Proofs.Ytcpkoajnepijkaa
namespace Go.Proofs.Ytcpkoajnepijkaa
open Go.RowKit Go.Proofs.YtcpkoajnepijkaaL Go.Proofs.YtcpkoajnepijkaaW.PrintWords
structure Sized (st : FS) : Prop where
  sb : ∀ g ∈ st.live, (st.sb g).length ≤ 65536
  row : ∀ x ∈ st.row, x.at_ + x.b.length ≤ 65536
  rows : st.row.length ≤ 1000000
def layAll (b : List Int) (g : Nat) (row : List Wr) : List Int := row.foldl (fun b x => if x.tgt = g then laidL b x.at_ x.b else b) b
def allL (st : FS) (g : Nat) : List Int := layAll (st.sb g) g st.row
theorem layAll_snoc (b : List Int) (g : Nat) (row : List Wr) (x : Wr) : layAll b g (row ++ [x]) = if x.tgt = g then laidL (layAll b g row) x.at_ x.b else layAll b g row := by
  simp [layAll]
theorem layAll_le {b : List Int} {g : Nat} (hb : b.length ≤ 65536) : ∀ {row : List Wr}, (∀ x ∈ row, x.at_ + x.b.length ≤ 65536) → (layAll b g row).length ≤ 65536 := by
  intro row
  induction row generalizing b with
  | nil => intro _; exact hb
  | cons x row ih =>
    intro h
    have hx := h x (List.mem_cons_self ..)
    simp only [layAll, List.foldl_cons]
    refine ih ?_ (fun y hy => h y (List.mem_cons_of_mem _ hy))
    split
    · rw [laidL_length]
      split
      · exact hb
      · omega
    · exact hb
theorem info77 : ∃ j, Try.prog.info? 77 = some j ∧ j.size ≠ 0 := by
  have h : (Try.prog.info? 77).map (·.size) = some 2 := by kernel_rfl
  cases hj : Try.prog.info? 77 with
  | none => rw [hj] at h; cases h
  | some j => exact ⟨j, rfl, by rw [hj] at h; simp at h; omega⟩
theorem FRepX.rowCell {base : Nat} {Lz : Nat → Prop} {w wr : World} {F : Nat} {fp : Nat → Prop} {st : FS} {M : Nat} {rv : Value} {cells : List Value} (h : FRepX base Lz w F fp st M rv cells) (hb : Below w.heap.size w wr) {A : Option Addr} {n c : Nat} (hrv : rv = .slice A n c) {i : Nat} (hi : i < st.row.length) :
    ∃ R v, A = some ⟨R, 0, none⟩ ∧ wr.cell? ⟨R, i * 3, none⟩ = some (.pointer (some ⟨st.row[i].tgt, 0, none⟩)) ∧ wr.cell? ⟨R, i * 3 + 1, none⟩ = some (.int .i64 st.row[i].at_) ∧ wr.cell? ⟨R, i * 3 + 2, none⟩ = some v ∧ RB base Lz w v st.row[i].b := by
  obtain ⟨c0, c1, v, c2, hv⟩ := h.rowIs.get i hi
  have hlen := h.row.1
  rcases h.row.2 with ⟨_, hz⟩ | ⟨R, cap, cur, hrv', hB, hh, hnc, hcap, hs, hx⟩
  · omega
  · rw [hrv] at hrv'
    injection hrv' with hA _ _
    refine ⟨R, v, hA, ?_, ?_, ?_, hv⟩
    all_goals
      have hR : R < w.heap.size := (Array.getElem?_eq_some_iff.1 hh).1
      have hk : ∀ j u, cells[j]? = some u → wr.cell? ⟨R, j, none⟩ = some u := fun j u hu => by
        rw [hb.cell (p := ⟨R, j, none⟩) hR, cell_of_row w R j cur 80 (0, 0) hh, ← hu, ← hx]
        have hj : j < cells.length := (List.getElem?_eq_some_iff.1 hu).1
        rw [List.getElem?_take_of_lt (by omega), Array.getElem?_toList]
    · exact hk _ _ c0
    · exact hk _ _ c1
    · exact hk _ _ c2
set_option maxRecDepth 100000 in
set_option maxHeartbeats 1000000 in
theorem all_calls {base : Nat} {Lz : Nat → Prop} {w : World} {F : Nat} {fp : Nat → Prop} {st : FS} (h : FRep base Lz w F fp st) (hs : Sized st) {g : Nat} (hg : g ∈ st.live) :
    Calls Try.prog 39 #[.pointer (some ⟨F, 0, none⟩), .pointer (some ⟨g, 0, none⟩)] w fun e w' => ∃ v', e = .returned v' ∧ Own w' w.heap.size v' (allL st g) ∧ Below w.heap.size w w' := by
  obtain ⟨M, rv, cells, h⟩ := h
  obtain ⟨A, c, hrv, hc⟩ := own_slice h.row
  subst hrv
  obtain ⟨vs, hbg, hsb⟩ := h.ino g hg
  have c0 : w.cell? ⟨g, 0, none⟩ = some vs := hbg.cell 0 rfl
  have c1 := h.blk.cell 1 rfl
  have hF := h.blk.lt
  have H := Zz.mk h
  have HSB := Zz.mk hsb
  have HBG := Zz.mk hbg
  have hrows := hs.rows
  have HS := Zz.mk hs
  clear h hsb hbg hs
  obtain ⟨j, hj, hjs⟩ := info77
  have HJ := Zz.mk hj
  clear hj
  go_enter Try.func39, Try.ntmps39
  go_wp2_with (go_at_call 41; (with_reducible refine (clone_calls HSB.out (by have := HS.out.sb g hg; omega)).mono ?_); rintro e w1 ⟨v1, rfl, ho, hbl⟩; have HO := Zz.mk ho; have HB := Zz.mk hbl; have c1' := (hbl.cell (p := ⟨F, 1, none⟩) hF).trans c1; clear ho hbl)
  go_loopg [5, 18] st.row.length (fun kq v5 v18 w' => ∃ i : Nat, i + kq = st.row.length ∧ v18 = .int .i64 i ∧ Zz (Own w' w.heap.size v5 (layAll (st.sb g) g (st.row.take i))) ∧ Zz (Below w.heap.size w w'))
  case atStart => exact ⟨0, by omega, rfl, ⟨HO.out⟩, HB⟩
  case round =>
    obtain ⟨i, hi, rfl, HO, HB⟩ := hrel
    cases gk with
    | zero =>
      have e1 : decide (i < st.row.length) = false := decide_eq_false (by omega)
      have htk : Zz (layAll (st.sb g) g (st.row.take i) = allL st g) := ⟨by rw [List.take_of_length_le (by omega)]; rfl⟩
      clear hi
      go_wp2
      go_ret
      have := HO.out
      rw [htk.out] at this
      exact ⟨_, rfl, this, HB.out⟩
    | succ d =>
      have hlt : i < st.row.length := by omega
      have e1 : decide (i < st.row.length) = true := decide_eq_true hlt
      obtain ⟨R, vb, rfl, r0, r1, r2, hvb⟩ := H.out.rowCell HB.out rfl hlt
      obtain ⟨Ab, cb, rfl⟩ : ∃ Ab cb, vb = .slice Ab st.row[i].b.length cb := by obtain ⟨Ab, cb, e, _⟩ := hvb; exact ⟨Ab, cb, e⟩
      have HVB := Zz.mk hvb
      have htk : Zz (layAll (st.sb g) g (st.row.take (i + 1)) = if st.row[i].tgt = g then laidL (layAll (st.sb g) g (st.row.take i)) st.row[i].at_ st.row[i].b else layAll (st.sb g) g (st.row.take i)) := ⟨by rw [List.take_succ_eq_append_getElem hlt, layAll_snoc]⟩
      have HI := Zz.mk hi
      clear hvb hi
      by_cases ht : st.row[i].tgt = g
      · rw [ht] at r0
        have heq : ∀ W, (binOp .eql 71 (.pointer (some ⟨g, 0, none⟩)) (.pointer (some ⟨g, 0, none⟩))).run Try.prog W = .ok (.bool true) W := fun W => run_eql_ptr_same W _ Try.underlying71 HJ.out
        have HT := Zz.mk ht
        clear ht
        have hb1 : (layAll (st.sb g) g (st.row.take i)).length ≤ 65536 := layAll_le (HS.out.sb g hg) (fun y hy => HS.out.row y (List.mem_of_mem_take hy))
        have hb2 := HS.out.row _ (List.getElem_mem hlt)
        have XC := Zz.mk (fun o => laid_calls (base := base) (Lz := NoL) ((RB.of_R HO.out (fun _ _ h => h)).below (below_alloc (Below.refl wr.heap.size wr) o)) (HVB.out.noL.below (below_alloc HB.out o)) (k := st.row[i].at_) (by omega) (by omega) (by omega))
        clear hb1 hb2
        go_wp2_with fail
        go_at_call 42
        with_reducible refine (XC.out _).mono ?_
        rintro e w2 ⟨v2, rfl, ho, hbl⟩
        have HB2 := Zz.mk ((below_alloc HB.out _).trans (hbl.mono (below_alloc HB.out _).size))
        have HO2 := Zz.mk (Kd.R_lower ho (below_alloc HB.out _).size)
        clear ho hbl
        go_wp2
        go_roundg d
        case measure => omega
        case rel => exact ⟨i + 1, by have := HI.out; omega, by go_num, ⟨by rw [htk.out, if_pos HT.out]; exact HO2.out⟩, HB2⟩
      · have hlive : st.row[i].tgt ∈ st.live := H.out.rowLive _ (List.getElem_mem hlt)
        obtain ⟨vt, hbt, _⟩ := H.out.ino _ hlive
        have heq : ∀ o, (binOp .eql 71 (.pointer (some ⟨st.row[i].tgt, 0, none⟩)) (.pointer (some ⟨g, 0, none⟩))).run Try.prog (wr.alloc o) = .ok (.bool false) (wr.alloc o) := fun o =>
          run_eql_ptr_other _ Try.underlying71 HJ.out hjs (fun e => ht (congrArg Addr.block e)) (((below_alloc HB.out o).block _ hbt.lt).trans hbt) (((below_alloc HB.out o).block _ HBG.out.lt).trans HBG.out)
        have HT := Zz.mk ht
        have HBT := Zz.mk hbt
        clear ht hbt
        go_wp2
        go_roundg d
        case measure => omega
        case rel => exact ⟨i + 1, by have := HI.out; omega, by go_num, ⟨by rw [htk.out, if_neg HT.out]; exact Kd.R_alloc HO.out _⟩, ⟨below_alloc HB.out _⟩⟩
theorem zero71 : ∀ w, (zeroValue 71).run Try.prog w = .ok (.pointer none) w := fun _ => by kernel_rfl
abbrev ptr (g : Nat) : Value := .pointer (some ⟨g, 0, none⟩)
theorem fnd_map {β γ : Type} (f : β → γ) (s : ByteArray) : ∀ l : List (ByteArray × β), fnd s (l.map fun p => (p.1, f p.2)) = (fnd s l).map f
  | [] => rfl
  | p :: r => by
    by_cases h : p.1 = s
    · simp [fnd, h]
    · simp [fnd, h, fnd_map f s r]
theorem fnd_mem {β : Type} {s : ByteArray} {b : β} : ∀ {l : List (ByteArray × β)}, fnd s l = some b → (s, b) ∈ l
  | [], h => by cases h
  | p :: r, h => by
    by_cases hp : p.1 = s
    · simp only [fnd, hp, if_true, Option.some.injEq] at h
      subst h
      subst hp
      exact List.mem_cons_self ..
    · simp only [fnd, hp, if_false] at h
      exact List.mem_cons_of_mem _ (fnd_mem h)
theorem FRepX.look {base : Nat} {Lz : Nat → Prop} {w : World} {F : Nat} {fp : Nat → Prop} {st : FS} {M : Nat} {rv : Value} {cells : List Value} (h : FRepX base Lz w F fp st M rv cells) (s : ByteArray) :
    (fnd s st.files = none ∧ (Instr.lookup 64 (.map (some M)) (.string s) true).run Try.prog w = .ok (.tuple #[.pointer none, .bool false]) w) ∨
    ∃ g, fnd s st.files = some g ∧ g ∈ st.live ∧ (Instr.lookup 64 (.map (some M)) (.string s) true).run Try.prog w = .ok (.tuple #[ptr g, .bool true]) w := by
  have hl := h.map.look Try.underlying64 Try.underlying9 s zero71
  rw [fnd_map (fun g => ptr g)] at hl
  cases hf : fnd s st.files with
  | none => rw [hf] at hl; exact .inl ⟨rfl, hl⟩
  | some g => rw [hf] at hl; exact .inr ⟨g, rfl, h.filesLive _ (fnd_mem hf), hl⟩
def readL (st : FS) (s : ByteArray) : List Int × Int :=
  if st.down = true then ([], 100) else match fnd s st.files with | none => ([], 101) | some g => (allL st g, 0)
set_option maxRecDepth 100000 in
theorem read_calls {base : Nat} {Lz : Nat → Prop} {w : World} {F : Nat} {fp : Nat → Prop} {st : FS} (h : FRep base Lz w F fp st) (hs : Sized st) (s : ByteArray) :
    Calls Try.prog 18 #[ptr F, .string s] w fun e w' => ∃ v', e = .returned (.tuple #[v', .int .i64 (readL st s).2]) ∧ Own w' w.heap.size v' (readL st s).1 ∧ Below w.heap.size w w' := by
  have HR := Zz.mk h
  obtain ⟨M, rv, cells, h⟩ := h
  have c0 := h.blk.cell 0 rfl
  have c5 := h.blk.cell 5 rfl
  have hl := h.look s
  clear h
  cases hd : st.down with
  | true =>
    rw [hd] at c5
    have e1 : readL st s = ([], 100) := by simp [readL, hd]
    rw [e1]
    rcases hl with ⟨_, hl⟩ | ⟨g, _, _, hl⟩
    all_goals
      clear hd e1
      go_enter Try.func18, Try.ntmps18
      go_wp2
      go_ret2
      exact ⟨_, rfl, Kd.R_nil _ _ _ _ _, Below.refl _ _⟩
  | false =>
    rw [hd] at c5
    rcases hl with ⟨hf, hl⟩ | ⟨g, hf, hg, hl⟩
    · have e1 : readL st s = ([], 101) := by simp [readL, hd, hf]
      rw [e1]
      clear hd e1 hf
      go_enter Try.func18, Try.ntmps18
      go_wp2
      go_ret2
      exact ⟨_, rfl, Kd.R_nil _ _ _ _ _, Below.refl _ _⟩
    · have e1 : readL st s = (allL st g, 0) := by simp [readL, hd, hf]
      rw [e1]
      clear hd e1 hf
      go_enter Try.func18, Try.ntmps18
      go_wp2_with (go_at_call 39; (with_reducible refine (all_calls HR.out hs hg).mono ?_); rintro e w1 ⟨v1, rfl, ho, hb⟩)
      go_ret2
      exact ⟨_, rfl, ho, hb⟩
end Go.Proofs.Ytcpkoajnepijkaa

