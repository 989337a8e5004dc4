/- Copy: what is built. No conditions. -/
import Derived.Test.YtcpkoajnepijkaaFile13
namespace Go.Proofs.Ytcpkoajnepijkaa
set_option linter.unusedVariables false
set_option linter.unusedSimpArgs false
open Go.RowKit Go.Proofs.YtcpkoajnepijkaaL Go.Proofs.YtcpkoajnepijkaaW.PrintWords Go.MapKept

structure CopyRep (base : Nat) (Lz : Nat → Prop) (B : Nat) (w : World) (C Mc N X : Nat) (st : FS) (l : List (Nat × Nat)) (files : List (ByteArray × Nat)) (rvc rv : Value) (wrs : List Wr) (cells : List Value) : Prop where
  blk : Blk w C 67 #[.map (some Mc), rvc, .int .i64 st.ops, .int .i64 st.fuse, .int .i64 st.fault, .bool st.down]
  map : MapStr w Mc (files.map fun p => (p.1, ptr p.2))
  mp : MapPtr w N l
  x : Blk w X 74 #[.map (some N)]
  row : w.ownsRow B 80 3 rv wrs.length cells
  rowIs : RowIs base Lz w wrs cells
  inos : ∀ p ∈ l, B ≤ p.2 ∧ ∃ v, Blk w p.2 77 #[v, .int .i64 (st.sz p.1)] ∧ RB base Lz w v (st.sb p.1)
  nod : (l.map (·.2)).Nodup
  geC : B ≤ C
  geM : B ≤ Mc
  geN : B ≤ N
  geX : B ≤ X
  hB : base ≤ B
  hBw : B ≤ w.heap.size
  lzB : ∀ g, Lz g → g < B

section
variable {base : Nat} {Lz : Nat → Prop} {B : Nat} {w w' : World} {C Mc N X : Nat} {st : FS} {l : List (Nat × Nat)} {files : List (ByteArray × Nat)} {rvc rv : Value} {row : List Wr} {cells : List Value}
theorem CopyRep.only {G : Nat → Prop} (h : CopyRep base Lz B w C Mc N X st l files rvc rv row cells) (ho : Only G w w') (hG : Mut base w G) (h1 : ¬ G C) (h2 : ¬ G Mc) (h3 : ¬ G N) (h4 : ¬ G X) (h5 : ∀ k, rv.ownBlock = some k → ¬ G k) (h6 : ∀ p ∈ l, ¬ G p.2) :
    CopyRep base Lz B w' C Mc N X st l files rvc rv row cells := by
  have hk : ∀ k, k < w.heap.size → ¬ G k → w'.heap[k]? = w.heap[k]? := fun k hk hn => ho.block k hk hn
  refine ⟨h.blk.to (hk _ h.blk.lt h1), h.map.to (hk _ h.map.lt h2), h.mp.to (hk _ h.mp.lt h3), h.x.to (hk _ h.x.lt h4), row_only h.row ho h5, h.rowIs.imp (fun v xs hv => hv.only ho hG), fun p hp => ?_, h.nod, h.geC, h.geM, h.geN, h.geX, h.hB, Nat.le_trans h.hBw ho.size, h.lzB⟩
  obtain ⟨a, v, b, c⟩ := h.inos p hp
  exact ⟨a, v, b.to (hk _ b.lt (h6 p hp)), c.only ho hG⟩
theorem CopyRep.below (h : CopyRep base Lz B w C Mc N X st l files rvc rv row cells) (hb : Below w.heap.size w w') : CopyRep base Lz B w' C Mc N X st l files rvc rv row cells :=
  h.only (Only.of_below (F := fun _ => False) hb) (fun _ h => h.elim) (fun h => h) (fun h => h) (fun h => h) (fun h => h) (fun _ _ h => h) (fun _ _ h => h)

theorem mapPtr_ne_map {M M' : Nat} {l : List (Nat × Nat)} {g t : Nat} {cs : Array Value} (h : MapPtr w M l) (hb : Blk w g t cs) : g ≠ M := fun e => h.ne_blk hb e.symm
theorem mapPtr_not_T5 {M : Nat} {l : List (Nat × Nat)} (h : MapPtr w M l) : ¬ T5 w M := by
  rintro ⟨c5, fr, h5⟩
  obtain ⟨es, clock, hM, _⟩ := h
  rw [hM] at h5
  cases h5
theorem mapPtr_own {M : Nat} {l : List (Nat × Nat)} {b e size n : Nat} {v : Value} {xs : List Value} (h : MapPtr w M l) (ho : w.ownsRow b e size v n xs) : ∀ k, v.ownBlock = some k → k ≠ M := by
  obtain ⟨es, clock, hM, _⟩ := h
  intro k hk e
  exact own_map_ne ho hM (e ▸ hk)

/-- Behind a call of the closure. (Mc ≠ N is asked, as both are maps.) -/
theorem CopyRep.anew (h : CopyRep base Lz B w C Mc N X st l files rvc rv row cells) (hMN : Mc ≠ N) (ho : Only (· = N) w w') {g k : Nat} {l' : List (Nat × Nat)} (hm : MapPtr w' N l')
    (hl : l' = l ∨ (fndN g l = none ∧ l' = l ++ [(g, k)] ∧ w.heap.size ≤ k ∧ k < w'.heap.size ∧ ∃ v', Blk w' k 77 #[v', .int .i64 (st.sz g)] ∧ RB base Lz w' v' (st.sb g))) :
    CopyRep base Lz B w' C Mc N X st l' files rvc rv row cells := by
  have hG : Mut base w (· = N) := fun k hk => ⟨hk ▸ Nat.le_trans h.hB h.geN, hk ▸ mapPtr_not_T5 h.mp⟩
  have hk' : ∀ k, k < w.heap.size → k ≠ N → w'.heap[k]? = w.heap[k]? := fun k hk hn => ho.block k hk hn
  have hin : ∀ p ∈ l, B ≤ p.2 ∧ ∃ v, Blk w' p.2 77 #[v, .int .i64 (st.sz p.1)] ∧ RB base Lz w' v (st.sb p.1) := fun p hp => by
    obtain ⟨a, v, b, c⟩ := h.inos p hp
    exact ⟨a, v, b.to (hk' _ b.lt (fun e => h.mp.ne_blk b e.symm)), c.only ho hG⟩
  refine ⟨h.blk.to (hk' _ h.blk.lt (fun e => h.mp.ne_blk h.blk e.symm)), h.map.to (hk' _ h.map.lt hMN), hm, h.x.to (hk' _ h.x.lt (fun e => h.mp.ne_blk h.x e.symm)), row_only h.row ho (mapPtr_own h.mp h.row), h.rowIs.imp (fun v xs hv => hv.only ho hG), ?_, ?_, h.geC, h.geM, h.geN, h.geX, h.hB, Nat.le_trans h.hBw ho.size, h.lzB⟩
  · rcases hl with rfl | ⟨_, rfl, h1, h2, v', h3, h4⟩
    · exact hin
    · intro p hp
      rcases List.mem_append.1 hp with hp | hp
      · exact hin p hp
      · rw [List.mem_singleton.1 hp]
        exact ⟨Nat.le_trans h.hBw h1, v', h3, h4⟩
  · rcases hl with rfl | ⟨_, rfl, h1, h2, v', h3, h4⟩
    · exact h.nod
    · rw [List.map_append, List.nodup_append]
      refine ⟨h.nod, by simp, fun a ha b hb => ?_⟩
      obtain ⟨p, hp, rfl⟩ := List.mem_map.1 ha
      obtain ⟨_, v, hb', _⟩ := h.inos p hp
      have := hb'.lt
      simp at hb
      omega

/-- A name more. -/
theorem CopyRep.addFile (h : CopyRep base Lz B w C Mc N X st l files rvc rv row cells) (hMN : Mc ≠ N) (ho : w.grownBy w' (some Mc)) {files' : List (ByteArray × Nat)} (hm : MapStr w' Mc (files'.map fun p => (p.1, ptr p.2))) :
    CopyRep base Lz B w' C Mc N X st l files' rvc rv row cells := by
  have ho := grown_only ho
  have hG : Mut base w (· = Mc) := fun k hk => ⟨hk ▸ Nat.le_trans h.hB h.geM, hk ▸ T5_map h.map⟩
  have hk' : ∀ k, k < w.heap.size → k ≠ Mc → w'.heap[k]? = w.heap[k]? := fun k hk hn => ho.block k hk hn
  refine ⟨h.blk.to (hk' _ h.blk.lt (fun e => h.map.ne_blk h.blk e.symm)), hm, h.mp.to (hk' _ h.mp.lt (Ne.symm hMN)), h.x.to (hk' _ h.x.lt (fun e => h.map.ne_blk h.x e.symm)), row_only h.row ho (fun k hk e => h.map.ne_own h.row k hk e), h.rowIs.imp (fun v xs hv => hv.only ho hG), fun p hp => ?_, h.nod, h.geC, h.geM, h.geN, h.geX, h.hB, Nat.le_trans h.hBw ho.size, h.lzB⟩
  obtain ⟨a, v, b, c⟩ := h.inos p hp
  exact ⟨a, v, b.to (hk' _ b.lt (fun e => h.map.ne_blk b e.symm)), c.only ho hG⟩

/-- Another row. -/
theorem CopyRep.newRow (h : CopyRep base Lz B w C Mc N X st l files rvc rv row cells) (ho : Only (fun k => k = C ∨ rv.ownBlock = some k) w w') {rv' : Value} {row' : List Wr} {cells' : List Value}
    (hb : Blk w' C 67 #[.map (some Mc), rv', .int .i64 st.ops, .int .i64 st.fuse, .int .i64 st.fault, .bool st.down]) (hr : w'.ownsRow B 80 3 rv' row'.length cells') (hri : RowIs base Lz w' row' cells') :
    CopyRep base Lz B w' C Mc N X st l files rv' rv' row' cells' := by
  have hG : Mut base w (fun k => k = C ∨ rv.ownBlock = some k) := fun k hk => by
    rcases hk with rfl | hk
    · exact ⟨Nat.le_trans h.hB h.geC, T5_blk h.blk (by decide)⟩
    · refine ⟨Nat.le_trans h.hB (own_base h.row k hk), ?_⟩
      rintro ⟨c5, fr, h5⟩
      obtain ⟨cs', hh'⟩ := own_typed h.row k hk
      rw [hh'] at h5
      injection h5 with h5
      injection h5 with _ h5
      exact absurd h5 (by decide)
  have hk' : ∀ k, k < w.heap.size → k ≠ C → rv.ownBlock ≠ some k → w'.heap[k]? = w.heap[k]? := fun k hk h1 h2 => ho.block k hk (fun e => by
    rcases e with e | e
    · exact h1 e
    · exact h2 e)
  refine ⟨hb, h.map.to (hk' _ h.map.lt (h.map.ne_blk h.blk) (fun e => h.map.ne_own h.row _ e rfl)), h.mp.to (hk' _ h.mp.lt (h.mp.ne_blk h.blk) (fun e => mapPtr_own h.mp h.row _ e rfl)), h.x.to (hk' _ h.x.lt (h.x.ne_ h.blk (by decide)) (own_blk_ne h.row h.x (by decide))), hr, hri, fun p hp => ?_, h.nod, h.geC, h.geM, h.geN, h.geX, h.hB, Nat.le_trans h.hBw ho.size, h.lzB⟩
  obtain ⟨a, v, b, c⟩ := h.inos p hp
  exact ⟨a, v, b.to (hk' _ b.lt (b.ne_ h.blk (by decide)) (own_blk_ne h.row b (by decide))), c.only ho hG⟩
end

/-- The inode's number there. -/
def rho (l : List (Nat × Nat)) (g : Nat) : Nat := (fndN g l).getD 0
def rhoW (l : List (Nat × Nat)) (x : Wr) : Wr := { x with tgt := rho l x.tgt }
theorem fndN_mem {g k : Nat} : ∀ {l : List (Nat × Nat)}, fndN g l = some k → (g, k) ∈ l
  | [], h => by cases h
  | p :: l, h => by
    by_cases hp : g = p.1
    · rw [fndN, if_pos hp] at h
      injection h with h
      rw [hp, ← h]
      exact List.mem_cons_self
    · rw [fndN, if_neg hp] at h
      exact List.mem_cons_of_mem _ (fndN_mem h)
theorem fndN_keep {g k : Nat} {r : List (Nat × Nat)} : ∀ {l : List (Nat × Nat)}, fndN g l = some k → fndN g (l ++ r) = some k
  | [], h => by cases h
  | p :: l, h => by
    by_cases hp : g = p.1
    · rw [fndN, if_pos hp] at h
      rw [List.cons_append, fndN, if_pos hp]
      exact h
    · rw [fndN, if_neg hp] at h
      rw [List.cons_append, fndN, if_neg hp]
      exact fndN_keep h
/-- The state there: what lies at a number is what lay at the one that it stands for. -/
def back (l : List (Nat × Nat)) (k : Nat) : Option Nat := (l.find? fun p => p.2 == k).map (·.1)
theorem back_of {l : List (Nat × Nat)} (hn : (l.map (·.2)).Nodup) {p : Nat × Nat} (hp : p ∈ l) : back l p.2 = some p.1 := by
  induction l with
  | nil => cases hp
  | cons q l ih =>
    rw [List.map_cons, List.nodup_cons] at hn
    unfold back
    rw [List.find?_cons]
    rcases List.mem_cons.1 hp with rfl | hp
    · simp
    · have hne : q.2 ≠ p.2 := fun e => hn.1 (e ▸ List.mem_map.2 ⟨p, hp, rfl⟩)
      have : (q.2 == p.2) = false := by simpa using hne
      rw [this]
      exact ih hn.2 hp

/-- A copy of a state: under other numbers. -/
def Copied (st st' : FS) : Prop :=
  ∃ f : Nat → Nat, (∀ s, fnd s st'.files = (fnd s st.files).map f) ∧ st'.files.length = st.files.length ∧ st'.row = st.row.map (fun x => { x with tgt := f x.tgt }) ∧
    (∀ g g', ((∃ s, fnd s st.files = some g) ∨ ∃ x ∈ st.row, x.tgt = g) → ((∃ s, fnd s st.files = some g') ∨ ∃ x ∈ st.row, x.tgt = g') → f g = f g' → g = g') ∧
    (∀ g, ((∃ s, fnd s st.files = some g) ∨ ∃ x ∈ st.row, x.tgt = g) → st'.sb (f g) = st.sb g ∧ st'.sz (f g) = st.sz g) ∧
    (∀ g, st'.sb g = [] ∨ ∃ g0, st'.sb g = st.sb g0) ∧ (∀ g, st'.sz g = 0 ∨ ∃ g0, st'.sz g = st.sz g0) ∧ st'.ops = st.ops ∧ st'.fuse = st.fuse ∧ st'.fault = st.fault ∧ st'.down = st.down
end Go.Proofs.Ytcpkoajnepijkaa
