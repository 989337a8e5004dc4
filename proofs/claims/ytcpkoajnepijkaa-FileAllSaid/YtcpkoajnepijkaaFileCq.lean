/- Parts of the proof of the law that the last file states; declarations that nothing mentions are left out by a program. No conditions. -/
import Derived.Test.YtcpkoajnepijkaaFile11q
set_option linter.unusedVariables false
set_option linter.unusedSimpArgs false
namespace Go.Proofs.Ytcpkoajnepijkaa
open Go.RowKit Go.Proofs.YtcpkoajnepijkaaL Go.Proofs.YtcpkoajnepijkaaW.PrintWords Go.MapKept
def fndN (g : Nat) : List (Nat × Nat) → Option Nat
  | [] => none
  | p :: r => if g = p.1 then some p.2 else fndN g r
def MapPtr (w : World) (M : Nat) (l : List (Nat × Nat)) : Prop :=
  ∃ es clock, w.heap[M]? = some (.map es clock) ∧ es.toList.map (fun e => (e.key, e.val)) = l.map (fun p => (ptr p.1, ptr p.2))
theorem run_equal_ptr {w : World} {a b : Nat} (ha : IsC w a) (hb : IsC w b) : (Op.equal 71 (ptr a) (ptr b)).run Try.prog w = .ok (decide (a = b)) w := by
  obtain ⟨j, hj, hjs⟩ := info77
  obtain ⟨ca, ta, ha⟩ := ha
  obtain ⟨cb, tb, hb⟩ := hb
  by_cases h : a = b
  · subst h
    have h : ∀ d : Nat, (Op.equalIn (d + 1) 71 (ptr a) (ptr a)).run Try.prog w = .ok true w := fun d => by
      simp [Op.equalIn, run_underlying Try.underlying71, sizeOf, typeInfo, hj, run_sameAddr_same]
    simp [Op.equal, Op.maxDepth, h 9999]
  · have hne : (⟨a, 0, none⟩ : Addr) ≠ ⟨b, 0, none⟩ := fun e => h (congrArg Addr.block e)
    have h' : ∀ d : Nat, (Op.equalIn (d + 1) 71 (ptr a) (ptr b)).run Try.prog w = .ok false w := fun d => by
      simp [Op.equalIn, run_underlying Try.underlying71, sizeOf, typeInfo, hj, hjs, run_sameAddr_other w hne ha hb]
    simp [Op.equal, Op.maxDepth, h' 9999, h]
theorem run_asking {w : World} {g : Nat} (hg : IsC w g) : ∀ (es : List MapEntry) (l : List (Nat × Nat)) (i : Nat), es.map (fun e => (e.key, e.val)) = l.map (fun p => (ptr p.1, ptr p.2)) → (∀ p ∈ l, IsC w p.1) →
    ∃ r, (Instr.findAsking 71 (ptr g) es i).run Try.prog w = .ok r w ∧ r.map (·.2) = (fndN g l).map ptr
  | [], [], i, _, _ => ⟨none, by simp [Instr.findAsking], rfl⟩
  | [], _ :: _, i, h, _ => by simp at h
  | _ :: _, [], i, h, _ => by simp at h
  | e :: es, p :: l, i, h, hc => by
    simp only [List.map_cons, List.cons.injEq, Prod.mk.injEq] at h
    obtain ⟨⟨h1, h2⟩, h3⟩ := h
    have hq := run_equal_ptr hg (hc p List.mem_cons_self)
    obtain ⟨r, hr, hr2⟩ := run_asking hg es l (i + 1) h3 (fun q hq => hc q (List.mem_cons_of_mem _ hq))
    by_cases hp : g = p.1
    · refine ⟨some (i, e.val), ?_, ?_⟩
      · rw [decide_eq_true hp] at hq
        simp [Instr.findAsking, h1, hq]
      · simp [fndN, hp, h2]
    · refine ⟨r, ?_, ?_⟩
      · rw [decide_eq_false hp] at hq
        simp [Instr.findAsking, h1, hq, hr]
      · rw [hr2, fndN, if_neg hp]
theorem run_findKey_ptr {w : World} {g : Nat} (hg : IsC w g) {es : List MapEntry} {l : List (Nat × Nat)} (h : es.map (fun e => (e.key, e.val)) = l.map (fun p => (ptr p.1, ptr p.2))) (hc : ∀ p ∈ l, IsC w p.1) :
    ∃ r, (Instr.findKey 71 (ptr g) es).run Try.prog w = .ok r w ∧ r.map (·.2) = (fndN g l).map ptr := by
  cases es with
  | nil =>
    have : l = [] := by simpa using h.symm
    subst this
    exact ⟨none, by simp [Instr.findKey, run_underlying Try.underlying71, Instr.findNow], rfl⟩
  | cons e es =>
    obtain ⟨r, hr, hr2⟩ := run_asking hg (e :: es) l 0 h hc
    refine ⟨r, ?_, hr2⟩
    simp [Instr.findKey, run_underlying Try.underlying71, Instr.findNow, Instr.sameNow, hr]
theorem run_checkKey_ptr (w : World) (b : Bool) (v : Value) : (Instr.checkKey b 10000 71 v).run Try.prog w = .ok () w := by
  have : ∀ n, (Instr.checkKey b (n + 1) 71 v).run Try.prog w = .ok () w := fun n => by
    simp [Instr.checkKey, run_underlying Try.underlying71]
  exact this 9999
theorem MapPtr.look {w : World} {M : Nat} {l : List (Nat × Nat)} (h : MapPtr w M l) (hc : ∀ p ∈ l, IsC w p.1) {g : Nat} (hg : IsC w g) :
    (Instr.lookup 74 (.map (some M)) (ptr g) false).run Try.prog w = .ok ((fndN g l).elim (.pointer none) ptr) w := by
  obtain ⟨es, clock, hM, hl⟩ := h
  obtain ⟨r, hr, hr2⟩ := run_findKey_ptr hg hl hc
  simp only [Instr.lookup]
  cases r with
  | none =>
    have : fndN g l = none := by simpa using hr2.symm
    simp [run_underlying Try.underlying74, MapKept.run_getObj_map hM, run_checkKey_ptr, hr, zero71, this]
  | some p =>
    cases hf : fndN g l with
    | none => rw [hf] at hr2; cases hr2
    | some k =>
      rw [hf] at hr2
      simp only [Option.map_some, Option.some.injEq] at hr2
      simp [run_underlying Try.underlying74, MapKept.run_getObj_map hM, run_checkKey_ptr, hr, hr2]
theorem MapPtr.add {w : World} {M : Nat} {l : List (Nat × Nat)} (h : MapPtr w M l) (hc : ∀ p ∈ l, IsC w p.1) {g : Nat} (hg : IsC w g) (hn : fndN g l = none) (k : Nat) :
    ∃ w', (Instr.mapUpdate 74 (.map (some M)) (ptr g) (ptr k)).run Try.prog w = .ok () w' ∧ MapPtr w' M (l ++ [(g, k)]) ∧ w.grownBy w' (some M) := by
  obtain ⟨es, clock, hM, hl⟩ := h
  obtain ⟨r, hr, hr2⟩ := run_findKey_ptr hg hl hc
  rw [hn] at hr2
  cases r with
  | some p => cases hr2
  | none =>
    refine ⟨{ w with heap := w.heap.setIfInBounds M (.map (es.push { key := ptr g, val := ptr k, born := clock }) (clock + 1)) }, by simp [Instr.mapUpdate, run_underlying Try.underlying74, MapKept.run_getObj_map hM, run_checkKey_ptr, hr, MapKept.run_setObj_map _ hM, Result.andThen], ⟨_, _, (heap_set hM).1, ?_⟩, ⟨rfl, rfl, rfl, by simp, fun i _ hi => (heap_set hM).2 i (fun e => hi (by rw [e]))⟩⟩
    simp [hl]
end Go.Proofs.Ytcpkoajnepijkaa
namespace Go.Proofs.Ytcpkoajnepijkaa
open Go.RowKit Go.Proofs.YtcpkoajnepijkaaL Go.Proofs.YtcpkoajnepijkaaW.PrintWords Go.MapKept
theorem MapPtr.to {w w' : World} {M : Nat} {l : List (Nat × Nat)} (h : MapPtr w M l) (he : w'.heap[M]? = w.heap[M]?) : MapPtr w' M l := by
  obtain ⟨es, clock, h, hs⟩ := h
  exact ⟨es, clock, he.trans h, hs⟩
theorem MapPtr.lt {w : World} {M : Nat} {l : List (Nat × Nat)} (h : MapPtr w M l) : M < w.heap.size := by
  obtain ⟨es, clock, h, _⟩ := h
  exact (Array.getElem?_eq_some_iff.1 h).1
theorem MapPtr.ne_blk {w : World} {M g t : Nat} {cs : Array Value} {l : List (Nat × Nat)} (h : MapPtr w M l) (hb : Blk w g t cs) : M ≠ g := by
  obtain ⟨es, clock, h, _⟩ := h
  intro e
  subst e
  rw [Blk, h] at hb
  cases hb
theorem fndN_snoc {g k : Nat} : ∀ {l : List (Nat × Nat)}, fndN g l = none → fndN g (l ++ [(g, k)]) = some k
  | [], _ => by simp [fndN]
  | p :: l, h => by
    by_cases hp : g = p.1
    · simp [fndN, hp] at h
    · rw [fndN, if_neg hp] at h
      rw [List.cons_append, fndN, if_neg hp]
      exact fndN_snoc h
set_option maxRecDepth 100000 in
set_option maxHeartbeats 4000000 in
theorem anew_calls {base : Nat} {Lz : Nat → Prop} {w : World} {X N g : Nat} {tX : Nat} {cX : Array Value} {l : List (Nat × Nat)} {v : Value} {sz : Nat} {b : List Int} (hXb : Blk w X tX cX) (hX0 : cX[0]? = some (.map (some N))) (hN : MapPtr w N l) (hc : ∀ p ∈ l, IsC w p.1)
    (hg : Blk w g 77 #[v, .int .i64 sz]) (hb : RB base Lz w v b) (hl : b.length ≤ 1000000000) (hbN : base ≤ N) (hlz : ∀ k, Lz k → k < w.heap.size) :
    Calls Try.prog 40 #[ptr g, ptr X] w fun e w' => ∃ k l', e = .returned (ptr k) ∧ MapPtr w' N l' ∧ fndN g l' = some k ∧
      (l' = l ∨ (fndN g l = none ∧ l' = l ++ [(g, k)] ∧ w.heap.size ≤ k ∧ k < w'.heap.size ∧ ∃ v', Blk w' k 77 #[v', .int .i64 sz] ∧ RB base Lz w' v' b)) ∧ Only (· = N) w w' := by
  have HLZ := Zz.mk hlz
  clear hlz
  have hgc : IsC w g := ⟨_, _, hg⟩
  have x0 : w.cell? ⟨X, 0, none⟩ = some (.map (some N)) := hXb.cell 0 hX0
  cases hf : fndN g l with
  | some k =>
    have hlk := hN.look hc hgc
    rw [hf] at hlk
    simp only [Option.elim] at hlk
    have HF := Zz.mk hf
    have HN := Zz.mk hN
    clear hf hN hb hg hXb
    go_enter Try.func40, Try.ntmps40
    go_wp2
    go_ret
    exact ⟨k, l, rfl, HN.out, HF.out, .inl rfl, Only.refl _ _⟩
  | none =>
    have hlk := hN.look hc hgc
    rw [hf] at hlk
    simp only [Option.elim] at hlk
    obtain ⟨A, c, rfl⟩ : ∃ A c, v = .slice A b.length c := by obtain ⟨A, c, e, _⟩ := hb; exact ⟨A, c, e⟩
    have g0 : w.cell? ⟨g, 0, none⟩ = some (.slice A b.length c) := hg.cell 0 rfl
    have g1 : w.cell? ⟨g, 1, none⟩ = some (.int .i64 sz) := hg.cell 1 rfl
    have hXN := hN.ne_blk hXb
    have hgN := hN.ne_blk hg
    have hXl := hXb.lt
    have hgl := hg.lt
    have hNl := hN.lt
    have HG := Zz.mk hg
    have HXB := Zz.mk hXb
    have HN := Zz.mk hN
    have HC := Zz.mk hc
    have HGC := Zz.mk hgc
    have HF := Zz.mk hf
    have HB := Zz.mk hb
    have HX0 := Zz.mk hX0
    have HXN := Zz.mk hXN
    have HGN := Zz.mk hgN
    clear hf hN hb hg hXb hc hgc hX0 hXN hgN
    go_enter Try.func40, Try.ntmps40
    go_wp2_with fail
    go_region_held3 (fun w' => w'.cell? ⟨X, 0, none⟩ = some (.map (some N)) ∧ w'.cell? ⟨g, 0, none⟩ = some (.slice A b.length c) ∧ w'.cell? ⟨g, 1, none⟩ = some (.int .i64 sz))
      (first
        | go_keep
        | (refine ⟨?_, ?_, ?_⟩ <;> assumption))
      (first
        | (go_at_call 41; refine (clone_calls (base := base) (Lz := Lz) (HB.out.below (below_drew (Below.refl _ _))) hl).mono ?_; rintro e w6 ⟨v6, rfl, ho6, hb6⟩; obtain ⟨A6, n6, c6, rfl, hn6⟩ := own_form ho6
           have x6 := (hb6.cell (p := ⟨X, 0, none⟩) hXl).trans x0
           have g06 := (hb6.cell (p := ⟨g, 0, none⟩) hgl).trans g0
           have g16 := (hb6.cell (p := ⟨g, 1, none⟩) hgl).trans g1
           have hb6' : Below w.heap.size w w6 := ⟨hb6.os, hb6.tape, hb6.output, hb6.size, hb6.block⟩
           have hba : Below w.heap.size w (w6.alloc (.cells #[.slice A6 n6 c6, .int .i64 sz] 77)) := below_alloc hb6' _
           obtain ⟨w7, hup, hm7, hg7⟩ := (HN.out.to (hba.block _ hNl)).add (fun p hp => (HC.out p hp).to (hba.block _ (HC.out p hp).lt)) (HGC.out.to (hba.block _ hgl)) HF.out w6.heap.size
           have hX7 := (HXB.out.to (hba.block _ hXl)).to (hg7.block X (by simp; have := hb6'.size; omega) (fun e => HXN.out (Option.some.inj e).symm))
           have hG7 := (HG.out.to (hba.block _ hgl)).to (hg7.block g (by simp; have := hb6'.size; omega) (fun e => HGN.out (Option.some.inj e).symm))
           have x7 : w7.cell? ⟨X, 0, none⟩ = some (.map (some N)) := hX7.cell 0 HX0.out
           have g07 := hG7.cell 0 (v := .slice A b.length c) rfl
           have g17 := hG7.cell 1 (v := .int .i64 sz) rfl
           have hlk7 := hm7.look (fun p hp => by
             rcases List.mem_append.1 hp with hp | hp
             · have h1 := (HC.out p hp).to (hba.block _ (HC.out p hp).lt)
               obtain ⟨cs, t, h2⟩ := h1
               exact ⟨cs, t, (hg7.block p.1 (by simp; have := hb6'.size; have := (HC.out p hp).lt; omega) (fun e => ((HN.out.to (hba.block _ hNl)).ne_blk h2) (Option.some.inj e).symm)).trans h2⟩
             · rw [List.mem_singleton.1 hp]
               exact ⟨_, _, hG7⟩) (⟨_, _, hG7⟩ : IsC w7 g)
           rw [fndN_snoc HF.out] at hlk7
           simp only [Option.elim] at hlk7
           have HM7 := Zz.mk hm7
           have HG7 := Zz.mk hg7
           have HO6 := Zz.mk ho6
           have HBA := Zz.mk hba
           have HB6 := Zz.mk hb6'
           clear hb6 hb6' hm7 hg7 ho6 hba hX7 hG7 hn6))
    go_wp2
    go_ret
    have hgo : Only (· = N) (w6.alloc (.cells #[.slice A6 n6 c6, .int .i64 sz] 77)) w7 := grown_only HG7.out
    have hNl7 : MapPtr (w6.alloc (.cells #[.slice A6 n6 c6, .int .i64 sz] 77)) N l := HN.out.to (HBA.out.block _ hNl)
    have hk7 : Blk w7 w6.heap.size 77 #[.slice A6 n6 c6, .int .i64 sz] := (Blk.new w6 77 #[.slice A6 n6 c6, .int .i64 sz]).to (HG7.out.block w6.heap.size (by simp) (fun e => by have := Option.some.inj e; have := HB6.out.size; omega))
    have hs7 := HG7.out.size
    refine ⟨w6.heap.size, l ++ [(g, w6.heap.size)], rfl, HM7.out, fndN_snoc HF.out, .inr ⟨(by first | exact HF.out | trivial), rfl, HB6.out.size, by simp at hs7; omega, ⟨_, hk7, ?_⟩⟩, (Only.of_below (F := (· = N)) HBA.out).trans hgo (fun _ _ h => h)⟩
    refine ((RB.of_R (base := base) (Lz := Lz) HO6.out (fun k hk hz => by have := HLZ.out k hz; simp at hk; omega)).below (below_alloc (Below.refl _ _) _)).only hgo (fun k hk => ⟨hk ▸ hbN, fun h5 => ?_⟩)
    rw [hk] at h5
    obtain ⟨c5, fr, h5⟩ := h5
    obtain ⟨es, clock, hM, _⟩ := hNl7
    rw [hM] at h5
    cases h5
end Go.Proofs.Ytcpkoajnepijkaa
namespace Go.Proofs.Ytcpkoajnepijkaa
open Go.RowKit Go.Proofs.YtcpkoajnepijkaaL Go.Proofs.YtcpkoajnepijkaaW.PrintWords Go.MapKept
structure CopyRep (base : Nat) (Lz : Nat → Prop) (B : Nat) (w : World) (C Mc N X : Nat) (st : FS) (l : List (Nat × Nat)) (files : List (ByteArray × Nat)) (rvc rv : Value) (wrs : List Wr) (cells : List Value) : Prop where
  blk : Blk w C 67 #[.map (some Mc), rvc, .int .i64 st.ops, .int .i64 st.fuse, .int .i64 st.fault, .bool st.down]
  map : MapStr w Mc (files.map fun p => (p.1, ptr p.2))
  mp : MapPtr w N l
  x : Blk w X 74 #[.map (some N)]
  row : w.ownsRow B 80 3 rv wrs.length cells
  rowIs : RowIs base Lz w wrs cells
  inos : ∀ p ∈ l, B ≤ p.2 ∧ ∃ v, Blk w p.2 77 #[v, .int .i64 (st.sz p.1)] ∧ RB base Lz w v (st.sb p.1)
  nod : (l.map (·.2)).Nodup
  geC : B ≤ C
  geM : B ≤ Mc
  geN : B ≤ N
  geX : B ≤ X
  hB : base ≤ B
  hBw : B ≤ w.heap.size
  lzB : ∀ g, Lz g → g < B
section
variable {base : Nat} {Lz : Nat → Prop} {B : Nat} {w w' : World} {C Mc N X : Nat} {st : FS} {l : List (Nat × Nat)} {files : List (ByteArray × Nat)} {rvc rv : Value} {row : List Wr} {cells : List Value}
theorem CopyRep.only {G : Nat → Prop} (h : CopyRep base Lz B w C Mc N X st l files rvc rv row cells) (ho : Only G w w') (hG : Mut base w G) (h1 : ¬ G C) (h2 : ¬ G Mc) (h3 : ¬ G N) (h4 : ¬ G X) (h5 : ∀ k, rv.ownBlock = some k → ¬ G k) (h6 : ∀ p ∈ l, ¬ G p.2) :
    CopyRep base Lz B w' C Mc N X st l files rvc rv row cells := by
  have hk : ∀ k, k < w.heap.size → ¬ G k → w'.heap[k]? = w.heap[k]? := fun k hk hn => ho.block k hk hn
  refine ⟨h.blk.to (hk _ h.blk.lt h1), h.map.to (hk _ h.map.lt h2), h.mp.to (hk _ h.mp.lt h3), h.x.to (hk _ h.x.lt h4), row_only h.row ho h5, h.rowIs.imp (fun v xs hv => hv.only ho hG), fun p hp => ?_, h.nod, h.geC, h.geM, h.geN, h.geX, h.hB, Nat.le_trans h.hBw ho.size, h.lzB⟩
  obtain ⟨a, v, b, c⟩ := h.inos p hp
  exact ⟨a, v, b.to (hk _ b.lt (h6 p hp)), c.only ho hG⟩
theorem CopyRep.below (h : CopyRep base Lz B w C Mc N X st l files rvc rv row cells) (hb : Below w.heap.size w w') : CopyRep base Lz B w' C Mc N X st l files rvc rv row cells :=
  h.only (Only.of_below (F := fun _ => False) hb) (fun _ h => h.elim) (fun h => h) (fun h => h) (fun h => h) (fun h => h) (fun _ _ h => h) (fun _ _ h => h)
theorem mapPtr_not_T5 {M : Nat} {l : List (Nat × Nat)} (h : MapPtr w M l) : ¬ T5 w M := by
  rintro ⟨c5, fr, h5⟩
  obtain ⟨es, clock, hM, _⟩ := h
  rw [hM] at h5
  cases h5
theorem mapPtr_own {M : Nat} {l : List (Nat × Nat)} {b e size n : Nat} {v : Value} {xs : List Value} (h : MapPtr w M l) (ho : w.ownsRow b e size v n xs) : ∀ k, v.ownBlock = some k → k ≠ M := by
  obtain ⟨es, clock, hM, _⟩ := h
  intro k hk e
  exact own_map_ne ho hM (e ▸ hk)
theorem CopyRep.anew (h : CopyRep base Lz B w C Mc N X st l files rvc rv row cells) (hMN : Mc ≠ N) (ho : Only (· = N) w w') {g k : Nat} {l' : List (Nat × Nat)} (hm : MapPtr w' N l')
    (hl : l' = l ∨ (fndN g l = none ∧ l' = l ++ [(g, k)] ∧ w.heap.size ≤ k ∧ k < w'.heap.size ∧ ∃ v', Blk w' k 77 #[v', .int .i64 (st.sz g)] ∧ RB base Lz w' v' (st.sb g))) :
    CopyRep base Lz B w' C Mc N X st l' files rvc rv row cells := by
  have hG : Mut base w (· = N) := fun k hk => ⟨hk ▸ Nat.le_trans h.hB h.geN, hk ▸ mapPtr_not_T5 h.mp⟩
  have hk' : ∀ k, k < w.heap.size → k ≠ N → w'.heap[k]? = w.heap[k]? := fun k hk hn => ho.block k hk hn
  have hin : ∀ p ∈ l, B ≤ p.2 ∧ ∃ v, Blk w' p.2 77 #[v, .int .i64 (st.sz p.1)] ∧ RB base Lz w' v (st.sb p.1) := fun p hp => by
    obtain ⟨a, v, b, c⟩ := h.inos p hp
    exact ⟨a, v, b.to (hk' _ b.lt (fun e => h.mp.ne_blk b e.symm)), c.only ho hG⟩
  refine ⟨h.blk.to (hk' _ h.blk.lt (fun e => h.mp.ne_blk h.blk e.symm)), h.map.to (hk' _ h.map.lt hMN), hm, h.x.to (hk' _ h.x.lt (fun e => h.mp.ne_blk h.x e.symm)), row_only h.row ho (mapPtr_own h.mp h.row), h.rowIs.imp (fun v xs hv => hv.only ho hG), ?_, ?_, h.geC, h.geM, h.geN, h.geX, h.hB, Nat.le_trans h.hBw ho.size, h.lzB⟩
  · rcases hl with rfl | ⟨_, rfl, h1, h2, v', h3, h4⟩
    · exact hin
    · intro p hp
      rcases List.mem_append.1 hp with hp | hp
      · exact hin p hp
      · rw [List.mem_singleton.1 hp]
        exact ⟨Nat.le_trans h.hBw h1, v', h3, h4⟩
  · rcases hl with rfl | ⟨_, rfl, h1, h2, v', h3, h4⟩
    · exact h.nod
    · rw [List.map_append, List.nodup_append]
      refine ⟨h.nod, by simp, fun a ha b hb => ?_⟩
      obtain ⟨p, hp, rfl⟩ := List.mem_map.1 ha
      obtain ⟨_, v, hb', _⟩ := h.inos p hp
      have := hb'.lt
      simp at hb
      omega
theorem CopyRep.addFile (h : CopyRep base Lz B w C Mc N X st l files rvc rv row cells) (hMN : Mc ≠ N) (ho : w.grownBy w' (some Mc)) {files' : List (ByteArray × Nat)} (hm : MapStr w' Mc (files'.map fun p => (p.1, ptr p.2))) :
    CopyRep base Lz B w' C Mc N X st l files' rvc rv row cells := by
  have ho := grown_only ho
  have hG : Mut base w (· = Mc) := fun k hk => ⟨hk ▸ Nat.le_trans h.hB h.geM, hk ▸ T5_map h.map⟩
  have hk' : ∀ k, k < w.heap.size → k ≠ Mc → w'.heap[k]? = w.heap[k]? := fun k hk hn => ho.block k hk hn
  refine ⟨h.blk.to (hk' _ h.blk.lt (fun e => h.map.ne_blk h.blk e.symm)), hm, h.mp.to (hk' _ h.mp.lt (Ne.symm hMN)), h.x.to (hk' _ h.x.lt (fun e => h.map.ne_blk h.x e.symm)), row_only h.row ho (fun k hk e => h.map.ne_own h.row k hk e), h.rowIs.imp (fun v xs hv => hv.only ho hG), fun p hp => ?_, h.nod, h.geC, h.geM, h.geN, h.geX, h.hB, Nat.le_trans h.hBw ho.size, h.lzB⟩
  obtain ⟨a, v, b, c⟩ := h.inos p hp
  exact ⟨a, v, b.to (hk' _ b.lt (fun e => h.map.ne_blk b e.symm)), c.only ho hG⟩
theorem CopyRep.newRow (h : CopyRep base Lz B w C Mc N X st l files rvc rv row cells) (ho : Only (fun k => k = C ∨ rv.ownBlock = some k) w w') {rv' : Value} {row' : List Wr} {cells' : List Value}
    (hb : Blk w' C 67 #[.map (some Mc), rv', .int .i64 st.ops, .int .i64 st.fuse, .int .i64 st.fault, .bool st.down]) (hr : w'.ownsRow B 80 3 rv' row'.length cells') (hri : RowIs base Lz w' row' cells') :
    CopyRep base Lz B w' C Mc N X st l files rv' rv' row' cells' := by
  have hG : Mut base w (fun k => k = C ∨ rv.ownBlock = some k) := fun k hk => by
    rcases hk with rfl | hk
    · exact ⟨Nat.le_trans h.hB h.geC, T5_blk h.blk (by decide)⟩
    · refine ⟨Nat.le_trans h.hB (own_base h.row k hk), ?_⟩
      rintro ⟨c5, fr, h5⟩
      obtain ⟨cs', hh'⟩ := own_typed h.row k hk
      rw [hh'] at h5
      injection h5 with h5
      injection h5 with _ h5
      exact absurd h5 (by decide)
  have hk' : ∀ k, k < w.heap.size → k ≠ C → rv.ownBlock ≠ some k → w'.heap[k]? = w.heap[k]? := fun k hk h1 h2 => ho.block k hk (fun e => by
    rcases e with e | e
    · exact h1 e
    · exact h2 e)
  refine ⟨hb, h.map.to (hk' _ h.map.lt (h.map.ne_blk h.blk) (fun e => h.map.ne_own h.row _ e rfl)), h.mp.to (hk' _ h.mp.lt (h.mp.ne_blk h.blk) (fun e => mapPtr_own h.mp h.row _ e rfl)), h.x.to (hk' _ h.x.lt (h.x.ne_ h.blk (by decide)) (own_blk_ne h.row h.x (by decide))), hr, hri, fun p hp => ?_, h.nod, h.geC, h.geM, h.geN, h.geX, h.hB, Nat.le_trans h.hBw ho.size, h.lzB⟩
  obtain ⟨a, v, b, c⟩ := h.inos p hp
  exact ⟨a, v, b.to (hk' _ b.lt (b.ne_ h.blk (by decide)) (own_blk_ne h.row b (by decide))), c.only ho hG⟩
end
def rho (l : List (Nat × Nat)) (g : Nat) : Nat := (fndN g l).getD 0
def rhoW (l : List (Nat × Nat)) (x : Wr) : Wr := { x with tgt := rho l x.tgt }
theorem fndN_mem {g k : Nat} : ∀ {l : List (Nat × Nat)}, fndN g l = some k → (g, k) ∈ l
  | [], h => by cases h
  | p :: l, h => by
    by_cases hp : g = p.1
    · rw [fndN, if_pos hp] at h
      injection h with h
      rw [hp, ← h]
      exact List.mem_cons_self
    · rw [fndN, if_neg hp] at h
      exact List.mem_cons_of_mem _ (fndN_mem h)
theorem fndN_keep {g k : Nat} {r : List (Nat × Nat)} : ∀ {l : List (Nat × Nat)}, fndN g l = some k → fndN g (l ++ r) = some k
  | [], h => by cases h
  | p :: l, h => by
    by_cases hp : g = p.1
    · rw [fndN, if_pos hp] at h
      rw [List.cons_append, fndN, if_pos hp]
      exact h
    · rw [fndN, if_neg hp] at h
      rw [List.cons_append, fndN, if_neg hp]
      exact fndN_keep h
def back (l : List (Nat × Nat)) (k : Nat) : Option Nat := (l.find? fun p => p.2 == k).map (·.1)
theorem back_of {l : List (Nat × Nat)} (hn : (l.map (·.2)).Nodup) {p : Nat × Nat} (hp : p ∈ l) : back l p.2 = some p.1 := by
  induction l with
  | nil => cases hp
  | cons q l ih =>
    rw [List.map_cons, List.nodup_cons] at hn
    unfold back
    rw [List.find?_cons]
    rcases List.mem_cons.1 hp with rfl | hp
    · simp
    · have hne : q.2 ≠ p.2 := fun e => hn.1 (e ▸ List.mem_map.2 ⟨p, hp, rfl⟩)
      have : (q.2 == p.2) = false := by simpa using hne
      rw [this]
      exact ih hn.2 hp
def Copied (st st' : FS) : Prop :=
  ∃ f : Nat → Nat, (∀ s, fnd s st'.files = (fnd s st.files).map f) ∧ st'.files.length = st.files.length ∧ st'.row = st.row.map (fun x => { x with tgt := f x.tgt }) ∧
    (∀ g g', ((∃ s, fnd s st.files = some g) ∨ ∃ x ∈ st.row, x.tgt = g) → ((∃ s, fnd s st.files = some g') ∨ ∃ x ∈ st.row, x.tgt = g') → f g = f g' → g = g') ∧
    (∀ g, ((∃ s, fnd s st.files = some g) ∨ ∃ x ∈ st.row, x.tgt = g) → st'.sb (f g) = st.sb g ∧ st'.sz (f g) = st.sz g) ∧
    (∀ g, st'.sb g = [] ∨ ∃ g0, st'.sb g = st.sb g0) ∧ (∀ g, st'.sz g = 0 ∨ ∃ g0, st'.sz g = st.sz g0) ∧ st'.ops = st.ops ∧ st'.fuse = st.fuse ∧ st'.fault = st.fault ∧ st'.down = st.down
end Go.Proofs.Ytcpkoajnepijkaa

