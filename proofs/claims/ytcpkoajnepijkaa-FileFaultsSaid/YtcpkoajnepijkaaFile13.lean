/- Copy's closure. No conditions. -/
import Derived.Test.YtcpkoajnepijkaaFile12
namespace Go.Proofs.Ytcpkoajnepijkaa
set_option linter.unusedVariables false
set_option linter.unusedSimpArgs false
open Go.RowKit Go.Proofs.YtcpkoajnepijkaaL Go.Proofs.YtcpkoajnepijkaaW.PrintWords Go.MapKept

theorem MapPtr.to {w w' : World} {M : Nat} {l : List (Nat × Nat)} (h : MapPtr w M l) (he : w'.heap[M]? = w.heap[M]?) : MapPtr w' M l := by
  obtain ⟨es, clock, h, hs⟩ := h
  exact ⟨es, clock, he.trans h, hs⟩
theorem MapPtr.lt {w : World} {M : Nat} {l : List (Nat × Nat)} (h : MapPtr w M l) : M < w.heap.size := by
  obtain ⟨es, clock, h, _⟩ := h
  exact (Array.getElem?_eq_some_iff.1 h).1
theorem MapPtr.ne_blk {w : World} {M g t : Nat} {cs : Array Value} {l : List (Nat × Nat)} (h : MapPtr w M l) (hb : Blk w g t cs) : M ≠ g := by
  obtain ⟨es, clock, h, _⟩ := h
  intro e
  subst e
  rw [Blk, h] at hb
  cases hb
theorem fndN_snoc {g k : Nat} : ∀ {l : List (Nat × Nat)}, fndN g l = none → fndN g (l ++ [(g, k)]) = some k
  | [], _ => by simp [fndN]
  | p :: l, h => by
    by_cases hp : g = p.1
    · simp [fndN, hp] at h
    · rw [fndN, if_neg hp] at h
      rw [List.cons_append, fndN, if_neg hp]
      exact fndN_snoc h

set_option maxRecDepth 100000 in
set_option maxHeartbeats 4000000 in
theorem anew_calls {base : Nat} {Lz : Nat → Prop} {w : World} {X N g : Nat} {tX : Nat} {cX : Array Value} {l : List (Nat × Nat)} {v : Value} {sz : Nat} {b : List Int} (hXb : Blk w X tX cX) (hX0 : cX[0]? = some (.map (some N))) (hN : MapPtr w N l) (hc : ∀ p ∈ l, IsC w p.1)
    (hg : Blk w g 77 #[v, .int .i64 sz]) (hb : RB base Lz w v b) (hl : b.length ≤ 1000000000) (hbN : base ≤ N) (hlz : ∀ k, Lz k → k < w.heap.size) :
    Calls Try.prog 40 #[ptr g, ptr X] w fun e w' => ∃ k l', e = .returned (ptr k) ∧ MapPtr w' N l' ∧ fndN g l' = some k ∧
      (l' = l ∨ (fndN g l = none ∧ l' = l ++ [(g, k)] ∧ w.heap.size ≤ k ∧ k < w'.heap.size ∧ ∃ v', Blk w' k 77 #[v', .int .i64 sz] ∧ RB base Lz w' v' b)) ∧ Only (· = N) w w' := by
  have HLZ := Aside0.mk hlz
  clear hlz
  have hgc : IsC w g := ⟨_, _, hg⟩
  have x0 : w.cell? ⟨X, 0, none⟩ = some (.map (some N)) := hXb.cell 0 hX0
  cases hf : fndN g l with
  | some k =>
    have hlk := hN.look hc hgc
    rw [hf] at hlk
    simp only [Option.elim] at hlk
    have HF := Aside0.mk hf
    have HN := Aside0.mk hN
    clear hf hN hb hg hXb
    go_enter Try.func40, Try.ntmps40
    go_wp2
    go_ret
    exact ⟨k, l, rfl, HN.out, HF.out, .inl rfl, Only.refl _ _⟩
  | none =>
    have hlk := hN.look hc hgc
    rw [hf] at hlk
    simp only [Option.elim] at hlk
    obtain ⟨A, c, rfl⟩ : ∃ A c, v = .slice A b.length c := by obtain ⟨A, c, e, _⟩ := hb; exact ⟨A, c, e⟩
    have g0 : w.cell? ⟨g, 0, none⟩ = some (.slice A b.length c) := hg.cell 0 rfl
    have g1 : w.cell? ⟨g, 1, none⟩ = some (.int .i64 sz) := hg.cell 1 rfl
    have hXN := hN.ne_blk hXb
    have hgN := hN.ne_blk hg
    have hXl := hXb.lt
    have hgl := hg.lt
    have hNl := hN.lt
    have HG := Aside0.mk hg
    have HXB := Aside0.mk hXb
    have HN := Aside0.mk hN
    have HC := Aside0.mk hc
    have HGC := Aside0.mk hgc
    have HF := Aside0.mk hf
    have HB := Aside0.mk hb
    have HX0 := Aside0.mk hX0
    have HXN := Aside0.mk hXN
    have HGN := Aside0.mk hgN
    clear hf hN hb hg hXb hc hgc hX0 hXN hgN
    go_enter Try.func40, Try.ntmps40
    go_wp2_with fail
    go_region_held3 (fun w' => w'.cell? ⟨X, 0, none⟩ = some (.map (some N)) ∧ w'.cell? ⟨g, 0, none⟩ = some (.slice A b.length c) ∧ w'.cell? ⟨g, 1, none⟩ = some (.int .i64 sz))
      (first
        | go_keep
        | (refine ⟨?_, ?_, ?_⟩ <;> assumption))
      (first
        | (go_at_call 41; refine (clone_calls (base := base) (Lz := Lz) (HB.out.below (below_drew (Below.refl _ _))) hl).mono ?_; rintro e w6 ⟨v6, rfl, ho6, hb6⟩; obtain ⟨A6, n6, c6, rfl, hn6⟩ := own_form ho6
           have x6 := (hb6.cell (p := ⟨X, 0, none⟩) hXl).trans x0
           have g06 := (hb6.cell (p := ⟨g, 0, none⟩) hgl).trans g0
           have g16 := (hb6.cell (p := ⟨g, 1, none⟩) hgl).trans g1
           have hb6' : Below w.heap.size w w6 := ⟨hb6.os, hb6.tape, hb6.output, hb6.size, hb6.block⟩
           have hba : Below w.heap.size w (w6.alloc (.cells #[.slice A6 n6 c6, .int .i64 sz] 77)) := below_alloc hb6' _
           obtain ⟨w7, hup, hm7, hg7⟩ := (HN.out.to (hba.block _ hNl)).add (fun p hp => (HC.out p hp).to (hba.block _ (HC.out p hp).lt)) (HGC.out.to (hba.block _ hgl)) HF.out w6.heap.size
           have hX7 := (HXB.out.to (hba.block _ hXl)).to (hg7.block X (by simp; have := hb6'.size; omega) (fun e => HXN.out (Option.some.inj e).symm))
           have hG7 := (HG.out.to (hba.block _ hgl)).to (hg7.block g (by simp; have := hb6'.size; omega) (fun e => HGN.out (Option.some.inj e).symm))
           have x7 : w7.cell? ⟨X, 0, none⟩ = some (.map (some N)) := hX7.cell 0 HX0.out
           have g07 := hG7.cell 0 (v := .slice A b.length c) rfl
           have g17 := hG7.cell 1 (v := .int .i64 sz) rfl
           have hlk7 := hm7.look (fun p hp => by
             rcases List.mem_append.1 hp with hp | hp
             · have h1 := (HC.out p hp).to (hba.block _ (HC.out p hp).lt)
               obtain ⟨cs, t, h2⟩ := h1
               exact ⟨cs, t, (hg7.block p.1 (by simp; have := hb6'.size; have := (HC.out p hp).lt; omega) (fun e => ((HN.out.to (hba.block _ hNl)).ne_blk h2) (Option.some.inj e).symm)).trans h2⟩
             · rw [List.mem_singleton.1 hp]
               exact ⟨_, _, hG7⟩) (⟨_, _, hG7⟩ : IsC w7 g)
           rw [fndN_snoc HF.out] at hlk7
           simp only [Option.elim] at hlk7
           have HM7 := Aside0.mk hm7
           have HG7 := Aside0.mk hg7
           have HO6 := Aside0.mk ho6
           have HBA := Aside0.mk hba
           have HB6 := Aside0.mk hb6'
           clear hb6 hb6' hm7 hg7 ho6 hba hX7 hG7 hn6))
    go_wp2
    go_ret
    have hgo : Only (· = N) (w6.alloc (.cells #[.slice A6 n6 c6, .int .i64 sz] 77)) w7 := grown_only HG7.out
    have hNl7 : MapPtr (w6.alloc (.cells #[.slice A6 n6 c6, .int .i64 sz] 77)) N l := HN.out.to (HBA.out.block _ hNl)
    have hk7 : Blk w7 w6.heap.size 77 #[.slice A6 n6 c6, .int .i64 sz] := (Blk.new w6 77 #[.slice A6 n6 c6, .int .i64 sz]).to (HG7.out.block w6.heap.size (by simp) (fun e => by have := Option.some.inj e; have := HB6.out.size; omega))
    have hs7 := HG7.out.size
    refine ⟨w6.heap.size, l ++ [(g, w6.heap.size)], rfl, HM7.out, fndN_snoc HF.out, .inr ⟨(by first | exact HF.out | trivial), rfl, HB6.out.size, by simp at hs7; omega, ⟨_, hk7, ?_⟩⟩, (Only.of_below (F := (· = N)) HBA.out).trans hgo (fun _ _ h => h)⟩
    refine ((RB.of_R (base := base) (Lz := Lz) HO6.out (fun k hk hz => by have := HLZ.out k hz; simp at hk; omega)).below (below_alloc (Below.refl _ _) _)).only hgo (fun k hk => ⟨hk ▸ hbN, fun h5 => ?_⟩)
    rw [hk] at h5
    obtain ⟨c5, fr, h5⟩ := h5
    obtain ⟨es, clock, hM, _⟩ := hNl7
    rw [hM] at h5
    cases h5

end Go.Proofs.Ytcpkoajnepijkaa
