/- FileOwn, its walk. No conditions. -/
import Derived.Test.YtcpkoajnepijkaaOne
import Derived.Test.YtcpkoajnepijkaaAlive2
namespace Go.Proofs.Ytcpkoajnepijkaa
set_option linter.unusedVariables false
set_option linter.unusedSimpArgs false
open Go.RowKit Go.Proofs.YtcpkoajnepijkaaL Go.Proofs.YtcpkoajnepijkaaW.PrintWords

/-- The first cell of bytes of the call's own. -/
theorem own_first {w : World} {B : Nat} {A : Option Addr} {n c : Nat} {xs : List Int} {x : Int} {r : List Int} (h : Own w B (.slice A n c) xs) (hx : xs = x :: r) :
    ∃ g cur, A = some ⟨g, 0, none⟩ ∧ B ≤ g ∧ w.heap[g]? = some (.cells cur 5 (0, 0)) ∧ cur[0]? = some (.int .u8 x) := by
  have ho := Kd.own_of_R (enc := Value.int .u8) h
  rcases ho.2 with ⟨e, h0⟩ | ⟨g, cap, cur, e, hB, hh, h1, h2, h3, h4⟩
  · rw [hx] at h0; simp [encs] at h0
  · injection e with e1 e2 e3
    refine ⟨g, cur, e1, hB, hh, ?_⟩
    have hl : ((cur.toList.take (xs.length * 1)))[0]? = (encs (Value.int .u8) xs)[0]? := congrArg (fun l : List Value => l[0]?) h4
    rw [hx] at hl
    simp [encs] at hl
    simpa using hl

set_option maxRecDepth 100000 in
set_option maxHeartbeats 4000000 in
theorem own_walk_true {W : World} {ad : Addr} {c0 : Nat} {l0 : List Int} (hc0 : l0.length ≤ c0) (hC0 : u8.C W (some ad) l0.length l0) (hl1 : 1 ≤ l0.length) (hl2 : l0.length ≤ 1000) :
    Calls Try.prog 8 #[.slice (some ad) l0.length c0, .bool true] W fun e w' => e = .returned (.bool true) ∧ Below W.heap.size W w' := by
  have XN := Aside0.mk (fsat_new (base := W.heap.size) (Lz := NoL) (w := W) (Nat.le_refl _) (fun _ h => h.elim))
  have HA : Aside0 (∀ Lz, RB W.heap.size Lz W (.slice (some ad) l0.length c0) l0) := ⟨fun Lz => RB.arg hc0 hC0⟩
  obtain ⟨x0, r0, hx0⟩ : ∃ x0 r0, l0 = x0 :: r0 := by
    cases l0 with
    | nil => simp at hl1
    | cons a b => exact ⟨a, b, rfl⟩
  have HX0 := Aside0.mk hx0
  clear hx0 hC0 hc0
  go_enter Try.func8, Try.ntmps8
  go_wp2_with fail
  go_at_call 12
  with_reducible refine (XN.out).mono ?_
  rintro e w1 ⟨F, fp, rfl, hf1, hfp, hb1⟩
  have HF1 := Aside0.mk hf1
  have HFP := Aside0.mk hfp
  have HB1 := Aside0.mk hb1
  have HA1 : Aside0 (∀ Lz, RB W.heap.size Lz w1 (.slice (some ad) l0.length c0) l0) := ⟨fun Lz => (HA.out Lz).below hb1⟩
  have HC1 : Aside0 (u8.C w1 (some ad) l0.length l0) := ⟨by
    obtain ⟨A, c, e, hc, hC, _⟩ := HA1.out NoL
    injection e with e1 e2 e3
    subst e1
    exact hC⟩
  clear hf1 hfp hb1
  go_wp2_with (at_builtin; refine Kd.R_append_rows u8 (w0 := w1) w1.heap.size rfl (.tmp 30) (.tmp 31) 31 5 (.int .u8 0) 1 rfl Try.underlying31 info5 rfl (by decide) (by decide) (.slice (some ⟨w1.heap.size, 0, none⟩) 0 0) [] l0 (some ad) l0.length c0 (fun _ => True) (fun _ => False) rfl rfl (own_lit0 w1 _ (Nat.le_refl _)) (Kd.C_alloc HC1.out _) (fun x cs h => h) (fun _ h => h.elim) (fun _ _ => trivial) (below_alloc (Below.refl _ _) _) (by simp) (by simp; omega) ?_; intro v2 w2 ho2 hb2 _ _; have tok : True := trivial)
  have ho2 : Own w2 w1.heap.size v2 l0 := ho2
  have HO2 : Aside0 (Own w2 w1.heap.size v2 l0) := ⟨ho2⟩
  have HB2 := Aside0.mk hb2
  obtain ⟨A2, n2, cp2, rfl, hn2⟩ := own_form ho2
  subst hn2
  obtain ⟨g, cur, rfl, hg1, hg2, hg3⟩ : ∃ g cur, A2 = some ⟨g, 0, none⟩ ∧ w1.heap.size ≤ g ∧ w2.heap[g]? = some (.cells cur 5 (0, 0)) ∧ cur[0]? = some (.int .u8 x0) := own_first ho2 HX0.out
  have hgl : g < w2.heap.size := (Array.getElem?_eq_some_iff.1 hg2).1
  clear ho2 hb2
  have HF2 : Aside0 (FSat W.heap.size (· = g) w2 F fp newP 0) := ⟨HF1.out.free HB2.out (fun g' e => by subst e; exact ⟨.inr hg1, hgl⟩)⟩
  have XW := Aside0.mk (HF2.out.write (by omega) nA (RB.of_R HO2.out (fun _ _ h => h)) (by omega))
  rw [own_write l0 (by omega)] at XW
  go_wp2_with fail
  go_at_call 23
  refine (XW.out).mono ?_
  rintro e w3 ⟨rfl, ⟨fp3, hf3, hfp3⟩, ho3⟩
  have HF3 := Aside0.mk hf3
  have HO3 := Aside0.mk ho3
  have hgfp : ¬ fp g := fun h => by have := HF1.out.lt g h; omega
  have HNF3 : Aside0 (¬ fp3 g) := ⟨fun h => by
    rcases hfp3 g h with h | h
    · exact hgfp h
    · omega⟩
  have hg4 := (ho3.block g hgl hgfp).trans hg2
  have hg5 : w3.cell? ⟨g, 0, none⟩ = some (.int .u8 x0) := (cell_of_row w3 g 0 cur 5 (0, 0) hg4).trans hg3
  have hg6 : w3.frozen? ⟨g, 0, none⟩ = false := by simp [World.frozen?, hg4]
  have HG := Aside0.mk hg1
  clear hf3 ho3 hgfp hg4 hg2 hg3 XW XN hg1 hgl
  go_wp2_with fail
  generalize hw4 : w3.setCell ⟨g, 0, none⟩ _ = w4
  have HO4 : Aside0 (Only (· = g) w3 w4) := ⟨by rw [← hw4]; exact (Only.refl _ w3).set1 0 _⟩
  have HF4 : Aside0 (FSat W.heap.size (· = g) w4 F fp3 (ownS1 l0) 1) := ⟨HF3.out.onlyL HO4.out (fun k hk => by subst hk; exact ⟨Nat.le_trans HF1.out.base_le HG.out, fun _ => rfl⟩) (fun k hk => by subst hk; exact HNF3.out)⟩
  have HA4 : Aside0 (RB W.heap.size (· = g) w4 (.slice (some ad) l0.length c0) l0) := ⟨(((HA1.out (· = g)).below HB2.out).only HO3.out HF2.out.mut).onlyL HO4.out (fun k hk => by subst hk; exact ⟨Nat.le_trans HF1.out.base_le HG.out, fun _ => rfl⟩)⟩
  clear hw4 hg5 hg6
  have XS := Aside0.mk (HF4.out.sync (by omega) nA)
  unfold LeftP at XS
  rw [own_sync l0] at XS
  go_wp2_with fail
  go_at_call 29
  refine (XS.out).mono ?_
  rintro e w5 ⟨rfl, ⟨fp5, hf5, hfp5⟩, ho5⟩
  have HF5 : Aside0 (FSat W.heap.size (· = g) w5 F fp5 (ownS2 l0 true) 2) := ⟨hf5⟩
  have HO5 := Aside0.mk ho5
  have HA5 := Aside0.mk (HA4.out.only HO5.out HF4.out.mut)
  clear hf5 ho5 hfp5 XS
  have HB5 : Aside0 (Below W.heap.size w4 w5) := ⟨HO5.out.to_below (fun k hk => (HF4.out.mut k hk).1) HF4.out.base_le⟩
  have XR := Aside0.mk (HF5.out.read (by omega) nA)
  rw [own_read l0 true] at XR
  go_wp2_with fail
  go_at_call 18
  refine (XR.out).mono ?_
  rintro e w6 ⟨v6, rfl, ho6, hb6⟩
  have HO6 : Aside0 (Own w6 w5.heap.size v6 l0) := ⟨ho6⟩
  have HB6 := Aside0.mk hb6
  obtain ⟨A6, n6, cp6, rfl, hn6⟩ := own_form ho6
  subst hn6
  obtain ⟨g6, cur6, rfl, hg1, hg2, hg3⟩ : ∃ g cur, A6 = some ⟨g, 0, none⟩ ∧ w5.heap.size ≤ g ∧ w6.heap[g]? = some (.cells cur 5 (0, 0)) ∧ cur[0]? = some (.int .u8 x0) := own_first ho6 HX0.out
  have hgl : g6 < w6.heap.size := (Array.getElem?_eq_some_iff.1 hg2).1
  have HA6 := Aside0.mk (HA5.out.below hb6)
  clear ho6 hb6 XR
  have XE := Aside0.mk (equal_calls (RB.of_R (base := W.heap.size) (Lz := NoL) HO6.out (fun _ _ h => h)) HA6.out.noL rfl)
  go_wp2_with fail
  go_at_call 21
  refine (XE.out).mono ?_
  rintro e w7 ⟨rfl, hb7⟩
  have HB7 := Aside0.mk hb7
  have hg4 := (hb7.block g6 hgl).trans hg2
  have hg5 : w7.cell? ⟨g6, 0, none⟩ = some (.int .u8 x0) := (cell_of_row w7 g6 0 cur6 5 (0, 0) hg4).trans hg3
  have hg6 : w7.frozen? ⟨g6, 0, none⟩ = false := by simp [World.frozen?, hg4]
  have hb57 : Below w5.heap.size w5 w7 := HB6.out.trans (hb7.mono HB6.out.size)
  have HF7 : Aside0 (FSat W.heap.size (· = g6) w7 F fp5 (ownS2 l0 true) 2) := ⟨HF5.out.free hb57 (fun g' e => by subst e; exact ⟨.inr hg1, Nat.lt_of_lt_of_le hgl hb7.size⟩)⟩
  have HA7 : Aside0 (RB W.heap.size (· = g6) w7 (.slice (some ad) l0.length c0) l0) := ⟨(HA5.out.loose (fun g' hg' e => by subst e; omega)).below hb57⟩
  have HG6 := Aside0.mk hg1
  clear hb7 hg4 hg2 hg3 hb57 hg1 hgl XE
  go_wp2_with fail
  generalize hw8 : w7.setCell ⟨g6, 0, none⟩ _ = w8
  have hmut : MutL W.heap.size (· = g6) w7 (· = g6) := fun k hk => by subst hk; exact ⟨Nat.le_trans HF5.out.base_le HG6.out, fun _ => rfl⟩
  have HO8 : Aside0 (Only (· = g6) w7 w8) := ⟨by rw [← hw8]; exact (Only.refl _ w7).set1 0 _⟩
  have HF8 : Aside0 (FSat W.heap.size (· = g6) w8 F fp5 (ownS2 l0 true) 2) := ⟨HF7.out.onlyL HO8.out hmut (fun k hk h5 => by subst hk; have := HF5.out.lt _ h5; have := HG6.out; omega)⟩
  have HA8 : Aside0 (RB W.heap.size (· = g6) w8 (.slice (some ad) l0.length c0) l0) := ⟨HA7.out.onlyL HO8.out hmut⟩
  have hs8 : w8.heap.size = w7.heap.size := by rw [← hw8]; simp
  have HS8 := Aside0.mk hs8
  clear hw8 hg5 hg6 hmut hs8
  go_wp2_with fail
  have XK : Aside0 (Calls Try.prog 20 #[ptr F, .slice (some ⟨w8.heap.size, 0, none⟩) 1 1] (w8.alloc (.cells #[.bool true] 4)) fun e w' => e = .returned (.tuple #[]) ∧ FSat W.heap.size (· = g6) w' F fp5 (crashP (ownS2 l0 true) [true]) 2 ∧ Only fp5 (w8.alloc (.cells #[.bool true] 4)) w') :=
    ⟨(HF8.out.below (below_alloc (Below.refl _ _) _)).crash (by omega) (keep := [true]) (Gk := w8.heap.size) (ok := 0) (fun _ => rfl) (fun i hi => by
      have hb := Blk.new w8 4 #[.bool true]
      rcases i with _ | i
      · exact hb.cell 0 rfl
      · simp at hi) (fun _ hg => by have := HF8.out.lt _ hg; omega) (by decide)⟩
  rw [show (Value.slice (some ⟨w8.heap.size, 0, none⟩) 1 1) = Value.slice (some ⟨w7.heap.size, 0, none⟩) 1 1 from by rw [HS8.out]] at XK
  go_at_call 20
  with_reducible refine (XK.out).mono ?_
  rintro e w9 ⟨rfl, hf9, ho9⟩
  have HF9 := Aside0.mk hf9
  have HO9 := Aside0.mk ho9
  have HA9 := Aside0.mk ((HA8.out.below (below_alloc (Below.refl _ _) (.cells #[.bool true] 4))).only ho9 (HF8.out.below (below_alloc (Below.refl _ _) (.cells #[.bool true] 4))).mut)
  clear hf9 ho9 XK
  have XR := Aside0.mk (HF9.out.read (by omega) nA)
  rw [own_crash l0 true] at XR
  go_wp2_with fail
  go_at_call 18
  refine (XR.out).mono ?_
  rintro e w10 ⟨v10, rfl, ho10, hb10⟩
  have HO10 : Aside0 (Own w10 w9.heap.size v10 l0) := ⟨ho10⟩
  have HB10 := Aside0.mk hb10
  have HA10 := Aside0.mk (HA9.out.below hb10)
  clear ho10 hb10 XR
  go_wp2_with fail
  have XL := Aside0.mk (alive_walk w10)
  go_at_call 11
  with_reducible refine (XL.out).mono ?_
  rintro e w11 ⟨rfl, hb11⟩
  have HB11 := Aside0.mk hb11
  clear hb11 XL
  have XE := Aside0.mk (equal_calls ((RB.of_R (base := W.heap.size) (Lz := NoL) HO10.out (fun _ _ h => h)).below HB11.out) (HA10.out.below HB11.out).noL rfl)
  go_wp2_with fail
  go_at_call 21
  refine (XE.out).mono ?_
  rintro e w12 ⟨rfl, hb12⟩
  have HEND : Aside0 (Below W.heap.size W w12) := ⟨by
    have b2 := HB1.out.trans (HB2.out.mono HF1.out.base_le)
    have b3 := bo b2 HO3.out HFP.out HF2.out.base_le
    have b4 := bo b3 HO4.out (fun k hk => by subst hk; exact Nat.le_trans HF1.out.base_le HG.out) HF3.out.base_le
    have b5 := b4.trans HB5.out
    have b6 := b5.trans (HB6.out.mono HF5.out.base_le)
    have b7 := b6.trans (HB7.out.mono (Nat.le_trans HF5.out.base_le HB6.out.size))
    have b8 := bo b7 HO8.out (fun k hk => by subst hk; exact Nat.le_trans HF5.out.base_le HG6.out) HF7.out.base_le
    have a9 := below_alloc' b8 HF8.out.base_le (.cells #[.bool true] 4)
    have b9 := bo a9.1 HO9.out (fun k hk => (HF8.out.mut k hk).1) a9.2
    have b10 := b9.trans (HB10.out.mono HF9.out.base_le)
    have b11 := b10.trans (HB11.out.mono (Nat.le_trans HF9.out.base_le HB10.out.size))
    exact b11.trans (hb12.mono (Nat.le_trans (Nat.le_trans HF9.out.base_le HB10.out.size) HB11.out.size))⟩
  clear hb12 XE
  go_wp2
  go_ret
  exact ⟨rfl, HEND.out⟩

set_option maxRecDepth 100000 in
set_option maxHeartbeats 4000000 in
theorem own_walk_false {W : World} {ad : Addr} {c0 : Nat} {l0 : List Int} (hc0 : l0.length ≤ c0) (hC0 : u8.C W (some ad) l0.length l0) (hl1 : 1 ≤ l0.length) (hl2 : l0.length ≤ 1000) :
    Calls Try.prog 8 #[.slice (some ad) l0.length c0, .bool false] W fun e w' => e = .returned (.bool true) ∧ Below W.heap.size W w' := by
  have XN := Aside0.mk (fsat_new (base := W.heap.size) (Lz := NoL) (w := W) (Nat.le_refl _) (fun _ h => h.elim))
  have HA : Aside0 (∀ Lz, RB W.heap.size Lz W (.slice (some ad) l0.length c0) l0) := ⟨fun Lz => RB.arg hc0 hC0⟩
  obtain ⟨x0, r0, hx0⟩ : ∃ x0 r0, l0 = x0 :: r0 := by
    cases l0 with
    | nil => simp at hl1
    | cons a b => exact ⟨a, b, rfl⟩
  have HX0 := Aside0.mk hx0
  clear hx0 hC0 hc0
  go_enter Try.func8, Try.ntmps8
  go_wp2_with fail
  go_at_call 12
  with_reducible refine (XN.out).mono ?_
  rintro e w1 ⟨F, fp, rfl, hf1, hfp, hb1⟩
  have HF1 := Aside0.mk hf1
  have HFP := Aside0.mk hfp
  have HB1 := Aside0.mk hb1
  have HA1 : Aside0 (∀ Lz, RB W.heap.size Lz w1 (.slice (some ad) l0.length c0) l0) := ⟨fun Lz => (HA.out Lz).below hb1⟩
  have HC1 : Aside0 (u8.C w1 (some ad) l0.length l0) := ⟨by
    obtain ⟨A, c, e, hc, hC, _⟩ := HA1.out NoL
    injection e with e1 e2 e3
    subst e1
    exact hC⟩
  clear hf1 hfp hb1
  go_wp2_with (at_builtin; refine Kd.R_append_rows u8 (w0 := w1) w1.heap.size rfl (.tmp 30) (.tmp 31) 31 5 (.int .u8 0) 1 rfl Try.underlying31 info5 rfl (by decide) (by decide) (.slice (some ⟨w1.heap.size, 0, none⟩) 0 0) [] l0 (some ad) l0.length c0 (fun _ => True) (fun _ => False) rfl rfl (own_lit0 w1 _ (Nat.le_refl _)) (Kd.C_alloc HC1.out _) (fun x cs h => h) (fun _ h => h.elim) (fun _ _ => trivial) (below_alloc (Below.refl _ _) _) (by simp) (by simp; omega) ?_; intro v2 w2 ho2 hb2 _ _; have tok : True := trivial)
  have ho2 : Own w2 w1.heap.size v2 l0 := ho2
  have HO2 : Aside0 (Own w2 w1.heap.size v2 l0) := ⟨ho2⟩
  have HB2 := Aside0.mk hb2
  obtain ⟨A2, n2, cp2, rfl, hn2⟩ := own_form ho2
  subst hn2
  obtain ⟨g, cur, rfl, hg1, hg2, hg3⟩ : ∃ g cur, A2 = some ⟨g, 0, none⟩ ∧ w1.heap.size ≤ g ∧ w2.heap[g]? = some (.cells cur 5 (0, 0)) ∧ cur[0]? = some (.int .u8 x0) := own_first ho2 HX0.out
  have hgl : g < w2.heap.size := (Array.getElem?_eq_some_iff.1 hg2).1
  clear ho2 hb2
  have HF2 : Aside0 (FSat W.heap.size (· = g) w2 F fp newP 0) := ⟨HF1.out.free HB2.out (fun g' e => by subst e; exact ⟨.inr hg1, hgl⟩)⟩
  have XW := Aside0.mk (HF2.out.write (by omega) nA (RB.of_R HO2.out (fun _ _ h => h)) (by omega))
  rw [own_write l0 (by omega)] at XW
  go_wp2_with fail
  go_at_call 23
  refine (XW.out).mono ?_
  rintro e w3 ⟨rfl, ⟨fp3, hf3, hfp3⟩, ho3⟩
  have HF3 := Aside0.mk hf3
  have HO3 := Aside0.mk ho3
  have hgfp : ¬ fp g := fun h => by have := HF1.out.lt g h; omega
  have HNF3 : Aside0 (¬ fp3 g) := ⟨fun h => by
    rcases hfp3 g h with h | h
    · exact hgfp h
    · omega⟩
  have hg4 := (ho3.block g hgl hgfp).trans hg2
  have hg5 : w3.cell? ⟨g, 0, none⟩ = some (.int .u8 x0) := (cell_of_row w3 g 0 cur 5 (0, 0) hg4).trans hg3
  have hg6 : w3.frozen? ⟨g, 0, none⟩ = false := by simp [World.frozen?, hg4]
  have HG := Aside0.mk hg1
  clear hf3 ho3 hgfp hg4 hg2 hg3 XW XN hg1 hgl
  go_wp2_with fail
  generalize hw4 : w3.setCell ⟨g, 0, none⟩ _ = w4
  have HO4 : Aside0 (Only (· = g) w3 w4) := ⟨by rw [← hw4]; exact (Only.refl _ w3).set1 0 _⟩
  have HF4 : Aside0 (FSat W.heap.size (· = g) w4 F fp3 (ownS1 l0) 1) := ⟨HF3.out.onlyL HO4.out (fun k hk => by subst hk; exact ⟨Nat.le_trans HF1.out.base_le HG.out, fun _ => rfl⟩) (fun k hk => by subst hk; exact HNF3.out)⟩
  have HA4 : Aside0 (RB W.heap.size (· = g) w4 (.slice (some ad) l0.length c0) l0) := ⟨(((HA1.out (· = g)).below HB2.out).only HO3.out HF2.out.mut).onlyL HO4.out (fun k hk => by subst hk; exact ⟨Nat.le_trans HF1.out.base_le HG.out, fun _ => rfl⟩)⟩
  clear hw4 hg5 hg6
  obtain ⟨w5, hw5⟩ : ∃ w5, w5 = w4 := ⟨_, rfl⟩
  obtain ⟨fp5, hfp5⟩ : ∃ fp5, fp5 = fp3 := ⟨_, rfl⟩
  have HF5 : Aside0 (FSat W.heap.size (· = g) w5 F fp5 (ownS2 l0 false) 2) := ⟨by rw [hw5, hfp5]; exact HF4.out.mono (by omega)⟩
  have HA5 : Aside0 (RB W.heap.size (· = g) w5 (.slice (some ad) l0.length c0) l0) := ⟨by rw [hw5]; exact HA4.out⟩
  have HB5 : Aside0 (Below W.heap.size w4 w5) := ⟨by rw [hw5]; exact Below.refl _ _⟩
  rw [← hw5]
  clear hw5 hfp5
  have XR := Aside0.mk (HF5.out.read (by omega) nA)
  rw [own_read l0 false] at XR
  go_wp2_with fail
  go_at_call 18
  refine (XR.out).mono ?_
  rintro e w6 ⟨v6, rfl, ho6, hb6⟩
  have HO6 : Aside0 (Own w6 w5.heap.size v6 l0) := ⟨ho6⟩
  have HB6 := Aside0.mk hb6
  obtain ⟨A6, n6, cp6, rfl, hn6⟩ := own_form ho6
  subst hn6
  obtain ⟨g6, cur6, rfl, hg1, hg2, hg3⟩ : ∃ g cur, A6 = some ⟨g, 0, none⟩ ∧ w5.heap.size ≤ g ∧ w6.heap[g]? = some (.cells cur 5 (0, 0)) ∧ cur[0]? = some (.int .u8 x0) := own_first ho6 HX0.out
  have hgl : g6 < w6.heap.size := (Array.getElem?_eq_some_iff.1 hg2).1
  have HA6 := Aside0.mk (HA5.out.below hb6)
  clear ho6 hb6 XR
  have XE := Aside0.mk (equal_calls (RB.of_R (base := W.heap.size) (Lz := NoL) HO6.out (fun _ _ h => h)) HA6.out.noL rfl)
  go_wp2_with fail
  go_at_call 21
  refine (XE.out).mono ?_
  rintro e w7 ⟨rfl, hb7⟩
  have HB7 := Aside0.mk hb7
  have hg4 := (hb7.block g6 hgl).trans hg2
  have hg5 : w7.cell? ⟨g6, 0, none⟩ = some (.int .u8 x0) := (cell_of_row w7 g6 0 cur6 5 (0, 0) hg4).trans hg3
  have hg6 : w7.frozen? ⟨g6, 0, none⟩ = false := by simp [World.frozen?, hg4]
  have hb57 : Below w5.heap.size w5 w7 := HB6.out.trans (hb7.mono HB6.out.size)
  have HF7 : Aside0 (FSat W.heap.size (· = g6) w7 F fp5 (ownS2 l0 false) 2) := ⟨HF5.out.free hb57 (fun g' e => by subst e; exact ⟨.inr hg1, Nat.lt_of_lt_of_le hgl hb7.size⟩)⟩
  have HA7 : Aside0 (RB W.heap.size (· = g6) w7 (.slice (some ad) l0.length c0) l0) := ⟨(HA5.out.loose (fun g' hg' e => by subst e; omega)).below hb57⟩
  have HG6 := Aside0.mk hg1
  clear hb7 hg4 hg2 hg3 hb57 hg1 hgl XE
  go_wp2_with fail
  generalize hw8 : w7.setCell ⟨g6, 0, none⟩ _ = w8
  have hmut : MutL W.heap.size (· = g6) w7 (· = g6) := fun k hk => by subst hk; exact ⟨Nat.le_trans HF5.out.base_le HG6.out, fun _ => rfl⟩
  have HO8 : Aside0 (Only (· = g6) w7 w8) := ⟨by rw [← hw8]; exact (Only.refl _ w7).set1 0 _⟩
  have HF8 : Aside0 (FSat W.heap.size (· = g6) w8 F fp5 (ownS2 l0 false) 2) := ⟨HF7.out.onlyL HO8.out hmut (fun k hk h5 => by subst hk; have := HF5.out.lt _ h5; have := HG6.out; omega)⟩
  have HA8 : Aside0 (RB W.heap.size (· = g6) w8 (.slice (some ad) l0.length c0) l0) := ⟨HA7.out.onlyL HO8.out hmut⟩
  have hs8 : w8.heap.size = w7.heap.size := by rw [← hw8]; simp
  have HS8 := Aside0.mk hs8
  clear hw8 hg5 hg6 hmut hs8
  go_wp2_with fail
  have XK : Aside0 (Calls Try.prog 20 #[ptr F, .slice (some ⟨w8.heap.size, 0, none⟩) 1 1] (w8.alloc (.cells #[.bool true] 4)) fun e w' => e = .returned (.tuple #[]) ∧ FSat W.heap.size (· = g6) w' F fp5 (crashP (ownS2 l0 false) [true]) 2 ∧ Only fp5 (w8.alloc (.cells #[.bool true] 4)) w') :=
    ⟨(HF8.out.below (below_alloc (Below.refl _ _) _)).crash (by omega) (keep := [true]) (Gk := w8.heap.size) (ok := 0) (fun _ => rfl) (fun i hi => by
      have hb := Blk.new w8 4 #[.bool true]
      rcases i with _ | i
      · exact hb.cell 0 rfl
      · simp at hi) (fun _ hg => by have := HF8.out.lt _ hg; omega) (by decide)⟩
  rw [show (Value.slice (some ⟨w8.heap.size, 0, none⟩) 1 1) = Value.slice (some ⟨w7.heap.size, 0, none⟩) 1 1 from by rw [HS8.out]] at XK
  go_at_call 20
  with_reducible refine (XK.out).mono ?_
  rintro e w9 ⟨rfl, hf9, ho9⟩
  have HF9 := Aside0.mk hf9
  have HO9 := Aside0.mk ho9
  have HA9 := Aside0.mk ((HA8.out.below (below_alloc (Below.refl _ _) (.cells #[.bool true] 4))).only ho9 (HF8.out.below (below_alloc (Below.refl _ _) (.cells #[.bool true] 4))).mut)
  clear hf9 ho9 XK
  have XR := Aside0.mk (HF9.out.read (by omega) nA)
  rw [own_crash l0 false] at XR
  go_wp2_with fail
  go_at_call 18
  refine (XR.out).mono ?_
  rintro e w10 ⟨v10, rfl, ho10, hb10⟩
  have HO10 : Aside0 (Own w10 w9.heap.size v10 l0) := ⟨ho10⟩
  have HB10 := Aside0.mk hb10
  have HA10 := Aside0.mk (HA9.out.below hb10)
  clear ho10 hb10 XR
  go_wp2_with fail
  have XL := Aside0.mk (alive_walk w10)
  go_at_call 11
  with_reducible refine (XL.out).mono ?_
  rintro e w11 ⟨rfl, hb11⟩
  have HB11 := Aside0.mk hb11
  clear hb11 XL
  have XE := Aside0.mk (equal_calls ((RB.of_R (base := W.heap.size) (Lz := NoL) HO10.out (fun _ _ h => h)).below HB11.out) (HA10.out.below HB11.out).noL rfl)
  go_wp2_with fail
  go_at_call 21
  refine (XE.out).mono ?_
  rintro e w12 ⟨rfl, hb12⟩
  have HEND : Aside0 (Below W.heap.size W w12) := ⟨by
    have b2 := HB1.out.trans (HB2.out.mono HF1.out.base_le)
    have b3 := bo b2 HO3.out HFP.out HF2.out.base_le
    have b4 := bo b3 HO4.out (fun k hk => by subst hk; exact Nat.le_trans HF1.out.base_le HG.out) HF3.out.base_le
    have b5 := b4.trans HB5.out
    have b6 := b5.trans (HB6.out.mono HF5.out.base_le)
    have b7 := b6.trans (HB7.out.mono (Nat.le_trans HF5.out.base_le HB6.out.size))
    have b8 := bo b7 HO8.out (fun k hk => by subst hk; exact Nat.le_trans HF5.out.base_le HG6.out) HF7.out.base_le
    have a9 := below_alloc' b8 HF8.out.base_le (.cells #[.bool true] 4)
    have b9 := bo a9.1 HO9.out (fun k hk => (HF8.out.mut k hk).1) a9.2
    have b10 := b9.trans (HB10.out.mono HF9.out.base_le)
    have b11 := b10.trans (HB11.out.mono (Nat.le_trans HF9.out.base_le HB10.out.size))
    exact b11.trans (hb12.mono (Nat.le_trans (Nat.le_trans HF9.out.base_le HB10.out.size) HB11.out.size))⟩
  clear hb12 XE
  go_wp2
  go_ret
  exact ⟨rfl, HEND.out⟩

set_option maxRecDepth 100000 in
set_option maxHeartbeats 1000000 in
theorem own_out {W : World} {A0 : Option Addr} {c0 : Nat} {l0 : List Int} (a1 : Bool) (hl : l0.length < 1 ∨ (1 ≤ l0.length ∧ 1000 < l0.length)) :
    Calls Try.prog 8 #[.slice A0 l0.length c0, .bool a1] W fun e w' => e = .returned (.bool true) ∧ Below W.heap.size W w' := by
  have XN := Aside0.mk (fsat_new (base := W.heap.size) (Lz := NoL) (w := W) (Nat.le_refl _) (fun _ h => h.elim))
  rcases hl with hl | ⟨hl1, hl⟩
  all_goals
    go_enter Try.func8, Try.ntmps8
    go_wp2_with fail
    go_at_call 12
    with_reducible refine (XN.out).mono ?_
    rintro e w1 ⟨F, fp, rfl, hf1, hfp, hb1⟩
    have HB1 := Aside0.mk hb1
    clear hf1 hfp hb1
    go_wp2_with fail
    have XL := Aside0.mk (alive_walk w1)
    go_at_call 11
    with_reducible refine (XL.out).mono ?_
    rintro e w2 ⟨rfl, hb2⟩
    have HB2 := Aside0.mk hb2
    clear hb2 XL
    go_wp2
    go_ret
    exact ⟨rfl, HB1.out.trans (HB2.out.mono HB1.out.size)⟩

theorem fileOwn_walk {W : World} {A0 : Option Addr} {c0 : Nat} {l0 : List Int} (a1 : Bool) (hc0 : l0.length ≤ c0) (hC0 : u8.C W A0 l0.length l0) :
    Calls Try.prog 8 #[.slice A0 l0.length c0, .bool a1] W fun e w' => e = .returned (.bool true) ∧ Below W.heap.size W w' := by
  by_cases h1 : l0.length < 1
  · exact own_out a1 (.inl h1)
  by_cases h2 : 1000 < l0.length
  · exact own_out a1 (.inr ⟨by omega, h2⟩)
  obtain ⟨ad, rfl, _⟩ := hC0.2.2 (by omega)
  cases a1
  · exact own_walk_false hc0 hC0 (by omega) (by omega)
  · exact own_walk_true hc0 hC0 (by omega) (by omega)

end Go.Proofs.Ytcpkoajnepijkaa
