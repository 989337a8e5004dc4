/- FileDown, by the plain model; a call of a script by its kind. No conditions. -/
import Derived.Test.YtcpkoajnepijkaaScript
namespace Go.Proofs.Ytcpkoajnepijkaa
set_option linter.unusedVariables false
set_option linter.unusedSimpArgs false
open Go.RowKit Go.Proofs.YtcpkoajnepijkaaL Go.Proofs.YtcpkoajnepijkaaW.PrintWords Go.Proofs.Ytcpkoajnepijkaa.Q

def doP (S : PS) (x : S34) : Int × PS :=
  if x.f0 = 0 then writeP S x.f1 x.f3 else if x.f0 = 1 then syncP S x.f1 else if x.f0 = 2 then renameP S x.f1 x.f2 else if x.f0 = 3 then removeP S x.f1 else cutP S x.f1 x.f4
theorem does_do {base : Nat} {Lz : Nat → Prop} {w : World} {F : Nat} {fp : Nat → Prop} {S : PS} {k : Nat} (h : FSat base Lz w F fp S k) (hk : k ≤ 100000) (x : S34) (h0 : 0 ≤ x.f0) (h4 : x.f0 ≤ 4) {A3 A5 : Option Addr} {c3 c5 : Nat} (hb : RB base NoL w (.slice A3 x.f3.length c3) x.f3) (hbl : x.f3.length ≤ 65536) :
    Calls Try.prog 16 #[ptr F, .agg #[.int .i64 x.f0, .string x.f1, .string x.f2, .slice A3 x.f3.length c3, .int .i64 x.f4, .slice A5 x.f5.length c5]] w fun e w' => LeftD base Lz w F fp (k + 1) e w' (doP S x) := by
  obtain ⟨f0, f1, f2, f3, f4, f5⟩ := x
  simp only at h0 h4 hb hbl ⊢
  have hc : f0 = 0 ∨ f0 = 1 ∨ f0 = 2 ∨ f0 = 3 ∨ f0 = 4 := by omega
  rcases hc with rfl | rfl | rfl | rfl | rfl
  · exact does_write h hk hb hbl
  · exact does_sync h hk
  · exact does_rename h hk
  · exact does_remove h hk
  · exact does_cut h hk
theorem WellP.do_ {S : PS} (h : WellP S) (x : S34) : WellP (doP S x).2 := by
  unfold doP
  split
  · exact h.write _ _
  split
  · exact h.sync _
  split
  · exact h.rename _ _
  split
  · exact h.remove _
  · exact h.cut _ _

theorem begin_down {S : PS} (h : S.down = true) (s : ByteArray) (may : Bool) : beginP S s may = (none, 100, S) := by simp [beginP, h]
theorem do_down {S : PS} (h : S.down = true) (x : S34) : doP S x = (100, S) := by
  unfold doP
  simp [writeP, syncP, renameP, removeP, cutP, begin_down h, h]
/-- How an op counts. -/
def CountP (S : PS) (r : Int × PS) : Prop := (r.1 ≠ 100 ∧ r.2.ops = S.ops ∧ r.2.fuse = S.fuse ∧ r.2.down = false) ∨ (r.2.ops = S.ops + 1 ∧ r.2.fuse = decP S.fuse ∧ r.2.down = (S.fuse == 0) ∧ (r.1 = 100 ↔ S.fuse = 0))
theorem begin_up {S : PS} (h : S.down = false) (s : ByteArray) (may : Bool) : beginP S s may = (none, 101, S) ∨ (S.fuse = 0 ∧ beginP S s may = (none, 100, countP S)) ∨ (S.fuse ≠ 0 ∧ ∃ f, beginP S s may = (some f, 0, countP S)) := by
  unfold beginP
  rw [if_neg (by simp [h])]
  cases findP s S.l with
  | none => exact .inl rfl
  | some f =>
    simp only
    cases may with
    | false => exact .inl rfl
    | true =>
      by_cases hf : S.fuse = 0
      · right; left; exact ⟨hf, by simp [hf]⟩
      · right; right; exact ⟨hf, f, by simp [hf]⟩
theorem count_up {S : PS} : (countP S).ops = S.ops + 1 ∧ (countP S).fuse = decP S.fuse ∧ (countP S).down = (S.fuse == 0) := ⟨rfl, rfl, rfl⟩
theorem do_up {S : PS} (h : S.down = false) (x : S34) : CountP S (doP S x) := by
  have hb : ∀ (s : ByteArray) (may : Bool) (g : Option PF × Int × PS → Int × PS), (∀ n S', g (none, n, S') = (n, S')) → (∀ f n S', ∃ l, g (some f, n, S') = (n, { S' with l := l })) → CountP S (g (beginP S s may)) := by
    intro s may g g1 g2
    rcases begin_up h s may with e | ⟨h0, e⟩ | ⟨h0, f, e⟩
    · rw [e, g1]; exact .inl ⟨by simp, rfl, rfl, h⟩
    · rw [e, g1]; exact .inr ⟨rfl, rfl, rfl, by simp [h0]⟩
    · obtain ⟨l, e2⟩ := g2 f 0 (countP S)
      rw [e, e2]
      exact .inr ⟨rfl, rfl, rfl, by simp [h0]⟩
  unfold doP
  split
  · unfold writeP
    rw [if_neg (by simp [h])]
    split
    · exact .inl ⟨by simp, rfl, rfl, h⟩
    simp only
    split
    · exact .inl ⟨by simp, rfl, rfl, h⟩
    split
    · refine .inr ⟨rfl, rfl, rfl, ?_⟩
      by_cases hf : S.fuse = 0 <;> simp [hf]
    · refine .inr ⟨rfl, rfl, rfl, ?_⟩
      by_cases hf : S.fuse = 0 <;> simp [hf]
  split
  · exact hb x.f1 true (fun r => match r with | (some f, n, S') => (n, { S' with l := withP { f with b := bytesP f, row := [] } S'.l }) | (none, n, S') => (n, S')) (fun _ _ => rfl) (fun f n S' => ⟨_, rfl⟩)
  split
  · exact hb x.f1 (namedB x.f2) (fun r => match r with | (some f, n, S') => (n, { S' with l := withP { f with name := x.f2 } (withoutP x.f1 S'.l) }) | (none, n, S') => (n, S')) (fun _ _ => rfl) (fun f n S' => ⟨_, rfl⟩)
  split
  · exact hb x.f1 true (fun r => match r with | (some _, n, S') => (n, { S' with l := withoutP x.f1 S'.l }) | (none, n, S') => (n, S')) (fun _ _ => rfl) (fun f n S' => ⟨_, rfl⟩)
  · exact hb x.f1 true (fun r => match r with | (some f, n, S') => (n, { S' with l := withP { f with b := (bytesP f).take (cutN x.f4 (bytesP f).length), row := [] } S'.l }) | (none, n, S') => (n, S')) (fun _ _ => rfl) (fun f n S' => ⟨_, rfl⟩)

/-- How a file system stands to what was armed. -/
def DInv (n : Int) (S : PS) : Prop := (n < 0 ∧ S.fuse = -1 ∧ S.down = false) ∨ (0 ≤ n ∧ S.down = false ∧ (S.ops : Int) ≤ n ∧ S.fuse = n - S.ops) ∨ (0 ≤ n ∧ S.down = true ∧ (S.ops : Int) = n + 1)
theorem dinv_zero (n : Int) : DInv n (armP newP n) := by
  unfold DInv armP newP
  by_cases h : n < 0
  · refine .inl ⟨h, ?_, rfl⟩
    simp only
    split <;> omega
  · refine .inr (.inl ⟨by omega, rfl, by simp; omega, ?_⟩)
    simp only
    rw [if_neg (by omega)]
    simp
/-- What one round may be. -/
theorem dinv_step {n : Int} {S : PS} (h : DInv n S) (x : S34) : DInv n (doP S x).2 ∧
    ((S.down = true ∧ doP S x = (100, S) ∧ 0 ≤ n ∧ n < (S.ops : Int)) ∨
     (S.down = false ∧ (doP S x).1 = 100 ∧ (doP S x).2.down = true ∧ 0 ≤ n ∧ n < ((doP S x).2.ops : Int)) ∨
     (S.down = false ∧ (doP S x).1 ≠ 100 ∧ (doP S x).2.down = false ∧ n < 0) ∨
     (S.down = false ∧ (doP S x).1 ≠ 100 ∧ (doP S x).2.down = false ∧ 0 ≤ n ∧ ((doP S x).2.ops : Int) ≤ n)) := by
  rcases h with ⟨h1, h2, h3⟩ | ⟨h1, h2, h3, h4⟩ | ⟨h1, h2, h3⟩
  · rcases do_up h3 x with ⟨a, b, c, d⟩ | ⟨a, b, c, d⟩
    · exact ⟨.inl ⟨h1, by rw [c, h2], d⟩, .inr (.inr (.inl ⟨h3, a, d, h1⟩))⟩
    · rw [h2] at b c d
      exact ⟨.inl ⟨h1, by rw [b]; rfl, by rw [c]; rfl⟩, .inr (.inr (.inl ⟨h3, fun e => by have := d.1 e; omega, by rw [c]; rfl, h1⟩))⟩
  · rcases do_up h2 x with ⟨a, b, c, d⟩ | ⟨a, b, c, d⟩
    · exact ⟨.inr (.inl ⟨h1, d, by rw [b]; exact h3, by rw [c, b]; exact h4⟩), .inr (.inr (.inr ⟨h2, a, d, h1, by rw [b]; exact h3⟩))⟩
    · by_cases hf : S.fuse = 0
      · have e : (doP S x).2.down = true := by rw [c, hf]; rfl
        exact ⟨.inr (.inr ⟨h1, e, by rw [a]; omega⟩), .inr (.inl ⟨h2, d.2 hf, e, h1, by rw [a]; omega⟩)⟩
      · have e : (doP S x).2.down = false := by rw [c]; simp [hf]
        have hd : decP S.fuse = n - (S.ops + 1 : Nat) := by unfold decP; split <;> omega
        exact ⟨.inr (.inl ⟨h1, e, by rw [a]; omega, by rw [b, a, hd]⟩), .inr (.inr (.inr ⟨h2, fun e' => hf (d.1 e'), e, h1, by rw [a]; omega⟩))⟩
  · rw [do_down h2 x]
    exact ⟨.inr (.inr ⟨h1, h2, h3⟩), .inl ⟨h2, rfl, h1, by omega⟩⟩
theorem down_end (S : PS) : (crashP S []).down = false ∧ (writeP (crashP S []) nA []).1 ≠ 100 := by
  refine ⟨rfl, ?_⟩
  unfold writeP
  rw [if_neg (by simp [crashP])]
  split
  · simp
  simp only
  split
  · simp
  split
  · simp [crashP]
  · simp [crashP]

end Go.Proofs.Ytcpkoajnepijkaa

namespace Go.Proofs.Ytcpkoajnepijkaa
set_option linter.unusedVariables false
set_option linter.unusedSimpArgs false
open Go.RowKit Go.Proofs.YtcpkoajnepijkaaL Go.Proofs.YtcpkoajnepijkaaW.PrintWords Go.Proofs.Ytcpkoajnepijkaa.Q

/-- What holds at the head of a round. -/
structure DHead (W : World) (F : Nat) (n : Int) (j : Nat) (w : World) (fp : Nat → Prop) (S : PS) : Prop where
  fs : FSat W.heap.size NoL w F fp S j
  well : WellP S
  inv : DInv n S
  bel : Below W.heap.size W w

set_option maxRecDepth 100000 in
set_option maxHeartbeats 4000000 in
theorem down_walk {W : World} {A0 : Option Addr} {c0 : Nat} {l0 : List S34} {n : Int} (hr0 : Kd.C k34 W A0 l0.length l0) (hc0 : l0.length ≤ c0) (hfew : FewP l0) {kf : Nat} (hf : souffleurlaw10_few.f kf l0 = some true) (hn1 : n ≤ 1000) :
    Calls Try.prog 6 #[.slice A0 l0.length c0, .int .i64 n] W fun e w' => e = .returned (.bool true) ∧ Below W.heap.size W w' := by
  have XF := Aside0.mk (souffleurlaw10_few.calls kf A0 c0 l0 true W hr0 hc0 hf)
  have HR0 := Aside0.mk hr0
  have HC0 := Aside0.mk hc0
  have HFW := Aside0.mk hfew
  clear hr0 hc0 hf
  go_enter Try.func6, Try.ntmps6
  go_wp2_with fail
  go_at_call 10
  with_reducible refine (XF.out).mono ?_
  rintro e w0 ⟨rfl, hb0⟩
  have HB0 := Aside0.mk hb0
  clear hb0 XF
  have XN := Aside0.mk (fsat_new (base := W.heap.size) (Lz := NoL) (w := w0) HB0.out.size (fun _ h => h.elim))
  go_wp2_with fail
  go_at_call 12
  with_reducible refine (XN.out).mono ?_
  rintro e w1 ⟨F, fp, rfl, hf1, hfp, hb1⟩
  have HF1 := Aside0.mk hf1
  have HB1 : Aside0 (Below W.heap.size W w1) := ⟨HB0.out.trans (hb1.mono HB0.out.size)⟩
  clear hf1 hfp hb1 XN
  have XA := Aside0.mk (HF1.out.armP (n := n) (by omega))
  go_wp2_with fail
  go_at_call 24
  with_reducible refine (XA.out).mono ?_
  rintro e w2 ⟨rfl, hf2, ho2⟩
  have H0 : Aside0 (DHead W F n 0 w2 fp (armP newP n)) := ⟨⟨hf2, well_new.of rfl, dinv_zero n, bo HB1.out ho2 (fun g hg => (HF1.out.mut g hg).1) HF1.out.base_le⟩⟩
  clear hf2 ho2 XA HF1 HB1
  go_wp2_with fail
  go_loopg [30] l0.length (fun kq v30 w' => ∃ j : Nat, j + kq = l0.length ∧ v30 = .int .i64 j ∧ ∃ fp S, Aside0 (DHead W F n j w' fp S))
  case atStart => exact ⟨0, by omega, rfl, fp, _, H0⟩
  case round =>
    clear H0
    obtain ⟨j, hj, rfl, fpj, S, H⟩ := hrel
    cases gk with
    | zero =>
      have hlt : decide ((j : Int) < (l0.length : Int)) = false := decide_eq_false (by omega)
      have hj80 : j ≤ 80 := by have := HFW.out.1; omega
      have XC := Aside0.mk (H.out.fs.crash (by omega) (keep := []) (Ak := none) (ck := 0) (Gk := 0) (ok := 0) (fun h => absurd h (by decide)) (fun i hi => absurd hi (Nat.not_lt_zero _)) (fun h => absurd h (by decide)) (by decide))
      rw [List.length_nil] at XC
      go_wp2_with fail
      go_at_call 20
      with_reducible refine (XC.out).mono ?_
      rintro e w3 ⟨rfl, hf3, ho3⟩
      have HF3 := Aside0.mk hf3
      have HB3 : Aside0 (Below W.heap.size W w3) := ⟨bo H.out.bel ho3 (fun g hg => (H.out.fs.mut g hg).1) H.out.fs.base_le⟩
      clear hf3 ho3 XC
      go_wp2_with fail
      have XL := Aside0.mk (alive_walk w3)
      go_at_call 11
      with_reducible refine (XL.out).mono ?_
      rintro e w4 ⟨rfl, hb4⟩
      have HF4 := Aside0.mk (HF3.out.below hb4)
      have HB4 : Aside0 (Below W.heap.size W w4) := ⟨HB3.out.trans (hb4.mono HF3.out.base_le)⟩
      clear hb4 XL
      have XD := Aside0.mk HF4.out.down
      rw [(down_end S).1] at XD
      go_wp2_with fail
      go_at_call 25
      with_reducible refine (XD.out).mono ?_
      rintro e w5 ⟨rfl, rfl⟩
      have XW := Aside0.mk (HF4.out.write (by omega) nA (RB.nil W.heap.size NoL w5) (by omega))
      obtain ⟨q, hq⟩ : ∃ q, q = (writeP (crashP S []) nA []).1 := ⟨_, rfl⟩
      have hq1 : (q != 100) = true := by rw [bne_iff_ne, hq]; exact (down_end S).2
      have hq2 : (q == 100) = false := by rw [beq_eq_false_iff_ne, hq]; exact (down_end S).2
      rw [← hq] at XW
      clear hq
      go_wp2_with fail
      go_at_call 23
      refine (XW.out).mono ?_
      rintro e w6 ⟨rfl, _, ho6⟩
      have HEND : Aside0 (Below W.heap.size W w6) := ⟨bo HB4.out ho6 (fun g hg => (HF4.out.mut g hg).1) HF4.out.base_le⟩
      clear ho6 XW
      go_wp2
      go_ret
      exact ⟨rfl, HEND.out⟩
    | succ d =>
      have hlt : decide ((j : Int) < (l0.length : Int)) = true := decide_eq_true (by omega)
      have hjl : j < l0.length := by omega
      obtain ⟨ad, A3, c3, A5, c5, e0, x0, x1, x2, x3, x4, x5, l3, r3, l5, r5⟩ := at_T34 HR0.out (j : Int) (by omega) (by omega)
      rw [rd_T34_get hjl] at x0 x1 x2 x3 x4 x5 l3 r3 l5 r5
      rw [Int.toNat_natCast] at x0 x1 x2 x3 x4 x5
      subst e0
      have HX := Aside0.mk (show FewP l0 from HFW.out)
      have hx8 := HFW.out.2 _ (List.getElem_mem hjl)
      have HRB : Aside0 (RB W.heap.size AllL W (.slice A3 (l0[j]).f3.length c3) (l0[j]).f3) := ⟨RB.arg l3 r3⟩
      generalize l0[j] = x at x0 x1 x2 x3 x4 x5 l3 r3 l5 r5 hx8 HRB
      replace x0 := (H.out.bel.cell (World.block_lt_of_cell? W _ x0)).trans x0
      replace x1 := (H.out.bel.cell (World.block_lt_of_cell? W _ x1)).trans x1
      replace x2 := (H.out.bel.cell (World.block_lt_of_cell? W _ x2)).trans x2
      replace x3 := (H.out.bel.cell (World.block_lt_of_cell? W _ x3)).trans x3
      replace x4 := (H.out.bel.cell (World.block_lt_of_cell? W _ x4)).trans x4
      replace x5 := (H.out.bel.cell (World.block_lt_of_cell? W _ x5)).trans x5
      have hz : szOf x = (x.f3.length : Int) + x.f5.length + x.f1.size + x.f2.size := rfl
      have hx3 : x.f3.length ≤ 65536 := by omega
      clear l3 r3 l5 r5 HX hx8 hz
      by_cases hkd : 0 ≤ x.f0 ∧ x.f0 ≤ 4
      · obtain ⟨hk0, hk4⟩ := hkd
        have hj80 : j ≤ 80 := by have := HFW.out.1; omega
        have HFA := Aside0.mk (H.out.fs.below (below_alloc (Below.refl _ _) (.cells #[.int .i64 x.f0, .string x.f1, .string x.f2, .slice A3 x.f3.length c3, .int .i64 x.f4, .slice A5 x.f5.length c5] 34)))
        have HBA := Aside0.mk (below_alloc' H.out.bel H.out.fs.base_le (.cells #[.int .i64 x.f0, .string x.f1, .string x.f2, .slice A3 x.f3.length c3, .int .i64 x.f4, .slice A5 x.f5.length c5] 34))
        have HWL := Aside0.mk H.out.well
        have HIV := Aside0.mk H.out.inv
        have XD := Aside0.mk HFA.out.down
        have XO := Aside0.mk HFA.out.ops
        have XN := Aside0.mk (HFA.out.names HWL.out)
        clear H
        go_wp2_with fail
        go_at_call 25
        with_reducible refine (XD.out).mono ?_
        rintro e w3 ⟨rfl, rfl⟩
        go_wp2_with fail
        go_at_call 26
        with_reducible refine (XO.out).mono ?_
        rintro e w3 ⟨rfl, rfl⟩
        go_wp2_with fail
        go_at_call 27
        with_reducible refine (XN.out).mono ?_
        rintro e w3 ⟨v3, rfl, ho3, hb3⟩
        obtain ⟨AN, cN, rfl, _⟩ := own_slice ho3
        have HF3 := Aside0.mk (HFA.out.below hb3)
        have HB3 : Aside0 (Below W.heap.size W w3) := ⟨HBA.out.1.trans (hb3.mono HFA.out.base_le)⟩
        have hc3 : ∀ i, w3.cell? ⟨wr.heap.size, i, none⟩ = (wr.alloc (.cells #[.int .i64 x.f0, .string x.f1, .string x.f2, .slice A3 x.f3.length c3, .int .i64 x.f4, .slice A5 x.f5.length c5] 34)).cell? ⟨wr.heap.size, i, none⟩ := fun i => hb3.cell (p := ⟨wr.heap.size, i, none⟩) (by simp)
        have hbn := Blk.new wr 34 #[.int .i64 x.f0, .string x.f1, .string x.f2, .slice A3 x.f3.length c3, .int .i64 x.f4, .slice A5 x.f5.length c5]
        have y0 := (hc3 0).trans (hbn.cell 0 rfl)
        have y1 := (hc3 1).trans (hbn.cell 1 rfl)
        have y2 := (hc3 2).trans (hbn.cell 2 rfl)
        have y3 := (hc3 3).trans (hbn.cell 3 rfl)
        have y4 := (hc3 4).trans (hbn.cell 4 rfl)
        have y5 := (hc3 5).trans (hbn.cell 5 rfl)
        clear ho3 hb3 hc3 hbn XD XO XN
        have XP := Aside0.mk HF3.out.pending
        go_wp2_with fail
        go_at_call 22
        with_reducible refine (XP.out).mono ?_
        rintro e w4 ⟨rfl, rfl⟩
        have XQ := Aside0.mk (does_do (A5 := A5) (c5 := c5) HF3.out (by omega) x hk0 hk4 (HRB.out.any.below HB3.out) hx3)
        obtain ⟨hiv', hcase⟩ := dinv_step HIV.out x
        have HIV' := Aside0.mk hiv'
        have HWL' := Aside0.mk (HWL.out.do_ x)
        clear hiv' XP
        unfold LeftD at XQ
        rcases hcase with ⟨d1, d2, d3, d4⟩ | ⟨d1, d2, d3, d4, d5⟩ | ⟨d1, d2, d3, d4⟩ | ⟨d1, d2, d3, d4, d5⟩
        · rw [d2] at XQ HIV' HWL'
          have HD1 := Aside0.mk d1
          rw [d1]
          clear d1 d2
          go_wp2_with fail
          go_at_call 16
          with_reducible refine (XQ.out).mono ?_
          rintro e w5 ⟨rfl, ⟨fp5, hf5, _⟩, ho5⟩
          have HF5 := Aside0.mk hf5
          have HB5 : Aside0 (Below W.heap.size W w5) := ⟨bo HB3.out ho5 (fun g hg => (HF3.out.mut g hg).1) HF3.out.base_le⟩
          clear hf5 ho5 XQ
          have XO := Aside0.mk HF5.out.ops
          have XN := Aside0.mk (HF5.out.names HWL'.out)
          have hgo : ((S.ops : Int) == (S.ops : Int)) = true := beq_self_eq_true _
          go_wp2_with fail
          go_at_call 26
          with_reducible refine (XO.out).mono ?_
          rintro e w6 ⟨rfl, rfl⟩
          go_wp2_with fail
          go_at_call 27
          with_reducible refine (XN.out).mono ?_
          rintro e w6 ⟨v6, rfl, ho6, hb6⟩
          obtain ⟨AM, cM, rfl, _⟩ := own_slice ho6
          have HF6 := Aside0.mk (HF5.out.below hb6)
          have HB6 : Aside0 (Below W.heap.size W w6) := ⟨HB5.out.trans (hb6.mono HF5.out.base_le)⟩
          clear ho6 hb6 XO XN
          have XP := Aside0.mk HF6.out.pending
          go_wp2_with fail
          go_at_call 22
          with_reducible refine (XP.out).mono ?_
          rintro e w7 ⟨rfl, rfl⟩
          have XD := Aside0.mk HF6.out.down
          have XO := Aside0.mk HF6.out.ops
          rw [HD1.out] at XD
          go_wp2_with fail
          go_at_call 25
          with_reducible refine (XD.out).mono ?_
          rintro e w8 ⟨rfl, rfl⟩
          go_wp2_with fail
          go_at_call 26
          with_reducible refine (XO.out).mono ?_
          rintro e w8 ⟨rfl, rfl⟩
          go_wp2
          go_roundg d
          case measure => omega
          case rel => exact ⟨j + 1, by omega, by go_num, _, _, ⟨HF6.out, HWL'.out, HIV'.out, HB6.out⟩⟩
        · obtain ⟨S', hS'⟩ : ∃ S', S' = (doP S x).2 := ⟨_, rfl⟩
          obtain ⟨q, hq⟩ : ∃ q, q = (doP S x).1 := ⟨_, rfl⟩
          rw [← hS'] at XQ HIV' HWL' d3 d5
          rw [← hq] at XQ d2
          rw [d1]
          clear hS' hq d1
          subst d2
          have HD3 := Aside0.mk d3
          clear d3
          go_wp2_with fail
          go_at_call 16
          with_reducible refine (XQ.out).mono ?_
          rintro e w5 ⟨rfl, ⟨fp5, hf5, _⟩, ho5⟩
          have HF5 := Aside0.mk hf5
          have HB5 : Aside0 (Below W.heap.size W w5) := ⟨bo HB3.out ho5 (fun g hg => (HF3.out.mut g hg).1) HF3.out.base_le⟩
          clear hf5 ho5 XQ
          have XD := Aside0.mk HF5.out.down
          have XO := Aside0.mk HF5.out.ops
          rw [HD3.out] at XD
          go_wp2_with fail
          go_at_call 25
          with_reducible refine (XD.out).mono ?_
          rintro e w6 ⟨rfl, rfl⟩
          go_wp2_with fail
          go_at_call 26
          with_reducible refine (XO.out).mono ?_
          rintro e w6 ⟨rfl, rfl⟩
          go_wp2_with fail
          go_at_call 25
          with_reducible refine (XD.out).mono ?_
          rintro e w6 ⟨rfl, rfl⟩
          go_wp2
          go_roundg d
          case measure => omega
          case rel => exact ⟨j + 1, by omega, by go_num, _, _, ⟨HF5.out, HWL'.out, HIV'.out, HB5.out⟩⟩
        · obtain ⟨S', hS'⟩ : ∃ S', S' = (doP S x).2 := ⟨_, rfl⟩
          obtain ⟨q, hq⟩ : ∃ q, q = (doP S x).1 := ⟨_, rfl⟩
          rw [← hS'] at XQ HIV' HWL' d3
          rw [← hq] at XQ d2
          rw [d1]
          clear hS' hq d1
          have hq1 : (q == 100) = false := by rw [beq_eq_false_iff_ne]; exact d2
          have hq2 : (q != 100) = true := by rw [bne_iff_ne]; exact d2
          clear d2
          have HD3 := Aside0.mk d3
          clear d3
          go_wp2_with fail
          go_at_call 16
          with_reducible refine (XQ.out).mono ?_
          rintro e w5 ⟨rfl, ⟨fp5, hf5, _⟩, ho5⟩
          have HF5 := Aside0.mk hf5
          have HB5 : Aside0 (Below W.heap.size W w5) := ⟨bo HB3.out ho5 (fun g hg => (HF3.out.mut g hg).1) HF3.out.base_le⟩
          clear hf5 ho5 XQ
          have XD := Aside0.mk HF5.out.down
          have XO := Aside0.mk HF5.out.ops
          rw [HD3.out] at XD
          go_wp2_with fail
          go_at_call 25
          with_reducible refine (XD.out).mono ?_
          rintro e w6 ⟨rfl, rfl⟩
          go_wp2_with fail
          go_at_call 25
          with_reducible refine (XD.out).mono ?_
          rintro e w6 ⟨rfl, rfl⟩
          go_wp2
          go_roundg d
          case measure => omega
          case rel => exact ⟨j + 1, by omega, by go_num, _, _, ⟨HF5.out, HWL'.out, HIV'.out, HB5.out⟩⟩
        · obtain ⟨S', hS'⟩ : ∃ S', S' = (doP S x).2 := ⟨_, rfl⟩
          obtain ⟨q, hq⟩ : ∃ q, q = (doP S x).1 := ⟨_, rfl⟩
          rw [← hS'] at XQ HIV' HWL' d3 d5
          rw [← hq] at XQ d2
          rw [d1]
          clear hS' hq d1
          have hq1 : (q == 100) = false := by rw [beq_eq_false_iff_ne]; exact d2
          have hq2 : (q != 100) = true := by rw [bne_iff_ne]; exact d2
          clear d2
          have HD3 := Aside0.mk d3
          clear d3
          go_wp2_with fail
          go_at_call 16
          with_reducible refine (XQ.out).mono ?_
          rintro e w5 ⟨rfl, ⟨fp5, hf5, _⟩, ho5⟩
          have HF5 := Aside0.mk hf5
          have HB5 : Aside0 (Below W.heap.size W w5) := ⟨bo HB3.out ho5 (fun g hg => (HF3.out.mut g hg).1) HF3.out.base_le⟩
          clear hf5 ho5 XQ
          have XD := Aside0.mk HF5.out.down
          have XO := Aside0.mk HF5.out.ops
          rw [HD3.out] at XD
          go_wp2_with fail
          go_at_call 25
          with_reducible refine (XD.out).mono ?_
          rintro e w6 ⟨rfl, rfl⟩
          go_wp2_with fail
          go_at_call 26
          with_reducible refine (XO.out).mono ?_
          rintro e w6 ⟨rfl, rfl⟩
          go_wp2_with fail
          go_at_call 25
          with_reducible refine (XD.out).mono ?_
          rintro e w6 ⟨rfl, rfl⟩
          go_wp2
          go_roundg d
          case measure => omega
          case rel => exact ⟨j + 1, by omega, by go_num, _, _, ⟨HF5.out, HWL'.out, HIV'.out, HB5.out⟩⟩
      · have hor : (decide (x.f0 < 0) || decide (4 < x.f0)) = true := by
          rcases Int.lt_or_le x.f0 0 with h | h
          · simp [h]
          · have : 4 < x.f0 := by omega
            simp [this]
        have HN : Aside0 (DHead W F n (j + 1) (wr.alloc (.cells #[.int .i64 x.f0, .string x.f1, .string x.f2, .slice A3 x.f3.length c3, .int .i64 x.f4, .slice A5 x.f5.length c5] 34)) fpj S) := ⟨⟨(H.out.fs.below (below_alloc (Below.refl _ _) _)).mono (Nat.le_succ _), H.out.well, H.out.inv, (below_alloc' H.out.bel H.out.fs.base_le _).1⟩⟩
        have HJ := Aside0.mk hj
        have hj80 : j ≤ 80 := by have := HFW.out.1; omega
        clear hkd hj
        go_wp2
        all_goals
          go_roundg d
          case measure => omega
          case rel => exact ⟨j + 1, by have := HJ.out; omega, by go_num, _, _, HN⟩

end Go.Proofs.Ytcpkoajnepijkaa

namespace Go.Proofs.Ytcpkoajnepijkaa
set_option linter.unusedVariables false
set_option linter.unusedSimpArgs false
open Go.RowKit Go.Proofs.YtcpkoajnepijkaaL Go.Proofs.YtcpkoajnepijkaaW.PrintWords Go.Proofs.Ytcpkoajnepijkaa.Q

set_option maxRecDepth 100000 in
set_option maxHeartbeats 2000000 in
theorem down_out {W : World} {A0 : Option Addr} {c0 : Nat} {l0 : List S34} {n : Int} (hr0 : Kd.C k34 W A0 l0.length l0) (hc0 : l0.length ≤ c0) {r : Bool} {kf : Nat} (hf : souffleurlaw10_few.f kf l0 = some r) (h : r = false ∨ (r = true ∧ 1000 < n)) :
    Calls Try.prog 6 #[.slice A0 l0.length c0, .int .i64 n] W fun e w' => e = .returned (.bool true) ∧ Below W.heap.size W w' := by
  have XF := Aside0.mk (souffleurlaw10_few.calls kf A0 c0 l0 r W hr0 hc0 hf)
  clear hf hr0
  rcases h with rfl | ⟨rfl, h⟩
  all_goals
    go_enter Try.func6, Try.ntmps6
    go_wp2_with fail
    go_at_call 10
    with_reducible refine (XF.out).mono ?_
    rintro e w1 ⟨rfl, hb1⟩
    have HB1 := Aside0.mk hb1
    clear hb1
    go_wp2_with fail
    have XL := Aside0.mk (alive_walk w1)
    go_at_call 11
    with_reducible refine (XL.out).mono ?_
    rintro e w2 ⟨rfl, hb2⟩
    have HB2 := Aside0.mk hb2
    clear hb2 XL
    go_wp2
    go_ret
    exact ⟨rfl, HB1.out.trans (HB2.out.mono HB1.out.size)⟩

theorem fileDown_walk {W : World} {A0 : Option Addr} {c0 : Nat} {l0 : List S34} (n : Int) (hc0 : l0.length ≤ c0) (hr0 : Kd.C k34 W A0 l0.length l0) (hs : l0.length * Try.prog.bytesOf 34 ≤ reachBytes ∧ ∀ x ∈ l0, SizedS x) :
    Calls Try.prog 6 #[.slice A0 l0.length c0, .int .i64 n] W fun e w' => e = .returned (.bool true) ∧ Below W.heap.size W w' := by
  obtain ⟨kf, r, hf, hr⟩ := few_tells l0 (by have := Kd.C_max hr0; have h1 := hs.1; rw [show Try.prog.bytesOf 34 = 96 from by kernel_rfl] at h1; unfold reachBytes at h1; omega) hs.2
  cases r with
  | false => exact down_out hr0 hc0 hf (.inl rfl)
  | true =>
    by_cases h : n ≤ 1000
    · exact down_walk hr0 hc0 (hr rfl) hf h
    · exact down_out hr0 hc0 hf (.inr ⟨rfl, by omega⟩)

end Go.Proofs.Ytcpkoajnepijkaa
