/- Parts of the proof of the law that the last file states; declarations that nothing mentions are left out by a program. No conditions. -/
import Derived.Test.YtcpkoajnepijkaaKeepPk
import Derived.Test.YtcpkoajnepijkaaLRangek
import Derived.Test.YtcpkoajnepijkaaFileAk
namespace Go.Proofs.Ytcpkoajnepijkaa
set_option linter.unusedVariables false
set_option linter.unusedSimpArgs false
open Go.RowKit Go.Proofs.YtcpkoajnepijkaaL Go.Proofs.YtcpkoajnepijkaaW.PrintWords Go.Proofs.Ytcpkoajnepijkaa.Q
structure KMid (W : World) (F g4 j : Nat) (w : World) (fp : Nat → Prop) (A : Option Addr) (m c : Nat) (S0 S1 : PS) : Prop where
  fs : FSat W.heap.size NoL w F fp S1 j
  inv : DInv (-1) S1
  len : S1.l.length ≤ j ∧ S1.no ≤ j
  box : Blk w g4 29 #[.slice A m c, .int .i64 S0.no, .int .i64 S0.ops, .int .i64 S0.fuse, .int .i64 S0.fault, .bool S0.down]
  val : Kd.V k47 47 w 0 (fun k => ¬ fp k ∧ k ≠ g4 ∧ k < w.heap.size) (.slice A m c) (S0.l.map toF)
  nfp : ¬ fp g4
  ge : W.heap.size ≤ g4
  bel : Below W.heap.size W w
section
variable {W w w' : World} {F g4 j m c : Nat} {A : Option Addr} {fp : Nat → Prop} {S S0 S1 : PS}
theorem KMid.below (h : KMid W F g4 j w fp A m c S0 S1) (hb : Below w.heap.size w w') : KMid W F g4 j w' fp A m c S0 S1 :=
  ⟨h.fs.below hb, h.inv, h.len, Blk.belowW h.box hb, V_rebase (Kd.V_mono (Kd.V_below h.val hb) (fun k hk => ⟨hk.1, hk.2.1, Nat.lt_of_lt_of_le hk.2.2 hb.size⟩)), h.nfp, h.ge, h.bel.trans (hb.mono h.fs.base_le)⟩
theorem KMid.later (h : KMid W F g4 j w fp A m c S0 S1) : KMid W F g4 (j + 1) w fp A m c S0 S1 :=
  ⟨h.fs.mono (Nat.le_succ _), h.inv, ⟨Nat.le_succ_of_le h.len.1, Nat.le_succ_of_le h.len.2⟩, h.box, h.val, h.nfp, h.ge, h.bel⟩
theorem keeps_does (h : KMid W F g4 j w fp A m c S S) (hj : j ≤ 100000) (x : S34) (h0 : 0 ≤ x.f0) (h4 : x.f0 ≤ 4) {A3 A5 : Option Addr} {c3 c5 : Nat} (hb : RB W.heap.size AllL W (.slice A3 x.f3.length c3) x.f3) (hbl : x.f3.length ≤ 65536) :
    Calls Try.prog 16 #[ptr F, .agg #[.int .i64 x.f0, .string x.f1, .string x.f2, .slice A3 x.f3.length c3, .int .i64 x.f4, .slice A5 x.f5.length c5]] w fun e w' => e = .returned (.tuple #[ptr F, .int .i64 (doP S x).1]) ∧ (∃ fp', KMid W F g4 (j + 1) w' fp' A m c S (doP S x).2) ∧ Only fp w w' := by
  refine (does_do h.fs hj x h0 h4 (hb.any.below h.bel) hbl).mono ?_
  rintro e w' ⟨rfl, ⟨fp', hf, hfp⟩, ho⟩
  have hmu := h.fs.mut
  have hd := doP_len S x
  have hl := h.len
  refine ⟨rfl, ⟨fp', hf, (dinv_step h.inv x).1, ⟨by omega, by omega⟩, h.box.to (ho.block g4 h.box.lt h.nfp), ?_, fun e => ?_, h.ge, bo h.bel ho (fun g hg => (hmu g hg).1) h.fs.base_le⟩, ho⟩
  · refine Kd.V_mono (Kd.V_map h.val (fun _ hf => Kd.F_step hf (fun k hk hlt => ho.block k hlt hk.1))) (fun k hk => ⟨fun e => ?_, hk.2.1, Nat.lt_of_lt_of_le hk.2.2 ho.size⟩)
    rcases hfp k e with e | e
    · exact hk.1 e
    · have := hk.2.2; omega
  · rcases hfp g4 e with e | e
    · exact h.nfp e
    · have := h.box.lt; omega
theorem keeps_ref (h : KMid W F g4 j w fp A m c S S1) (hB : BoundP S) (hN : NumP S) (x : S34) (h0 : 0 ≤ x.f0) (h4 : x.f0 ≤ 4) {A3 A5 : Option Addr} {c3 c5 : Nat} (l3 : x.f3.length ≤ c3) (r3 : (Kd.int .u8).C W A3 x.f3.length x.f3) (hbl : x.f3.length ≤ 65536) :
    Calls Try.prog 15 #[.agg #[.slice A m c, .int .i64 S.no, .int .i64 S.ops, .int .i64 S.fuse, .int .i64 S.fault, .bool S.down], .agg #[.int .i64 x.f0, .string x.f1, .string x.f2, .slice A3 x.f3.length c3, .int .i64 x.f4, .slice A5 x.f5.length c5]] w fun e w' => ∃ A' m' c', e = .returned (.tuple #[.agg #[.slice A' m' c', .int .i64 (doP S x).2.no, .int .i64 (doP S x).2.ops, .int .i64 (doP S x).2.fuse, .int .i64 (doP S x).2.fault, .bool (doP S x).2.down], .int .i64 (doP S x).1]) ∧
      Kd.V k47 47 w' 0 (fun k => ¬ fp k ∧ k ≠ g4 ∧ k < w'.heap.size) (.slice A' m' c') ((doP S x).2.l.map toF) ∧ Below w.heap.size w w' := by
  have hm := V_len h.val
  have hst : RSt w (fun k => ¬ fp k ∧ k ≠ g4 ∧ k < w.heap.size) (.agg #[.slice A m c, .int .i64 S.no, .int .i64 S.ops, .int .i64 S.fuse, .int .i64 S.fault, .bool S.down]) S := ⟨A, c, by rw [← hm], by rw [← hm]; exact V_rebase h.val⟩
  have h3 : Kd.V (Kd.int .u8) 5 w w.heap.size (fun k => ¬ fp k ∧ k ≠ g4 ∧ k < w.heap.size) (.slice A3 x.f3.length c3) x.f3 :=
    ⟨A3, c3, rfl, l3, Kd.F_mono (Kd.F_step (Kd.C_F (Kd.heap_int .u8) r3) (fun k hk hlt => h.bel.block k hk)) (fun k hk => ⟨fun e => by have := (h.fs.mut k e).1; omega, fun e => by have := h.ge; omega, Nat.lt_of_lt_of_le hk (below_size h.bel)⟩)⟩
  refine (rdo_calls hst hB hN x h0 h4 h3 (by omega)).mono ?_
  rintro _ w' ⟨v', rfl, hr, hb⟩
  obtain ⟨A', m', c', rfl, hv⟩ := RSt.open_ (base := 0) hr
  refine ⟨A', m', c', rfl, V_rebase (Kd.V_mono (Kd.V_bound hv) (fun k hk => ?_)), hb⟩
  rcases hk.1 with h1 | h1
  · exact ⟨h1.1, h1.2.1, hk.2⟩
  · exact ⟨fun e => by have := h.fs.lt k e; omega, fun e => by have := h.box.lt; omega, hk.2⟩
theorem KMid.store {A' : Option Addr} {m' c' : Nat} (h : KMid W F g4 j w fp A m c S0 S1) (hv : Kd.V k47 47 w 0 (fun k => ¬ fp k ∧ k ≠ g4 ∧ k < w.heap.size) (.slice A' m' c') (S1.l.map toF)) (hx : Blk w' g4 29 #[.slice A' m' c', .int .i64 S1.no, .int .i64 S1.ops, .int .i64 S1.fuse, .int .i64 S1.fault, .bool S1.down])
    (hk : YtcpkoajnepijkaaW.PrintWords.Kept w w' (fun k => k = g4)) (hz : w'.heap.size = w.heap.size) (hb : ∀ {B w0}, Below B w0 w → B ≤ g4 → Below B w0 w') : KMid W F g4 j w' fp A' m' c' S1 S1 := by
  have hb0 := hb (Below.refl g4 w) (Nat.le_refl _)
  have ho : Only (· = g4) w w' := ⟨hb0.os, hb0.tape, hb0.output, hk.1, fun i hi hn => hk.2 i hi hn⟩
  refine ⟨h.fs.only ho (fun g hg => hg ▸ ⟨h.ge, T5_blk h.box (by decide)⟩) (fun g hg => hg ▸ h.nfp), h.inv, h.len, hx, ?_, h.nfp, h.ge, hb h.bel h.ge⟩
  exact V_rebase (Kd.V_mono (Kd.V_kept hv hk (fun k hk => hk.2.1)) (fun k hk => ⟨hk.1, hk.2.1, by rw [hz]; exact hk.2.2⟩))
theorem KMid.bounds (h : KMid W F g4 j w fp A m c S0 S1) (hj : j ≤ 1000) : BoundP S1 ∧ NumP S1 := by
  have := h.len
  exact ⟨h.fs.boundP (by omega) (by omega), h.fs.numP (by omega) (by omega)⟩
end
structure KEnd (W : World) (F Ca Cb j : Nat) (w : World) (fp fa fb : Nat → Prop) (A : Option Addr) (m c : Nat) (S : PS) : Prop where
  fs : FSat W.heap.size NoL w F fp S j
  ca : FSat W.heap.size NoL w Ca fa (crashP S [true]) j
  cb : FSat W.heap.size NoL w Cb fb (crashP S []) j
  down : S.down = false
  val : Kd.V k47 47 w 0 (fun k => k < w.heap.size) (.slice A m c) (S.l.map toF)
  bel : Below W.heap.size W w
theorem KEnd.below {W w w' : World} {F Ca Cb j m c : Nat} {A : Option Addr} {fp fa fb : Nat → Prop} {S : PS} (h : KEnd W F Ca Cb j w fp fa fb A m c S) (hb : Below w.heap.size w w') : KEnd W F Ca Cb j w' fp fa fb A m c S :=
  ⟨h.fs.below hb, h.ca.below hb, h.cb.below hb, h.down, V_rebase (Kd.V_mono (Kd.V_below h.val hb) (fun k hk => Nat.lt_of_lt_of_le hk hb.size)), h.bel.trans (hb.mono h.fs.base_le)⟩
theorem keeps_up {S : PS} (h : DInv (-1) S) : S.down = false := by
  rcases h with ⟨_, _, h⟩ | ⟨h, _⟩ | ⟨h, _⟩
  · exact h
  · omega
  · omega
end Go.Proofs.Ytcpkoajnepijkaa

