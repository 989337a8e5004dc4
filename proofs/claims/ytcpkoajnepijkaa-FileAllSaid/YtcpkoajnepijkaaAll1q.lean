/- Parts of the proof of the law that the last file states; declarations that nothing mentions are left out by a program. No conditions. -/
import Derived.Test.YtcpkoajnepijkaaKeepPq
import Derived.Test.YtcpkoajnepijkaaRefD3q
import Derived.Test.YtcpkoajnepijkaaLRangeq
set_option linter.unusedVariables false
set_option linter.unusedSimpArgs false
namespace Go.Proofs.Ytcpkoajnepijkaa
open Go.RowKit Go.Proofs.YtcpkoajnepijkaaL Go.Proofs.YtcpkoajnepijkaaW.PrintWords Go.Proofs.Ytcpkoajnepijkaa.Q
theorem crash_len (S : PS) (keep : List Bool) : (crashP S keep).l.length = S.l.length ∧ (crashP S keep).no = S.no := ⟨List.length_map .., rfl⟩
theorem doA_len (S : PS) (x : S34) : (doA S x).2.l.length ≤ S.l.length + 1 ∧ (doA S x).2.no ≤ S.no + 1 := by
  unfold doA
  split
  · exact ⟨Nat.le_succ _, Nat.le_succ _⟩
  split
  · exact ⟨Nat.le_succ _, Nat.le_succ _⟩
  split
  · have := crash_len S x.f5
    exact ⟨by simp only [this.1]; omega, by simp only [this.2]; omega⟩
  split
  · exact ⟨Nat.le_succ _, Nat.le_succ _⟩
  · exact doP_len S x
theorem WellP.doA {S : PS} (h : WellP S) (x : S34) : WellP (doA S x).2 := by
  unfold Go.Proofs.Ytcpkoajnepijkaa.doA
  split
  · exact h.of rfl
  split
  · exact h.of rfl
  split
  · exact h.crash _
  split
  · exact h
  · exact h.do_ x
theorem does_any {base : Nat} {w : World} {F : Nat} {fp : Nat → Prop} {S : PS} {k : Nat} (h : FSat base NoL w F fp S k) (hk : k ≤ 1000) (x : S34) (h0 : 0 ≤ x.f0) (h8 : x.f0 ≤ 8) (hn : x.f4 ≤ 9223372036854775807) {A3 A5 : Option Addr} {c3 c5 : Nat} (hb : RB base NoL w (.slice A3 x.f3.length c3) x.f3) (hbl : x.f3.length ≤ 65536)
    {Gk ok : Nat} (hA : 0 < x.f5.length → A5 = some ⟨Gk, ok, none⟩) (hkeep : ∀ i (hi : i < x.f5.length), w.cell? ⟨Gk, ok + i, none⟩ = some (.bool x.f5[i])) (hG : 0 < x.f5.length → Gk < base) (hkl : x.f5.length ≤ 1000000) :
    Calls Try.prog 16 #[ptr F, .agg #[.int .i64 x.f0, .string x.f1, .string x.f2, .slice A3 x.f3.length c3, .int .i64 x.f4, .slice A5 x.f5.length c5]] w fun e w' => ∃ C fp', e = .returned (.tuple #[ptr C, .int .i64 (doA S x).1]) ∧ FSat base NoL w' C fp' (doA S x).2 (k + 1) ∧ (∀ g, fp' g → fp g ∨ w.heap.size ≤ g) ∧ Only fp w w' := by
  by_cases h4 : x.f0 ≤ 4
  · have e : doA S x = doP S x := by
      unfold doA
      rw [if_neg (by omega), if_neg (by omega), if_neg (by omega), if_neg (by omega)]
    rw [e]
    refine (does_do h (by omega) x h0 h4 hb hbl).mono ?_
    rintro _ w' ⟨rfl, ⟨fp', h1, h2⟩, h3⟩
    exact ⟨F, fp', rfl, h1, h2, h3⟩
  · have hmu := h.mut
    obtain ⟨kd, s, t, bs, n, ks⟩ := x
    simp only at h0 h8 hb hbl hA hkeep hG hkl h4 hn ⊢
    have hc : kd = 5 ∨ kd = 6 ∨ kd = 7 ∨ kd = 8 := by omega
    rcases hc with rfl | rfl | rfl | rfl
    · refine (does_arm h (by omega) hn).mono ?_
      rintro _ w' ⟨rfl, ⟨fp', h1, h2⟩, h3⟩
      exact ⟨F, fp', rfl, h1, h2, h3⟩
    · refine (does_fault h (by omega) hn).mono ?_
      rintro _ w' ⟨rfl, ⟨fp', h1, h2⟩, h3⟩
      exact ⟨F, fp', rfl, h1, h2, h3⟩
    · refine (does_crash h (by omega) hA hkeep (fun hp hg => by have h1 := (hmu _ hg).1; have h2 := hG hp; omega) hkl).mono ?_
      rintro _ w' ⟨rfl, ⟨fp', h1, h2⟩, h3⟩
      exact ⟨F, fp', rfl, h1, h2, h3⟩
    · refine (does_copy h (by omega)).mono ?_
      rintro _ w' ⟨C, rfl, ⟨fc, h1, h2⟩, h3⟩
      exact ⟨C, fc, rfl, h1.mono (Nat.le_succ _), fun g hg => .inr (h2 g hg), h3⟩
structure AMid (W : World) (F g4 j : Nat) (w : World) (fp : Nat → Prop) (A : Option Addr) (m c : Nat) (S0 S1 : PS) : Prop where
  fs : FSat W.heap.size NoL w F fp S1 j
  well : WellP S1
  len : S1.l.length ≤ j ∧ S1.no ≤ j
  box : Blk w g4 29 #[.slice A m c, .int .i64 S0.no, .int .i64 S0.ops, .int .i64 S0.fuse, .int .i64 S0.fault, .bool S0.down]
  val : Kd.V k47 47 w 0 (fun k => ¬ fp k ∧ k ≠ g4 ∧ k < w.heap.size) (.slice A m c) (S0.l.map toF)
  nfp : ¬ fp g4
  ge : W.heap.size ≤ g4
  bel : Below W.heap.size W w
section
variable {W w w' : World} {F g4 j m c : Nat} {A : Option Addr} {fp : Nat → Prop} {S S0 S1 : PS}
theorem AMid.below (h : AMid W F g4 j w fp A m c S0 S1) (hb : Below w.heap.size w w') : AMid W F g4 j w' fp A m c S0 S1 :=
  ⟨h.fs.below hb, h.well, h.len, Blk.belowW h.box hb, V_rebase (Kd.V_mono (Kd.V_below h.val hb) (fun k hk => ⟨hk.1, hk.2.1, Nat.lt_of_lt_of_le hk.2.2 hb.size⟩)), h.nfp, h.ge, h.bel.trans (hb.mono h.fs.base_le)⟩
theorem AMid.later (h : AMid W F g4 j w fp A m c S0 S1) : AMid W F g4 (j + 1) w fp A m c S0 S1 :=
  ⟨h.fs.mono (Nat.le_succ _), h.well, ⟨Nat.le_succ_of_le h.len.1, Nat.le_succ_of_le h.len.2⟩, h.box, h.val, h.nfp, h.ge, h.bel⟩
theorem AMid.bounds (h : AMid W F g4 j w fp A m c S0 S1) (hj : j ≤ 1000) : BoundP S1 ∧ NumP S1 := by
  have := h.len
  exact ⟨h.fs.boundP (by omega) (by omega), h.fs.numP (by omega) (by omega)⟩
theorem all_ref (h : AMid W F g4 j w fp A m c S S) (hj : j ≤ 1000) (x : S34) (h0 : 0 ≤ x.f0) (h8 : x.f0 ≤ 8) {A3 A5 : Option Addr} {c3 c5 : Nat} (l3 : x.f3.length ≤ c3) (r3 : (Kd.int .u8).C W A3 x.f3.length x.f3) (hbl : x.f3.length ≤ 65536)
    {Gk ok : Nat} (hA : 0 < x.f5.length → A5 = some ⟨Gk, ok, none⟩) (hkeep : ∀ i (hi : i < x.f5.length), W.cell? ⟨Gk, ok + i, none⟩ = some (.bool x.f5[i])) (hkl : x.f5.length ≤ 1000000) :
    Calls Try.prog 15 #[.agg #[.slice A m c, .int .i64 S.no, .int .i64 S.ops, .int .i64 S.fuse, .int .i64 S.fault, .bool S.down], .agg #[.int .i64 x.f0, .string x.f1, .string x.f2, .slice A3 x.f3.length c3, .int .i64 x.f4, .slice A5 x.f5.length c5]] w fun e w' => ∃ A' m' c', e = .returned (.tuple #[.agg #[.slice A' m' c', .int .i64 (doA S x).2.no, .int .i64 (doA S x).2.ops, .int .i64 (doA S x).2.fuse, .int .i64 (doA S x).2.fault, .bool (doA S x).2.down], .int .i64 (doA S x).1]) ∧
      Kd.V k47 47 w' 0 (fun k => ¬ fp k ∧ k ≠ g4 ∧ k < w'.heap.size) (.slice A' m' c') ((doA S x).2.l.map toF) ∧ Below w.heap.size w w' := by
  have hm := V_len h.val
  obtain ⟨hB, hN⟩ := h.bounds hj
  have hst : RSt w (fun k => ¬ fp k ∧ k ≠ g4 ∧ k < w.heap.size) (.agg #[.slice A m c, .int .i64 S.no, .int .i64 S.ops, .int .i64 S.fuse, .int .i64 S.fault, .bool S.down]) S := ⟨A, c, by rw [← hm], by rw [← hm]; exact V_rebase h.val⟩
  have h3 : Kd.V (Kd.int .u8) 5 w w.heap.size (fun k => ¬ fp k ∧ k ≠ g4 ∧ k < w.heap.size) (.slice A3 x.f3.length c3) x.f3 :=
    ⟨A3, c3, rfl, l3, Kd.F_mono (Kd.F_step (Kd.C_F (Kd.heap_int .u8) r3) (fun k hk hlt => h.bel.block k hk)) (fun k hk => ⟨fun e => by have := (h.fs.mut k e).1; omega, fun e => by have := h.ge; omega, Nat.lt_of_lt_of_le hk (below_size h.bel)⟩)⟩
  refine (rdo_all hst hB hN x h0 h8 h3 (by omega) hA (fun i hi => (h.bel.cell (World.block_lt_of_cell? W _ (hkeep i hi))).trans (hkeep i hi)) hkl).mono ?_
  rintro _ w' ⟨v', rfl, hr, hb⟩
  obtain ⟨A', m', c', rfl, hv⟩ := RSt.open_ (base := 0) hr
  refine ⟨A', m', c', rfl, V_rebase (Kd.V_mono (Kd.V_bound hv) (fun k hk => ?_)), hb⟩
  rcases hk.1 with h1 | h1
  · exact ⟨h1.1, h1.2.1, hk.2⟩
  · exact ⟨fun e => by have := h.fs.lt k e; omega, fun e => by have := h.box.lt; omega, hk.2⟩
structure ACore (W : World) (F g4 j : Nat) (w : World) (fp : Nat → Prop) (cs : Array Value) (S1 : PS) : Prop where
  fs : FSat W.heap.size NoL w F fp S1 j
  well : WellP S1
  len : S1.l.length ≤ j ∧ S1.no ≤ j
  box : Blk w g4 29 cs
  nfp : ¬ fp g4
  ge : W.heap.size ≤ g4
  bel : Below W.heap.size W w
theorem AMid.core (h : AMid W F g4 j w fp A m c S0 S1) : ACore W F g4 j w fp #[.slice A m c, .int .i64 S0.no, .int .i64 S0.ops, .int .i64 S0.fuse, .int .i64 S0.fault, .bool S0.down] S1 := ⟨h.fs, h.well, h.len, h.box, h.nfp, h.ge, h.bel⟩
theorem ACore.below {cs : Array Value} (h : ACore W F g4 j w fp cs S1) (hb : Below w.heap.size w w') : ACore W F g4 j w' fp cs S1 :=
  ⟨h.fs.below hb, h.well, h.len, Blk.belowW h.box hb, h.nfp, h.ge, h.bel.trans (hb.mono h.fs.base_le)⟩
theorem ACore.put {cs old : Array Value} {g t : Nat} (h : ACore W F g4 j w fp cs S1) (hg : Blk w g t old) (ht : t ≠ 5) (hne : g ≠ g4) (hnf : ¬ fp g) (hge : W.heap.size ≤ g)
    (hk : YtcpkoajnepijkaaW.PrintWords.Kept w w' (fun k => k = g)) (hb : ∀ {B w0}, Below B w0 w → B ≤ g → Below B w0 w') : ACore W F g4 j w' fp cs S1 := by
  have hb0 := hb (Below.refl g w) (Nat.le_refl _)
  have ho : Only (· = g) w w' := ⟨hb0.os, hb0.tape, hb0.output, hk.1, fun i hi hn => hk.2 i hi hn⟩
  exact ⟨h.fs.only ho (fun k e => e ▸ ⟨hge, T5_blk hg ht⟩) (fun k e => e ▸ hnf), h.well, h.len, h.box.to (ho.block g4 h.box.lt (fun e => hne e.symm)), h.nfp, h.ge, hb h.bel hge⟩
theorem ACore.store {cs cs' : Array Value} (h : ACore W F g4 j w fp cs S1) (hx : Blk w' g4 29 cs')
    (hk : YtcpkoajnepijkaaW.PrintWords.Kept w w' (fun k => k = g4)) (hb : ∀ {B w0}, Below B w0 w → B ≤ g4 → Below B w0 w') : ACore W F g4 j w' fp cs' S1 := by
  have hb0 := hb (Below.refl g4 w) (Nat.le_refl _)
  have ho : Only (· = g4) w w' := ⟨hb0.os, hb0.tape, hb0.output, hk.1, fun i hi hn => hk.2 i hi hn⟩
  exact ⟨h.fs.only ho (fun g hg => hg ▸ ⟨h.ge, T5_blk h.box (by decide)⟩) (fun g hg => hg ▸ h.nfp), h.well, h.len, hx, h.nfp, h.ge, hb h.bel h.ge⟩
theorem ACore.mid (h : ACore W F g4 j w fp #[.slice A m c, .int .i64 S0.no, .int .i64 S0.ops, .int .i64 S0.fuse, .int .i64 S0.fault, .bool S0.down] S1) {B : Nat} (hB : B ≤ w.heap.size) (hv : Kd.V k47 47 w 0 (fun k => ¬ fp k ∧ k ≠ g4 ∧ k < B) (.slice A m c) (S0.l.map toF)) : AMid W F g4 j w fp A m c S0 S1 :=
  ⟨h.fs, h.well, h.len, h.box, Kd.V_mono hv (fun k hk => ⟨hk.1, hk.2.1, Nat.lt_of_lt_of_le hk.2.2 hB⟩), h.nfp, h.ge, h.bel⟩
theorem val_below {Q : Nat → Prop} {xs : List S47} {v : Value} (hv : Kd.V k47 47 w 0 Q v xs) (hb : Below w.heap.size w w') : Kd.V k47 47 w' 0 Q v xs := V_rebase (Kd.V_below hv hb)
theorem all_does (x : S34) (h : AMid W F g4 j w fp A m c (doA S x).2 S) (hj : j ≤ 1000) (h0 : 0 ≤ x.f0) (h8 : x.f0 ≤ 8) (hn : x.f4 ≤ 9223372036854775807) {A3 A5 : Option Addr} {c3 c5 : Nat} (hb : RB W.heap.size AllL W (.slice A3 x.f3.length c3) x.f3) (hbl : x.f3.length ≤ 65536)
    {Gk ok : Nat} (hA : 0 < x.f5.length → A5 = some ⟨Gk, ok, none⟩) (hkeep : ∀ i (hi : i < x.f5.length), W.cell? ⟨Gk, ok + i, none⟩ = some (.bool x.f5[i])) (hkl : x.f5.length ≤ 1000000) :
    Calls Try.prog 16 #[ptr F, .agg #[.int .i64 x.f0, .string x.f1, .string x.f2, .slice A3 x.f3.length c3, .int .i64 x.f4, .slice A5 x.f5.length c5]] w fun e w' => ∃ C, e = .returned (.tuple #[ptr C, .int .i64 (doA S x).1]) ∧ (∃ fp', AMid W C g4 (j + 1) w' fp' A m c (doA S x).2 (doA S x).2) ∧ Only fp w w' := by
  refine (does_any h.fs hj x h0 h8 hn (hb.any.below h.bel) hbl hA (fun i hi => (h.bel.cell (World.block_lt_of_cell? W _ (hkeep i hi))).trans (hkeep i hi)) (fun hp => World.block_lt_of_cell? W _ (hkeep 0 hp)) hkl).mono ?_
  rintro _ w' ⟨C, fp', rfl, hf, hfp, ho⟩
  have hmu := h.fs.mut
  have hd := doA_len S x
  have hl := h.len
  refine ⟨C, rfl, ⟨fp', hf, h.well.doA x, ⟨by omega, by omega⟩, h.box.to (ho.block g4 h.box.lt h.nfp), ?_, fun e => ?_, h.ge, bo h.bel ho (fun g hg => (hmu g hg).1) h.fs.base_le⟩, ho⟩
  · refine Kd.V_mono (Kd.V_map h.val (fun _ hf => Kd.F_step hf (fun k hk hlt => ho.block k hlt hk.1))) (fun k hk => ⟨fun e => ?_, hk.2.1, Nat.lt_of_lt_of_le hk.2.2 ho.size⟩)
    rcases hfp k e with e | e
    · exact hk.1 e
    · have := hk.2.2; omega
  · rcases hfp g4 e with e | e
    · exact h.nfp e
    · have := h.box.lt; omega
end
def SizedA (x : S34) : Prop := SizedS x ∧ x.f4 ≤ 9223372036854775807
theorem wf_i64 {n : Int} (h : (Lit.int .i64 n).wf = true) : -9223372036854775808 ≤ n ∧ n ≤ 9223372036854775807 := by
  simp [Lit.wf, IntKind.min, IntKind.max, IntKind.signed, IntKind.bits] at h
  omega
theorem opens34A : Opens Try.prog k34 SizedA 34 := by
  intro H enc w base spare held fuel cs x h hw
  obtain ⟨hl, hf⟩ := trod_cells Try.underlying34 (by kernel_rfl) (by kernel_rfl) h hw
  obtain ⟨n0, v0, y0, e0, h0, w0⟩ := hf 0 _ rfl
  obtain ⟨n1, v1, y1, e1, h1, w1⟩ := hf 1 _ rfl
  obtain ⟨n2, v2, y2, e2, h2, w2⟩ := hf 2 _ rfl
  obtain ⟨n3, v3, y3, e3, h3, w3⟩ := hf 3 _ rfl
  obtain ⟨n4, v4, y4, e4, h4, w4⟩ := hf 4 _ rfl
  obtain ⟨n5, v5, y5, e5, h5, w5⟩ := hf 5 _ rfl
  obtain ⟨a0, g0, _⟩ := opens_int Try.underlying3 enc w base spare held _ _ _ h0 w0
  obtain ⟨a1, g1, q1⟩ := opens_string Try.underlying9 enc w base spare held _ _ _ h1 w1
  obtain ⟨a2, g2, q2⟩ := opens_string Try.underlying9 enc w base spare held _ _ _ h2 w2
  obtain ⟨a3, g3, q3, _⟩ := opens_slice Try.underlying31 (by kernel_rfl) (opens_int Try.underlying5) enc w base spare held _ _ _ h3 w3
  obtain ⟨a4, g4, b4⟩ := opens_int Try.underlying3 enc w base spare held _ _ _ h4 w4
  obtain ⟨a5, g5, q5, _⟩ := opens_slice Try.underlying32 (by kernel_rfl) (opens_bool Try.underlying4) enc w base spare held _ _ _ h5 w5
  obtain rfl := int_of g0
  obtain rfl := string_of g1
  obtain rfl := string_of g2
  obtain rfl := int_of g4
  obtain ⟨A3, c3, rfl, l3, C3⟩ := slice_read g3
  obtain ⟨A5, c5, rfl, l5, C5⟩ := slice_read g5
  rw [show Try.prog.bytesOf 5 = 1 from by kernel_rfl, Nat.mul_one] at q3
  rw [show Try.prog.bytesOf 4 = 1 from by kernel_rfl, Nat.mul_one] at q5
  match cs, hl with
  | [c0, c1, c2, c3', c4, c5'], _ =>
    simp at e0 e1 e2 e3 e4 e5
    subst e0 e1 e2 e3 e4 e5
    exact ⟨⟨a0, a1, a2, a3, a4, a5⟩, k34_mk w _ l3 C3 l5 C5, ⟨q1, q2, q3, q5⟩, (wf_i64 b4).2⟩
theorem opens22A : Opens Try.prog (Kd.slice 34 k34) (fun xs => xs.length * Try.prog.bytesOf 34 ≤ reachBytes ∧ ∀ x ∈ xs, SizedA x) 22 :=
  opens_slice Try.underlying22 (by kernel_rfl) opens34A
theorem find_long {s : ByteArray} (hs : 20 < s.size) : ∀ l : List PF, (∀ f ∈ l, namedB f.name = true) → findP s l = none
  | [], _ => rfl
  | f :: l, h => by
    unfold findP
    rw [if_neg (fun e => ?_)]
    · exact find_long hs l (fun g hg => h g (List.mem_cons_of_mem _ hg))
    · have := h f List.mem_cons_self
      unfold namedB at this
      simp only [Bool.and_eq_true, decide_eq_true_eq] at this
      rw [e] at this
      omega
theorem read_long {S : PS} (h : WellP S) {s : ByteArray} (hs : 20 < s.size) : readP S s = ([], if S.down = true then 100 else 101) := by
  unfold readP
  split
  · rfl
  · rw [find_long hs S.l h.1]
end Go.Proofs.Ytcpkoajnepijkaa

