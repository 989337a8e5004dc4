/- Parts of the proof of the law that the last file states; declarations that nothing mentions are left out by a program. No conditions. -/
import Derived.Test.YtcpkoajnepijkaaRefD3q
import Derived.Test.YtcpkoajnepijkaaLHeld2q
import Derived.Test.YtcpkoajnepijkaaKeepPq
set_option linter.unusedVariables false
set_option linter.unusedSimpArgs false
namespace Go.Proofs.Ytcpkoajnepijkaa
open Go.RowKit Go.Proofs.YtcpkoajnepijkaaL Go.Proofs.YtcpkoajnepijkaaW.PrintWords Go.Proofs.Ytcpkoajnepijkaa.Q
structure StI (w0 : World) (base : Nat) (Lz : Nat → Prop) (w : World) (F : Nat) (fp : Nat → Prop) (S : PS) (k g0 : Nat) (A : Option Addr) (m c : Nat) (Aw : Option Addr) (cw : Nat) : Prop where
  fs : FSat base Lz w F fp S k
  box : Blk w g0 29 #[.slice A m c, .int .i64 S.no, .int .i64 S.ops, .int .i64 S.fuse, .int .i64 S.fault, .bool S.down]
  val : Kd.V k47 47 w 0 (fun k => k < w.heap.size) (.slice A m c) (S.l.map toF)
  nm : w.ownsRow 0 9 1 (.slice Aw S.l.length cw) S.l.length (S.l.map fun f => .string f.name)
  bel : Below w0.heap.size w0 w
theorem own_below {w w' : World} {base e size n : Nat} {v : Value} {xs : List Value} (h : w.ownsRow base e size v n xs) (hb : Below w.heap.size w w') : w'.ownsRow base e size v n xs :=
  h.kept (row := none) ⟨hb.os, hb.tape, hb.output, hb.size, fun k hk _ => hb.block k hk⟩ (Classical.em _)
theorem own_base {w : World} {base e size n : Nat} {v : Value} {xs : List Value} (h : w.ownsRow base e size v n xs) : w.ownsRow 0 e size v n xs :=
  ⟨h.1, h.2.imp id fun ⟨g, cap, cur, a, b, c⟩ => ⟨g, cap, cur, a, Nat.zero_le _, c⟩⟩
theorem ref_read {w : World} {base : Nat} {P : Nat → Prop} {A : Option Addr} {m c : Nat} {S : PS} (h : Kd.V k47 47 w base P (.slice A m c) (S.l.map toF)) (hB : BoundP S) (s : ByteArray) (a b e x : Int) :
    Calls Try.prog 38 #[.agg #[.slice A m c, .int .i64 a, .int .i64 b, .int .i64 e, .int .i64 x, .bool S.down], .string s] w fun y w' => ∃ v, y = .returned (.tuple #[v, .int .i64 (readP S s).2]) ∧ Kd.R (Kd.int .u8) 5 w' w.heap.size (fun _ => True) v (readP S s).1 ∧ Below w.heap.size w w' := by
  have hm := V_len h
  subst hm
  obtain ⟨_, hc, hF⟩ := Kd.V_at h
  exact souffleurref10_Read.calls 500000 A c (S.l.map toF) a b e x S.down s _ _ w (Kd.F_now hF) hc (read_tells S hB s (Nat.le_refl _) a b e x)
theorem StI.below {w0 : World} {base : Nat} {Lz : Nat → Prop} {w w' : World} {F : Nat} {fp : Nat → Prop} {S : PS} {k g0 : Nat} {A : Option Addr} {m c : Nat} {Aw : Option Addr} {cw : Nat} (h : StI w0 base Lz w F fp S k g0 A m c Aw cw) (hb : Below w.heap.size w w') : StI w0 base Lz w' F fp S k g0 A m c Aw cw :=
  ⟨h.fs.below hb, Blk.belowW h.box hb, V_rebase (Kd.V_mono (Kd.V_below h.val hb) (fun k hk => Nat.lt_of_lt_of_le hk hb.size)), own_below h.nm hb, h.bel.trans (hb.mono (below_size h.bel))⟩
theorem StI.name {w0 : World} {base : Nat} {Lz : Nat → Prop} {w : World} {F : Nat} {fp : Nat → Prop} {S : PS} {k g0 : Nat} {A : Option Addr} {m c : Nat} {Aw : Option Addr} {cw : Nat} (h : StI w0 base Lz w F fp S k g0 A m c Aw cw) {i : Nat} {f : PF} (hf : S.l[i]? = some f) : ∃ g, Aw = some ⟨g, 0, none⟩ ∧ w.cell? ⟨g, i, none⟩ = some (.string f.name) := by
  have hi : i < S.l.length := (List.getElem?_eq_some_iff.1 hf).1
  obtain ⟨g, cap, hg, _⟩ := World.ownsRow.form h.nm (by omega)
  obtain ⟨rfl, _, rfl⟩ := Value.slice.inj hg
  refine ⟨g, rfl, ?_⟩
  rw [World.ownsRow.cellAt h.nm i (by omega), List.getElem?_map, hf]
  rfl
theorem StI.file {w0 : World} {base : Nat} {Lz : Nat → Prop} {w : World} {F : Nat} {fp : Nat → Prop} {S : PS} {k g0 : Nat} {A : Option Addr} {m c : Nat} {Aw : Option Addr} {cw : Nat} (h : StI w0 base Lz w F fp S k g0 A m c Aw cw) {i : Nat} (hi : i < m) : ∃ f, S.l[i]? = some f := by
  have hm := V_len h.val
  rw [List.length_map] at hm
  exact ⟨_, List.getElem?_eq_getElem (by omega)⟩
set_option maxRecDepth 100000 in
set_option maxHeartbeats 4000000 in
theorem stands_calls {base : Nat} {Lz : Nat → Prop} {w : World} {F : Nat} {fp P : Nat → Prop} {S : PS} {k m c : Nat} {A : Option Addr} (h : FSat base Lz w F fp S k) (hk : k ≤ 100000) (hw : WellP S) (hB : BoundP S) (hv : Kd.V k47 47 w w.heap.size P (.slice A m c) (S.l.map toF)) :
    Calls Try.prog 17 #[ptr F, .agg #[.slice A m c, .int .i64 S.no, .int .i64 S.ops, .int .i64 S.fuse, .int .i64 S.fault, .bool S.down]] w fun e w' => e = .returned (.bool true) ∧ Below w.heap.size w w' := by
  have HS := Zz.mk h
  have HV := Zz.mk hv
  have HM := Zz.mk (V_len hv)
  have HBD := Zz.mk hB
  have HF := Zz.mk (Fr.start w)
  have XN : Zz (∀ w', Below w.heap.size w w' → Calls Try.prog 27 #[ptr F] w' fun e w'' => ∃ v, e = .returned v ∧ w''.ownsRow w'.heap.size 9 1 v S.l.length (S.l.map fun f => .string f.name) ∧ Below w'.heap.size w' w'') := ⟨fun w' hb => (h.below hb).names hw⟩
  have XP : Zz (∀ w', Below w.heap.size w w' → Calls Try.prog 37 #[.agg #[.slice A m c, .int .i64 S.no, .int .i64 S.ops, .int .i64 S.fuse, .int .i64 S.fault, .bool S.down]] w' fun e w'' => e = .returned (.int .i64 (pendingP S)) ∧ Below w'.heap.size w' w'') := ⟨fun w' hb => by
    have hv' := Kd.V_below HV.out hb
    have hm := V_len hv'
    subst hm
    obtain ⟨_, hc, hF⟩ := Kd.V_at hv'
    exact souffleurref10_Pending.calls 2000 A c (S.l.map toF) _ _ _ _ _ _ w' (Kd.F_now hF) hc (pending_tells S HBD.out (Nat.le_refl _) _ _ _ _ _)⟩
  clear h hw hB hv
  go_enter Try.func17, Try.ntmps17
  have hu29 := Try.underlying29
  have hu47 := Try.underlying47
  go_upto_region 2 with (first
    | ((with_reducible refine gate_dst (N := 3) rfl ?_); refine box_event ?hg (N := 3) ?hd (cs := #[.slice A m c, .int .i64 S.no, .int .i64 S.ops, .int .i64 S.fuse, .int .i64 S.fault, .bool S.down]) (t := 29) ?hr ?_; (case hd => rfl); (case hg => rfl); (case hr => first | (go_simp; done) | (go_simp; rfl)); intro g0 hg w1 hx hb; replace HF := Zz.mk (HF.out.box hg hb (Blk.lt (show Blk w1 g0 29 _ from hx))); have B0 := Zz.mk (show Blk w1 g0 29 _ from hx); clear hg hx hb; obtain ⟨c00, c01, c02, c03, c04, c05, d00, d01, d02, d03, d04, d05⟩ := Blk.six B0.out)
    | (go_at_call 27; (with_reducible refine (XN.out _ HF.out.below).mono ?_); rintro _ wc ⟨v, rfl, hown, hb⟩; have HOW := Zz.mk hown; clear hown; replace B0 := Zz.mk (Blk.belowW B0.out hb); replace HF := Zz.mk (HF.out.call hb); clear hb; clear c00 c01 c02 c03 c04 c05 d00 d01 d02 d03 d04 d05; obtain ⟨c00, c01, c02, c03, c04, c05, d00, d01, d02, d03, d04, d05⟩ := Blk.six B0.out))
  rename_i KK hKK
  obtain ⟨Aw, cw, rfl, _⟩ := own_slice HOW.out
  have hlm : S.l.length = m := by have h1 := HM.out; rw [List.length_map] at h1; exact h1.symm
  rw [hlm]
  clear hlm
  refine regionH (fun w' : World => w'.cell? ⟨g0, 0, none⟩ = some (.slice A m c) ∧ w'.cell? ⟨g0, 1, none⟩ = some (.int .i64 S.no) ∧ w'.cell? ⟨g0, 2, none⟩ = some (.int .i64 S.ops) ∧ w'.cell? ⟨g0, 3, none⟩ = some (.int .i64 S.fuse) ∧ w'.cell? ⟨g0, 4, none⟩ = some (.int .i64 S.fault) ∧ w'.cell? ⟨g0, 5, none⟩ = some (.bool S.down)) (by kernel_rfl) (fun wd hb => ?_)
  replace B0 := Zz.mk (Blk.belowW B0.out hb)
  replace HF := Zz.mk (HF.out.call hb)
  have HOW2 := Zz.mk hb
  clear hb
  clear c00 c01 c02 c03 c04 c05 d00 d01 d02 d03 d04 d05
  obtain ⟨c00, c01, c02, c03, c04, c05, d00, d01, d02, d03, d04, d05⟩ := Blk.six B0.out
  have hHd : (fun w' : World => w'.cell? ⟨g0, 0, none⟩ = some (.slice A m c) ∧ w'.cell? ⟨g0, 1, none⟩ = some (.int .i64 S.no) ∧ w'.cell? ⟨g0, 2, none⟩ = some (.int .i64 S.ops) ∧ w'.cell? ⟨g0, 3, none⟩ = some (.int .i64 S.fuse) ∧ w'.cell? ⟨g0, 4, none⟩ = some (.int .i64 S.fault) ∧ w'.cell? ⟨g0, 5, none⟩ = some (.bool S.down)) wd := ⟨c00, c01, c02, c03, c04, c05⟩
  have e27 : (S.l.length : Int) = (m : Int) := by have h1 := HM.out; rw [List.length_map] at h1; omega
  skip
  refine takeH (i := 0) (v := ?v27) rfl (by kernel_rfl) (by kernel_rfl) (by kernel_rfl) (fun _ _ _ h => h) (Or.inl ⟨by rfl, ?hy27⟩) (by assumption) ?rest27
  case hy27 => (intro w hSw; (try dsimp only at hSw); go_simp; try (with_reducible rfl))
  case rest27 =>
  try simp only [Act.put, List.setIfInBounds_toArray, List.set_cons_zero, List.set_cons_succ]
  refine takeH (i := 1) (v := ?v28) rfl (by kernel_rfl) (by kernel_rfl) (by kernel_rfl) (fun _ _ _ h => h) (Or.inl ⟨by rfl, ?hy28⟩) (by assumption) ?rest28
  case hy28 => (intro w hSw; (try dsimp only at hSw); go_simp; try (with_reducible rfl))
  case rest28 =>
  try simp only [Act.put, List.setIfInBounds_toArray, List.set_cons_zero, List.set_cons_succ]
  refine takeH (i := 2) (v := ?v29) rfl (by kernel_rfl) (by kernel_rfl) (by kernel_rfl) (fun _ _ _ h => h) (Or.inl ⟨by rfl, ?hy29⟩) (by assumption) ?rest29
  case hy29 => (intro w hSw; (try dsimp only at hSw); go_simp; try (with_reducible rfl))
  case rest29 =>
  try simp only [Act.put, List.setIfInBounds_toArray, List.set_cons_zero, List.set_cons_succ]
  refine takeH (i := 3) (v := ?v30) rfl (by kernel_rfl) (by kernel_rfl) (by kernel_rfl) (fun _ _ _ h => h) (Or.inl ⟨by rfl, ?hy30⟩) (by assumption) ?rest30
  case hy30 => (intro w hSw; (try dsimp only at hSw); go_simp; try (with_reducible rfl))
  case rest30 =>
  try simp only [Act.put, List.setIfInBounds_toArray, List.set_cons_zero, List.set_cons_succ]
  refine takeH (i := 4) (v := ?v31) rfl (by kernel_rfl) (by kernel_rfl) (by kernel_rfl) (fun _ _ _ h => h) (Or.inl ⟨by rfl, ?hy31⟩) (by assumption) ?rest31
  case hy31 => (intro w hSw; (try dsimp only at hSw); go_simp; try (with_reducible rfl))
  case rest31 =>
  try simp only [Act.put, List.setIfInBounds_toArray, List.set_cons_zero, List.set_cons_succ]
  refine takeH (i := 5) (v := ?v32) rfl (by kernel_rfl) (by kernel_rfl) (by kernel_rfl) (fun _ _ _ h => h) (Or.inl ⟨by rfl, ?hy32⟩) (by assumption) ?rest32
  case hy32 => (intro w hSw; (try dsimp only at hSw); go_simp; try (with_reducible rfl))
  case rest32 =>
  try simp only [Act.put, List.setIfInBounds_toArray, List.set_cons_zero, List.set_cons_succ]
  refine takeH (i := 6) (v := ?v33) rfl (by kernel_rfl) (by kernel_rfl) (by kernel_rfl) (fun _ _ _ h => h) (Or.inl ⟨by rfl, ?hy33⟩) (by assumption) ?rest33
  case hy33 => (intro w hSw; (try dsimp only at hSw); go_simp; try (with_reducible rfl))
  case rest33 =>
  try simp only [Act.put, List.setIfInBounds_toArray, List.set_cons_zero, List.set_cons_succ]
  refine takeH (i := 7) (v := ?v34) rfl (by kernel_rfl) (by kernel_rfl) (by kernel_rfl) (fun _ _ _ h => h) (Or.inl ⟨by rfl, ?hy34⟩) (by assumption) ?rest34
  case hy34 => (intro w hSw; (try dsimp only at hSw); go_simp; try (with_reducible rfl))
  case rest34 =>
  try simp only [Act.put, List.setIfInBounds_toArray, List.set_cons_zero, List.set_cons_succ]
  refine takeH (i := 9) (v := ?v35) rfl (by kernel_rfl) (by kernel_rfl) (by kernel_rfl) (fun _ _ _ h => h) (Or.inl ⟨by rfl, ?hy35⟩) (by assumption) ?rest35
  case hy35 => (intro w hSw; (try dsimp only at hSw); go_simp; try (with_reducible rfl))
  case rest35 =>
  try simp only [Act.put, List.setIfInBounds_toArray, List.set_cons_zero, List.set_cons_succ]
  refine wpAnyH_ready (rs := [8]) (by kernel_rfl) (by simp) ?_
  refine consH rfl (fun K hK => ?_) AllReadyH.nil
  go_simp
  go_at_call 22
  with_reducible refine ((HS.out.below HF.out.below).pending).mono ?_
  rintro _ wq ⟨rfl, rfl⟩
  go_simp
  refine hK.out _ _ (by assumption) ?_
  clear hK K
  try simp only [Act.put, List.setIfInBounds_toArray, List.set_cons_zero, List.set_cons_succ]
  refine wpAnyH_ready (rs := [10]) (by kernel_rfl) (by simp) ?_
  refine consH rfl (fun K hK => ?_) AllReadyH.nil
  go_simp
  go_at_call 37
  with_reducible refine (XP.out _ HF.out.below).mono ?_
  rintro _ wp ⟨rfl, hb⟩
  replace B0 := Zz.mk (Blk.belowW B0.out hb)
  replace HOW2 := Zz.mk (HOW2.out.trans (hb.mono HOW2.out.size))
  replace HF := Zz.mk (HF.out.call hb)
  clear hb hHd
  clear c00 c01 c02 c03 c04 c05 d00 d01 d02 d03 d04 d05
  obtain ⟨c00, c01, c02, c03, c04, c05, d00, d01, d02, d03, d04, d05⟩ := Blk.six B0.out
  have hHd : (fun w' : World => w'.cell? ⟨g0, 0, none⟩ = some (.slice A m c) ∧ w'.cell? ⟨g0, 1, none⟩ = some (.int .i64 S.no) ∧ w'.cell? ⟨g0, 2, none⟩ = some (.int .i64 S.ops) ∧ w'.cell? ⟨g0, 3, none⟩ = some (.int .i64 S.fuse) ∧ w'.cell? ⟨g0, 4, none⟩ = some (.int .i64 S.fault) ∧ w'.cell? ⟨g0, 5, none⟩ = some (.bool S.down)) wp := ⟨c00, c01, c02, c03, c04, c05⟩
  go_simp
  refine hK.out _ _ hHd ?_
  clear hK K
  try simp only [Act.put, List.setIfInBounds_toArray, List.set_cons_zero, List.set_cons_succ]
  refine takeH (i := 11) (v := ?v36) rfl (by kernel_rfl) (by kernel_rfl) (by kernel_rfl) (fun _ _ _ h => h) (Or.inl ⟨by rfl, ?hy36⟩) (by assumption) ?rest36
  case hy36 => (intro w hSw; (try dsimp only at hSw); go_simp; try (with_reducible rfl))
  case rest36 =>
  try simp only [Act.put, List.setIfInBounds_toArray, List.set_cons_zero, List.set_cons_succ]
  refine takeH (i := 12) (v := ?v37) rfl (by kernel_rfl) (by kernel_rfl) (by kernel_rfl) (fun _ _ _ h => h) (Or.inl ⟨by rfl, ?hy37⟩) (by assumption) ?rest37
  case hy37 => (intro w hSw; (try dsimp only at hSw); go_simp; try (with_reducible rfl))
  case rest37 =>
  try simp only [Act.put, List.setIfInBounds_toArray, List.set_cons_zero, List.set_cons_succ]
  refine takeH (i := 13) (v := ?v38) rfl (by kernel_rfl) (by kernel_rfl) (by kernel_rfl) (fun _ _ _ h => h) (Or.inl ⟨by rfl, ?hy38⟩) (by assumption) ?rest38
  case hy38 => (intro w hSw; (try dsimp only at hSw); go_simp; try (with_reducible rfl))
  case rest38 =>
  try simp only [Act.put, List.setIfInBounds_toArray, List.set_cons_zero, List.set_cons_succ]
  refine takeH (i := 14) (v := ?v39) rfl (by kernel_rfl) (by kernel_rfl) (by kernel_rfl) (fun _ _ _ h => h) (Or.inl ⟨by rfl, ?hy39⟩) (by assumption) ?rest39
  case hy39 => (intro w hSw; (try dsimp only at hSw); go_simp; try (with_reducible rfl))
  case rest39 =>
  try simp only [Act.put, List.setIfInBounds_toArray, List.set_cons_zero, List.set_cons_succ]
  refine takeH (i := 16) (v := ?v40) rfl (by kernel_rfl) (by kernel_rfl) (by kernel_rfl) (fun _ _ _ h => h) (Or.inl ⟨by rfl, ?hy40⟩) (by assumption) ?rest40
  case hy40 => (intro w hSw; (try dsimp only at hSw); go_simp; try (with_reducible rfl))
  case rest40 =>
  try simp only [Act.put, List.setIfInBounds_toArray, List.set_cons_zero, List.set_cons_succ]
  refine takeH (i := 17) (v := ?v41) rfl (by kernel_rfl) (by kernel_rfl) (by kernel_rfl) (fun _ _ _ h => h) (Or.inl ⟨by rfl, ?hy41⟩) (by assumption) ?rest41
  case hy41 => (intro w hSw; (try dsimp only at hSw); go_simp; try (with_reducible rfl))
  case rest41 =>
  try simp only [Act.put, List.setIfInBounds_toArray, List.set_cons_zero, List.set_cons_succ]
  refine wpAnyH_ready (rs := [15]) (by kernel_rfl) (by simp) ?_
  refine consH rfl (fun K hK => ?_) AllReadyH.nil
  go_simp
  go_at_call 26
  with_reducible refine ((HS.out.below HF.out.below).ops).mono ?_
  rintro _ wq ⟨rfl, rfl⟩
  go_simp
  refine hK.out _ _ (by assumption) ?_
  clear hK K
  try simp only [Act.put, List.setIfInBounds_toArray, List.set_cons_zero, List.set_cons_succ]
  refine takeH (i := 18) (v := ?v42) rfl (by kernel_rfl) (by kernel_rfl) (by kernel_rfl) (fun _ _ _ h => h) (Or.inl ⟨by rfl, ?hy42⟩) (by assumption) ?rest42
  case hy42 => (intro w hSw; (try dsimp only at hSw); go_simp; try (with_reducible rfl))
  case rest42 =>
  try simp only [Act.put, List.setIfInBounds_toArray, List.set_cons_zero, List.set_cons_succ]
  refine takeH (i := 19) (v := ?v43) rfl (by kernel_rfl) (by kernel_rfl) (by kernel_rfl) (fun _ _ _ h => h) (Or.inl ⟨by rfl, ?hy43⟩) (by assumption) ?rest43
  case hy43 => (intro w hSw; (try dsimp only at hSw); go_simp; try (with_reducible rfl))
  case rest43 =>
  try simp only [Act.put, List.setIfInBounds_toArray, List.set_cons_zero, List.set_cons_succ]
  refine takeH (i := 20) (v := ?v44) rfl (by kernel_rfl) (by kernel_rfl) (by kernel_rfl) (fun _ _ _ h => h) (Or.inl ⟨by rfl, ?hy44⟩) (by assumption) ?rest44
  case hy44 => (intro w hSw; (try dsimp only at hSw); go_simp; try (with_reducible rfl))
  case rest44 =>
  try simp only [Act.put, List.setIfInBounds_toArray, List.set_cons_zero, List.set_cons_succ]
  refine takeH (i := 21) (v := ?v45) rfl (by kernel_rfl) (by kernel_rfl) (by kernel_rfl) (fun _ _ _ h => h) (Or.inl ⟨by rfl, ?hy45⟩) (by assumption) ?rest45
  case hy45 => (intro w hSw; (try dsimp only at hSw); go_simp; try (with_reducible rfl))
  case rest45 =>
  try simp only [Act.put, List.setIfInBounds_toArray, List.set_cons_zero, List.set_cons_succ]
  refine takeH (i := 23) (v := ?v46) rfl (by kernel_rfl) (by kernel_rfl) (by kernel_rfl) (fun _ _ _ h => h) (Or.inl ⟨by rfl, ?hy46⟩) (by assumption) ?rest46
  case hy46 => (intro w hSw; (try dsimp only at hSw); go_simp; try (with_reducible rfl))
  case rest46 =>
  try simp only [Act.put, List.setIfInBounds_toArray, List.set_cons_zero, List.set_cons_succ]
  refine takeH (i := 24) (v := ?v47) rfl (by kernel_rfl) (by kernel_rfl) (by kernel_rfl) (fun _ _ _ h => h) (Or.inl ⟨by rfl, ?hy47⟩) (by assumption) ?rest47
  case hy47 => (intro w hSw; (try dsimp only at hSw); go_simp; try (with_reducible rfl))
  case rest47 =>
  try simp only [Act.put, List.setIfInBounds_toArray, List.set_cons_zero, List.set_cons_succ]
  refine wpAnyH_ready (rs := [22]) (by kernel_rfl) (by simp) ?_
  refine consH rfl (fun K hK => ?_) AllReadyH.nil
  go_simp
  go_at_call 25
  with_reducible refine ((HS.out.below HF.out.below).down).mono ?_
  rintro _ wq ⟨rfl, rfl⟩
  go_simp
  refine hK.out _ _ (by assumption) ?_
  clear hK K
  try simp only [Act.put, List.setIfInBounds_toArray, List.set_cons_zero, List.set_cons_succ]
  refine takeH (i := 25) (v := ?v48) rfl (by kernel_rfl) (by kernel_rfl) (by kernel_rfl) (fun _ _ _ h => h) (Or.inl ⟨by rfl, ?hy48⟩) (by assumption) ?rest48
  case hy48 => (intro w hSw; (try dsimp only at hSw); go_simp; try (with_reducible rfl))
  case rest48 =>
  try simp only [Act.put, List.setIfInBounds_toArray, List.set_cons_zero, List.set_cons_succ]
  refine takeH (i := 26) (v := ?v49) rfl (by kernel_rfl) (by kernel_rfl) (by kernel_rfl) (fun _ _ _ h => h) (Or.inl ⟨by rfl, ?hy49⟩) (by assumption) ?rest49
  case hy49 => (intro w hSw; (try dsimp only at hSw); go_simp; try (with_reducible rfl))
  case rest49 =>
  try simp only [Act.put, List.setIfInBounds_toArray, List.set_cons_zero, List.set_cons_succ]
  refine wpAnyH_done (by kernel_rfl) ?_ _
  refine hKK _ _ ?_
  have HVL := Zz.mk (Kd.V_mono (V_rebase (base' := 0) (Kd.V_below (Kd.V_bound HV.out) (show Below w.heap.size w _ from HF.out.below))) (fun k hk => Nat.lt_of_lt_of_le hk.2 HF.out.below.size))
  have H0 := Zz.mk (show StI w base Lz _ F fp S k g0 A m c Aw cw from ⟨HS.out.below HF.out.below, B0.out, HVL.out, own_base (own_below HOW.out HOW2.out), HF.out.below⟩)
  have HBD2 := HBD
  have HKK := Zz.mk hk
  clear HVL HOW HOW2 XN XP HV HF B0 HS hHd hk
  go_wp2_with fail
  clear c00 c01 c02 c03 c04 c05 d00 d01 d02 d03 d04 d05 e27
  go_loopg [44] m (fun kq v44 w' => ∃ i : Nat, i + kq = m ∧ v44 = .int .i64 i ∧ Zz (StI w base Lz w' F fp S k g0 A m c Aw cw))
  case atStart => exact ⟨0, by omega, rfl, H0⟩
  case round =>
    clear H0
    obtain ⟨i, hi, rfl, H⟩ := hrel
    cases gk with
    | zero =>
      have hlt : decide (i < m) = false := decide_eq_false (by omega)
      clear hi
      go_wp2
      go_ret
      exact ⟨rfl, H.out.bel⟩
    | succ d =>
      obtain ⟨f, hf⟩ := H.out.file (i := i) (by omega)
      have hlt : decide ((i : Int) < (m : Int)) = true := decide_eq_true (by omega)
      have hi0 : (0 : Int) ≤ (i : Int) := Int.natCast_nonneg i
      obtain ⟨ad, a1, m1, k1, a2, m2, k2, hA, y0, y1, y2, v1, v2, hi2⟩ := file_V H.out.val hf
      subst hA
      have HFF := Zz.mk hf
      have HI := Zz.mk hi
      have hal : Below wr.heap.size wr (wr.alloc (.cells #[.string f.name, .slice a1 m1 k1, .slice a2 m2 k2] 47)) := below_alloc (Below.refl _ _) _
      have b7 := Zz.mk (Blk.new wr 47 #[.string f.name, .slice a1 m1 k1, .slice a2 m2 k2])
      replace H := Zz.mk (H.out.below hal)
      have XR := Zz.mk (H.out.fs.read HKK.out f.name)
      clear hf v1 v2 hi hal
      go_wp2_with fail
      go_at_call 18
      with_reducible refine (XR.out).mono ?_
      rintro e w7 ⟨v7, rfl, ho7, hb7⟩
      clear y0 y1 y2 hi2 hi0
      replace H := Zz.mk (H.out.below hb7)
      replace b7 := Zz.mk (Blk.belowW b7.out hb7)
      have z0 := b7.out.cell 0 rfl
      obtain ⟨c00, c01, c02, c03, c04, c05, d00, d01, d02, d03, d04, d05⟩ := Blk.six H.out.box
      have XQ := Zz.mk (ref_read H.out.val HBD.out f.name S.no S.ops S.fuse S.fault)
      clear hb7 XR
      replace ho7 := Zz.mk ho7
      go_wp2_with fail
      go_at_call 38
      with_reducible refine (XQ.out).mono ?_
      rintro _ w8 ⟨v8, rfl, hr8, hb8⟩
      have V8 := Zz.mk (RB.of_R (base := w8.heap.size) (Lz := NoL) hr8 (fun _ _ h => h))
      have V7 := Zz.mk ((RB.of_R (base := w8.heap.size) (Lz := NoL) ho7.out (fun _ _ h => h)).below hb8)
      replace H := Zz.mk (H.out.below hb8)
      replace b7 := Zz.mk (Blk.belowW b7.out hb8)
      obtain ⟨gn, hAw, hnm⟩ := H.out.name HFF.out
      have HLM := Zz.mk (V_len H.out.val)
      have hi0 : (0 : Int) ≤ (i : Int) := Int.natCast_nonneg i
      clear hr8 hb8 XQ c00 c01 c02 c03 c04 c05 d00 d01 d02 d03 d04 d05 z0 hnm
      subst hAw
      go_upto_region 9 with (fail)
      rename_i KQ hKQ
      have him : i < m := by have := HI.out; omega
      refine regionH (fun w' : World => w'.cell? ⟨gn, i, none⟩ = some (.string f.name) ∧ w'.cell? ⟨wr.heap.size, 0, none⟩ = some (.string f.name)) (by kernel_rfl) (fun wd hb => ?_)
      replace H := Zz.mk (H.out.below hb)
      replace b7 := Zz.mk (Blk.belowW b7.out hb)
      replace V7 := Zz.mk (V7.out.below hb)
      replace V8 := Zz.mk (V8.out.below hb)
      clear hb
      have hHd : (fun w' : World => w'.cell? ⟨gn, i, none⟩ = some (.string f.name) ∧ w'.cell? ⟨wr.heap.size, 0, none⟩ = some (.string f.name)) wd := ⟨by obtain ⟨g_, e_, h_⟩ := H.out.name HFF.out; cases e_; exact h_, b7.out.cell 0 rfl⟩
      refine takeH (i := 0) (v := ?v50) rfl (by kernel_rfl) (by kernel_rfl) (by kernel_rfl) (fun _ _ _ h => h) (Or.inl ⟨by rfl, ?hy50⟩) (by assumption) ?rest50
      case hy50 => (intro w hSw; (try dsimp only at hSw); go_simp; try (with_reducible rfl))
      case rest50 =>
      try simp only [Act.put, List.setIfInBounds_toArray, List.set_cons_zero, List.set_cons_succ]
      refine takeH (i := 1) (v := ?v51) rfl (by kernel_rfl) (by kernel_rfl) (by kernel_rfl) (fun _ _ _ h => h) (Or.inl ⟨by rfl, ?hy51⟩) (by assumption) ?rest51
      case hy51 => (intro w hSw; (try dsimp only at hSw); go_simp; try (with_reducible rfl))
      case rest51 =>
      try simp only [Act.put, List.setIfInBounds_toArray, List.set_cons_zero, List.set_cons_succ]
      refine takeH (i := 2) (v := ?v52) rfl (by kernel_rfl) (by kernel_rfl) (by kernel_rfl) (fun _ _ _ h => h) (Or.inl ⟨by rfl, ?hy52⟩) (by assumption) ?rest52
      case hy52 => (intro w hSw; (try dsimp only at hSw); go_simp; try (with_reducible rfl))
      case rest52 =>
      try simp only [Act.put, List.setIfInBounds_toArray, List.set_cons_zero, List.set_cons_succ]
      refine takeH (i := 3) (v := ?v53) rfl (by kernel_rfl) (by kernel_rfl) (by kernel_rfl) (fun _ _ _ h => h) (Or.inl ⟨by rfl, ?hy53⟩) (by assumption) ?rest53
      case hy53 => (intro w hSw; (try dsimp only at hSw); go_simp; try (with_reducible rfl))
      case rest53 =>
      try simp only [Act.put, List.setIfInBounds_toArray, List.set_cons_zero, List.set_cons_succ]
      refine takeH (i := 4) (v := ?v54) rfl (by kernel_rfl) (by kernel_rfl) (by kernel_rfl) (fun _ _ _ h => h) (Or.inl ⟨by rfl, ?hy54⟩) (by assumption) ?rest54
      case hy54 => (intro w hSw; (try dsimp only at hSw); go_simp; try (with_reducible rfl))
      case rest54 =>
      try simp only [Act.put, List.setIfInBounds_toArray, List.set_cons_zero, List.set_cons_succ]
      refine takeH (i := 5) (v := ?v55) rfl (by kernel_rfl) (by kernel_rfl) (by kernel_rfl) (fun _ _ _ h => h) (Or.inl ⟨by rfl, ?hy55⟩) (by assumption) ?rest55
      case hy55 => (intro w hSw; (try dsimp only at hSw); go_simp; try (with_reducible rfl))
      case rest55 =>
      try simp only [Act.put, List.setIfInBounds_toArray, List.set_cons_zero, List.set_cons_succ]
      refine takeH (i := 6) (v := ?v56) rfl (by kernel_rfl) (by kernel_rfl) (by kernel_rfl) (fun _ _ _ h => h) (Or.inl ⟨by rfl, ?hy56⟩) (by assumption) ?rest56
      case hy56 => (intro w hSw; (try dsimp only at hSw); go_simp; try (with_reducible rfl))
      case rest56 =>
      try simp only [Act.put, List.setIfInBounds_toArray, List.set_cons_zero, List.set_cons_succ]
      refine takeH (i := 7) (v := ?v57) rfl (by kernel_rfl) (by kernel_rfl) (by kernel_rfl) (fun _ _ _ h => h) (Or.inl ⟨by rfl, ?hy57⟩) (by assumption) ?rest57
      case hy57 => (intro w hSw; (try dsimp only at hSw); go_simp; try (with_reducible rfl))
      case rest57 =>
      try simp only [Act.put, List.setIfInBounds_toArray, List.set_cons_zero, List.set_cons_succ]
      refine takeH (i := 8) (v := ?v58) rfl (by kernel_rfl) (by kernel_rfl) (by kernel_rfl) (fun _ _ _ h => h) (Or.inl ⟨by rfl, ?hy58⟩) (by assumption) ?rest58
      case hy58 => (intro w hSw; (try dsimp only at hSw); go_simp; try (with_reducible rfl))
      case rest58 =>
      try simp only [Act.put, List.setIfInBounds_toArray, List.set_cons_zero, List.set_cons_succ]
      refine takeH (i := 9) (v := ?v59) rfl (by kernel_rfl) (by kernel_rfl) (by kernel_rfl) (fun _ _ _ h => h) (Or.inl ⟨by rfl, ?hy59⟩) (by assumption) ?rest59
      case hy59 => (intro w hSw; (try dsimp only at hSw); go_simp; try (with_reducible rfl))
      case rest59 =>
      try simp only [Act.put, List.setIfInBounds_toArray, List.set_cons_zero, List.set_cons_succ]
      refine takeH (i := 10) (v := ?v60) rfl (by kernel_rfl) (by kernel_rfl) (by kernel_rfl) (fun _ _ _ h => h) (Or.inl ⟨by rfl, ?hy60⟩) (by assumption) ?rest60
      case hy60 => (intro w hSw; (try dsimp only at hSw); go_simp; try (with_reducible rfl))
      case rest60 =>
      try simp only [Act.put, List.setIfInBounds_toArray, List.set_cons_zero, List.set_cons_succ]
      refine takeH (i := 11) (v := ?v61) rfl (by kernel_rfl) (by kernel_rfl) (by kernel_rfl) (fun _ _ _ h => h) (Or.inl ⟨by rfl, ?hy61⟩) (by assumption) ?rest61
      case hy61 => (intro w hSw; (try dsimp only at hSw); go_simp; try (with_reducible rfl))
      case rest61 =>
      try simp only [Act.put, List.setIfInBounds_toArray, List.set_cons_zero, List.set_cons_succ]
      refine takeH (i := 12) (v := ?v62) rfl (by kernel_rfl) (by kernel_rfl) (by kernel_rfl) (fun _ _ _ h => h) (Or.inl ⟨by rfl, ?hy62⟩) (by assumption) ?rest62
      case hy62 => (intro w hSw; (try dsimp only at hSw); go_simp; try (with_reducible rfl))
      case rest62 =>
      try simp only [Act.put, List.setIfInBounds_toArray, List.set_cons_zero, List.set_cons_succ]
      refine takeH (i := 13) (v := ?v63) rfl (by kernel_rfl) (by kernel_rfl) (by kernel_rfl) (fun _ _ _ h => h) (Or.inl ⟨by rfl, ?hy63⟩) (by assumption) ?rest63
      case hy63 => (intro w hSw; (try dsimp only at hSw); go_simp; try (with_reducible rfl))
      case rest63 =>
      try simp only [Act.put, List.setIfInBounds_toArray, List.set_cons_zero, List.set_cons_succ]
      refine takeH (i := 14) (v := ?v64) rfl (by kernel_rfl) (by kernel_rfl) (by kernel_rfl) (fun _ _ _ h => h) (Or.inl ⟨by rfl, ?hy64⟩) (by assumption) ?rest64
      case hy64 => (intro w hSw; (try dsimp only at hSw); go_simp; try (with_reducible rfl))
      case rest64 =>
      try simp only [Act.put, List.setIfInBounds_toArray, List.set_cons_zero, List.set_cons_succ]
      refine wpAnyH_ready (rs := [15]) (by kernel_rfl) (by simp) ?_
      refine consH rfl (fun K hK => ?_) AllReadyH.nil
      go_simp
      go_at_call 21
      refine (equal_calls V7.out V8.out rfl).mono ?_
      rintro _ wq ⟨rfl, hb⟩
      replace H := Zz.mk (H.out.below hb)
      replace b7 := Zz.mk (Blk.belowW b7.out hb)
      clear hb hHd
      have hHd : (fun w' : World => w'.cell? ⟨gn, i, none⟩ = some (.string f.name) ∧ w'.cell? ⟨wr.heap.size, 0, none⟩ = some (.string f.name)) wq := ⟨by obtain ⟨g_, e_, h_⟩ := H.out.name HFF.out; cases e_; exact h_, b7.out.cell 0 rfl⟩
      go_simp
      refine hK.out _ _ hHd ?_
      clear hK K
      try simp only [Act.put, List.setIfInBounds_toArray, List.set_cons_zero, List.set_cons_succ]
      refine takeH (i := 16) (v := ?v65) rfl (by kernel_rfl) (by kernel_rfl) (by kernel_rfl) (fun _ _ _ h => h) (Or.inl ⟨by rfl, ?hy65⟩) (by assumption) ?rest65
      case hy65 => (intro w hSw; (try dsimp only at hSw); go_simp; try (with_reducible rfl))
      case rest65 =>
      try simp only [Act.put, List.setIfInBounds_toArray, List.set_cons_zero, List.set_cons_succ]
      refine takeH (i := 17) (v := ?v66) rfl (by kernel_rfl) (by kernel_rfl) (by kernel_rfl) (fun _ _ _ h => h) (Or.inl ⟨by rfl, ?hy66⟩) (by assumption) ?rest66
      case hy66 => (intro w hSw; (try dsimp only at hSw); go_simp; try (with_reducible rfl))
      case rest66 =>
      try simp only [Act.put, List.setIfInBounds_toArray, List.set_cons_zero, List.set_cons_succ]
      refine wpAnyH_done (by kernel_rfl) ?_ _
      refine hKQ _ _ ?_
      clear hHd him
      go_wp2_with fail
      go_roundg d
      case measure => omega
      case rel => exact ⟨i + 1, by have := HI.out; omega, (by have h1 := HI.out; have h2 := HLM.out; rw [List.length_map] at h2; have h3 := HBD.out.1; exact congrArg (Value.int .i64) (by unfold wrap64; omega)), H⟩
end Go.Proofs.Ytcpkoajnepijkaa

