/- Parts of the proof of the law that the last file states; declarations that nothing mentions are left out by a program. No conditions. -/
import Derived.Test.YtcpkoajnepijkaaRefCq
set_option linter.unusedVariables false
set_option linter.unusedSimpArgs false
namespace Go.Proofs.Ytcpkoajnepijkaa
open Go.RowKit Go.Proofs.YtcpkoajnepijkaaL Go.Proofs.YtcpkoajnepijkaaW.PrintWords Go.Proofs.Ytcpkoajnepijkaa.Q
theorem info31 : (Try.prog.info? 31).map (·.size) = some 1 := by kernel_rfl
theorem info27 : (Try.prog.info? 27).map (·.size) = some 1 := by kernel_rfl
theorem cr_succ {j : Nat} (h : j ≤ 1000000) : Value.int .i64 (wrap64 ((j : Int) + 1)) = Value.int .i64 ((j + 1 : Nat) : Int) := congrArg (Value.int .i64) (by unfold wrap64; omega)
set_option maxRecDepth 100000 in
set_option maxHeartbeats 8000000 in
theorem refcr_calls {w : World} {P : Nat → Prop} {A : Option Addr} {c m : Nat} {S : PS} (h : Kd.V k47 47 w w.heap.size P (.slice A m c) (S.l.map toF)) (hB : BoundP S) {Gk ok ck : Nat} {Ak : Option Addr} {keep : List Bool} (hAk : 0 < keep.length → Ak = some ⟨Gk, ok, none⟩) (hkeep : ∀ i (hi : i < keep.length), w.cell? ⟨Gk, ok + i, none⟩ = some (.bool keep[i])) (hkl : keep.length ≤ 1000000) :
    Calls Try.prog 34 #[.agg #[.slice A m c, .int .i64 S.no, .int .i64 S.ops, .int .i64 S.fuse, .int .i64 S.fault, .bool S.down], .slice Ak keep.length ck] w fun e w' => ∃ v', e = .returned v' ∧ RSt w' (fun k => P k ∨ w.heap.size ≤ k) v' (crashP S keep) ∧ Below w.heap.size w w' := by
  have H := Zz.mk (Kd.V_bound h)
  have HBD := Zz.mk hB
  have HAK := Zz.mk hAk
  have HKC := Zz.mk hkeep
  have HM := Zz.mk (V_len h)
  have HF := Zz.mk (Fr.start w)
  clear h hB hAk hkeep
  go_enter Try.func34, Try.ntmps34
  have hu29 := Try.underlying29
  have hu47 := Try.underlying47
  have hu91 := Try.underlying91
  go_wp2_with (first
    | ((with_reducible refine gate_dst (N := 2) rfl ?_); refine box_event ?hg (N := 2) ?hd (cs := #[.slice A m c, .int .i64 S.no, .int .i64 S.ops, .int .i64 S.fuse, .int .i64 S.fault, .bool S.down]) (t := 29) ?hr ?_; (case hd => rfl); (case hg => rfl); (case hr => first | (go_simp; done) | (go_simp; rfl)); intro g0 hg w1 hx hb; replace HF := Zz.mk (HF.out.box hg hb (Blk.lt (show Blk w1 g0 29 _ from hx))); have B0 := Zz.mk (show Blk w1 g0 29 _ from hx); clear hg hx hb; obtain ⟨c00, c01, c02, c03, c04, c05, d00, d01, d02, d03, d04, d05⟩ := Blk.six B0.out)
    | ((with_reducible refine gate_dst (N := 4) rfl ?_); refine box_event ?hg (N := 4) ?hd (cs := #[.slice none 0 0, .int .i64 0, .int .i64 0, .int .i64 0, .int .i64 0, .bool false]) (t := 29) ?hr ?_; (case hd => rfl); (case hg => rfl); (case hr => first | (go_simp; done) | (go_simp; rfl)); intro g1 hg w2 hx hb; have hE01 := HF.out.ne (k := g0) (by simp) hg; have hE10 := hE01.symm; replace B0 := Zz.mk (Blk.belowW B0.out hb); have HO1 := Zz.mk (show g0 < g1 from by have := (HF.out.lt g0 (by simp)).2; omega); replace HF := Zz.mk (HF.out.box hg hb (Blk.lt (show Blk w2 g1 29 _ from hx))); have B1 := Zz.mk (show Blk w2 g1 29 _ from hx); clear hg hx hb; clear c00 c01 c02 c03 c04 c05 d00 d01 d02 d03 d04 d05; obtain ⟨c00, c01, c02, c03, c04, c05, d00, d01, d02, d03, d04, d05⟩ := Blk.six B0.out; obtain ⟨c10, c11, c12, c13, c14, c15, d10, d11, d12, d13, d14, d15⟩ := Blk.six B1.out)
    | (go_at_call 13; (with_reducible refine (souffleurref10_New.calls [] 0 0 (-1) (-1) false _ rfl).mono ?_); rintro _ wc ⟨v, rfl, hv, hb⟩; obtain ⟨A9, c9, rfl⟩ := Kd.R_slice hv; have NR := Zz.mk (Kd.N_lower (Kd.N_mono (ok' := Fp w P [g1, g0]) (Kd.R_N (Kd.R_bound hv)) (fun k hk => ⟨.inr (Nat.le_trans HF.out.size hk.2.1), fun hm => by have h1 := (HF.out.lt k hm).2; have h2 := hk.2.1; omega⟩)) HF.out.size); clear hv; replace B0 := Zz.mk (Blk.belowW B0.out hb); replace B1 := Zz.mk (Blk.belowW B1.out hb); replace HF := Zz.mk (HF.out.call hb); clear hb; clear c00 c01 c02 c03 c04 c05 d00 d01 d02 d03 d04 d05; clear c10 c11 c12 c13 c14 c15 d10 d11 d12 d13 d14 d15; obtain ⟨c00, c01, c02, c03, c04, c05, d00, d01, d02, d03, d04, d05⟩ := Blk.six B0.out; obtain ⟨c10, c11, c12, c13, c14, c15, d10, d11, d12, d13, d14, d15⟩ := Blk.six B1.out)
    | ((with_reducible refine gate_dst (N := 5) rfl ?_); refine box_event ?hg (N := 5) ?hd (cs := #[.slice none 0 0, .int .i64 0, .int .i64 0, .int .i64 0, .int .i64 0, .bool false]) (t := 29) ?hr ?_; (case hd => rfl); (case hg => rfl); (case hr => first | (go_simp; done) | (go_simp; rfl)); intro g2 hg w3 hx hb; have hE02 := HF.out.ne (k := g0) (by simp) hg; have hE20 := hE02.symm; have hE12 := HF.out.ne (k := g1) (by simp) hg; have hE21 := hE12.symm; replace B0 := Zz.mk (Blk.belowW B0.out hb); replace B1 := Zz.mk (Blk.belowW B1.out hb); replace NR := Zz.mk (Fn.box NR.out hg hb); have HO2 := Zz.mk (show g1 < g2 from by have := (HF.out.lt g1 (by simp)).2; omega); replace HF := Zz.mk (HF.out.box hg hb (Blk.lt (show Blk w3 g2 29 _ from hx))); have B2 := Zz.mk (show Blk w3 g2 29 _ from hx); clear hg hx hb; clear c00 c01 c02 c03 c04 c05 d00 d01 d02 d03 d04 d05; clear c10 c11 c12 c13 c14 c15 d10 d11 d12 d13 d14 d15; obtain ⟨c00, c01, c02, c03, c04, c05, d00, d01, d02, d03, d04, d05⟩ := Blk.six B0.out; obtain ⟨c10, c11, c12, c13, c14, c15, d10, d11, d12, d13, d14, d15⟩ := Blk.six B1.out; obtain ⟨c20, c21, c22, c23, c24, c25, d20, d21, d22, d23, d24, d25⟩ := Blk.six B2.out)
    | ((with_reducible refine gate_store (t := 29) (p := 5) rfl ?_); refine store_event rfl rfl (g := g2) (cells := #[.slice A9 0 c9, .int .i64 0, .int .i64 0, .int .i64 (-1), .int .i64 (-1), .bool false]) (by first | rfl | (go_simp; done) | (go_simp; rfl)) (by first | rfl | (go_simp; done) | (go_simp; rfl)) B2.out info29 rfl (by simp [Value.oneCell']) ?_; intro ws hx hk hz hb; replace B2 := Zz.mk (hx); replace B0 := Zz.mk (show Blk ws g0 29 _ from blk_kept B0.out hk hE02); replace B1 := Zz.mk (show Blk ws g1 29 _ from blk_kept B1.out hk hE12); replace NR := Zz.mk (Fn.store NR.out hk (by simp)); replace HF := Zz.mk (HF.out.store hz hb (by simp)); clear hx hk hz hb; skip; clear c00 c01 c02 c03 c04 c05 d00 d01 d02 d03 d04 d05; clear c10 c11 c12 c13 c14 c15 d10 d11 d12 d13 d14 d15; clear c20 c21 c22 c23 c24 c25 d20 d21 d22 d23 d24 d25; obtain ⟨c00, c01, c02, c03, c04, c05, d00, d01, d02, d03, d04, d05⟩ := Blk.six B0.out; obtain ⟨c10, c11, c12, c13, c14, c15, d10, d11, d12, d13, d14, d15⟩ := Blk.six B1.out; obtain ⟨c20, c21, c22, c23, c24, c25, d20, d21, d22, d23, d24, d25⟩ := Blk.six B2.out)
    | ((with_reducible refine gate_store (t := 3) (p := 13) rfl ?_); refine store1_event rfl rfl (g := g2) (i := 2) (v := .int .i64 S.ops) (by first | rfl | (go_simp; done) | (go_simp; rfl)) (by first | rfl | (go_simp; done) | (go_simp; rfl)) B2.out (by simp) info3 rfl ?_; intro ws hx hk hz hb; have n_ := Zz.mk (show Blk ws g2 29 #[.slice A9 0 c9, .int .i64 0, .int .i64 S.ops, .int .i64 (-1), .int .i64 (-1), .bool false] from hx); clear B2; have B2 := n_; clear n_; replace B0 := Zz.mk (show Blk ws g0 29 _ from blk_kept B0.out hk hE02); replace B1 := Zz.mk (show Blk ws g1 29 _ from blk_kept B1.out hk hE12); replace NR := Zz.mk (Fn.store NR.out hk (by simp)); replace HF := Zz.mk (HF.out.store hz hb (by simp)); clear hx hk hz hb; clear c00 c01 c02 c03 c04 c05 d00 d01 d02 d03 d04 d05; clear c10 c11 c12 c13 c14 c15 d10 d11 d12 d13 d14 d15; clear c20 c21 c22 c23 c24 c25 d20 d21 d22 d23 d24 d25; obtain ⟨c00, c01, c02, c03, c04, c05, d00, d01, d02, d03, d04, d05⟩ := Blk.six B0.out; obtain ⟨c10, c11, c12, c13, c14, c15, d10, d11, d12, d13, d14, d15⟩ := Blk.six B1.out; obtain ⟨c20, c21, c22, c23, c24, c25, d20, d21, d22, d23, d24, d25⟩ := Blk.six B2.out)
    | ((with_reducible refine gate_store (t := 3) (p := 16) rfl ?_); refine store1_event rfl rfl (g := g2) (i := 1) (v := .int .i64 S.no) (by first | rfl | (go_simp; done) | (go_simp; rfl)) (by first | rfl | (go_simp; done) | (go_simp; rfl)) B2.out (by simp) info3 rfl ?_; intro ws hx hk hz hb; have n_ := Zz.mk (show Blk ws g2 29 #[.slice A9 0 c9, .int .i64 S.no, .int .i64 S.ops, .int .i64 (-1), .int .i64 (-1), .bool false] from hx); clear B2; have B2 := n_; clear n_; replace B0 := Zz.mk (show Blk ws g0 29 _ from blk_kept B0.out hk hE02); replace B1 := Zz.mk (show Blk ws g1 29 _ from blk_kept B1.out hk hE12); replace NR := Zz.mk (Fn.store NR.out hk (by simp)); replace HF := Zz.mk (HF.out.store hz hb (by simp)); clear hx hk hz hb; clear c00 c01 c02 c03 c04 c05 d00 d01 d02 d03 d04 d05; clear c10 c11 c12 c13 c14 c15 d10 d11 d12 d13 d14 d15; clear c20 c21 c22 c23 c24 c25 d20 d21 d22 d23 d24 d25; obtain ⟨c00, c01, c02, c03, c04, c05, d00, d01, d02, d03, d04, d05⟩ := Blk.six B0.out; obtain ⟨c10, c11, c12, c13, c14, c15, d10, d11, d12, d13, d14, d15⟩ := Blk.six B1.out; obtain ⟨c20, c21, c22, c23, c24, c25, d20, d21, d22, d23, d24, d25⟩ := Blk.six B2.out))
  have H0 : Zz (CrO w ws P g0 g1 g2 A m c S keep 0 A9 0 c9) := ⟨⟨B0.out, B1.out, B2.out, HF.out, ⟨HO1.out, HO2.out⟩, NR.out⟩⟩
  clear B0 B1 B2 HF HO1 HO2 NR c00 c01 c02 c03 c04 c05 d00 d01 d02 d03 d04 d05 c10 c11 c12 c13 c14 c15 d10 d11 d12 d13 d14 d15 c20 c21 c22 c23 c24 c25 d20 d21 d22 d23 d24 d25 hE01 hE10 hE02 hE20 hE12 hE21
  go_loopg [6] m (fun kq v6 w' => ∃ i : Nat, i + kq = m ∧ v6 = .int .i64 i ∧ ∃ A9 m9 c9, Zz (CrO w w' P g0 g1 g2 A m c S keep i A9 m9 c9))
  case atStart => exact ⟨0, by omega, rfl, _, _, _, H0⟩
  case round =>
    clear H0
    obtain ⟨i, hi, rfl, A9, m9, c9, HO⟩ := hrel
    have x0 := HO.out.b0.cell 0 rfl
    cases gk with
    | zero =>
      have hlt : decide (i < m) = false := decide_eq_false (by omega)
      have HI := Zz.mk (show i = m by omega)
      clear hi
      skip
      obtain ⟨c00, c01, c02, c03, c04, c05, d00, d01, d02, d03, d04, d05⟩ := Blk.six HO.out.b2
      obtain ⟨c10, c11, c12, c13, c14, c15, d10, d11, d12, d13, d14, d15⟩ := Blk.six HO.out.b1
      have hE12 : g1 ≠ g2 := by have := HO.out.ord.2; omega
      have hE21 : g2 ≠ g1 := hE12.symm
      go_upto_region 15 with fail
      iterate 11 go_step
      exact HO.out.done (by have h1 := HI.out; have h2 := HM.out; rw [List.length_map] at h2; omega) rfl rfl rfl
    | succ d =>
      have hml := HM.out
      rw [List.length_map] at hml
      obtain ⟨f, hf⟩ : ∃ f, S.l[i]? = some f := ⟨_, List.getElem?_eq_getElem (by omega)⟩
      have hlt : decide ((i : Int) < (m : Int)) = true := decide_eq_true (by omega)
      have hlt2 : decide (i < m) = true := decide_eq_true (by omega)
      have hi0 : (0 : Int) ≤ (i : Int) := Int.natCast_nonneg i
      obtain ⟨ad, a1, m1, k1, a2, m2, k2, hA, y0, y1, y2, v1, v2, hi2⟩ := file_V H.out hf
      subst hA
      have HY2 := Zz.mk y2
      have W1 := Zz.mk v1
      have W2 := Zz.mk v2
      have HFI := Zz.mk hf
      have HI := Zz.mk hi
      replace y0 := (HO.out.fr.below.cell (World.block_lt_of_cell? w _ y0)).trans y0
      replace y1 := (HO.out.fr.below.cell (World.block_lt_of_cell? w _ y1)).trans y1
      clear hml hf v1 v2 hi y2
      go_upto_region 7 with fail
      rename_i KK hKK
      refine regionK (fun w' : World => w'.cell? ⟨g0, 0, none⟩ = some (.slice (some ad) m c) ∧ w'.cell? (ad.add (i * 3)) = some (.string f.name) ∧ w'.cell? ⟨(ad.add (i * 3)).block, (ad.add (i * 3)).off + 1, none⟩ = some (.slice a1 m1 k1)) 14 (by kernel_rfl) (fun wd hb => ?_)
      replace HO := Zz.mk (HO.out.below hb)
      replace y0 := (hb.cell (World.block_lt_of_cell? _ _ y0)).trans y0
      replace y1 := (hb.cell (World.block_lt_of_cell? _ _ y1)).trans y1
      clear x0
      have x0 := HO.out.b0.cell 0 rfl
      clear hb
      have hHd : (fun w' : World => w'.cell? ⟨g0, 0, none⟩ = some (.slice (some ad) m c) ∧ w'.cell? (ad.add (i * 3)) = some (.string f.name) ∧ w'.cell? ⟨(ad.add (i * 3)).block, (ad.add (i * 3)).off + 1, none⟩ = some (.slice a1 m1 k1)) wd := ⟨x0, y0, y1⟩
      have HH : Zz (∀ W', Below wd.heap.size wd W' → (fun w' : World => w'.cell? ⟨g0, 0, none⟩ = some (.slice (some ad) m c) ∧ w'.cell? (ad.add (i * 3)) = some (.string f.name) ∧ w'.cell? ⟨(ad.add (i * 3)).block, (ad.add (i * 3)).off + 1, none⟩ = some (.slice a1 m1 k1)) W') := ⟨fun W' hb => ⟨(hb.cell (World.block_lt_of_cell? wd _ x0)).trans x0, (hb.cell (World.block_lt_of_cell? wd _ y0)).trans y0, (hb.cell (World.block_lt_of_cell? wd _ y1)).trans y1⟩⟩
      refine wpAnyK_take (i := 0) (v := ?v27) rfl (by kernel_rfl) (by kernel_rfl) (by kernel_rfl) (by kernel_rfl) (fun _ _ _ h => h) (Or.inl ⟨by rfl, ?hy27⟩) (by assumption) ?rest27
      case hy27 => (intro w hSw; (try dsimp only at hSw); go_simp; try (with_reducible rfl))
      case rest27 =>
      try simp only [Act.put, List.setIfInBounds_toArray, List.set_cons_zero, List.set_cons_succ]
      refine wpAnyK_take (i := 1) (v := ?v28) rfl (by kernel_rfl) (by kernel_rfl) (by kernel_rfl) (by kernel_rfl) (fun _ _ _ h => h) (Or.inl ⟨by rfl, ?hy28⟩) (by assumption) ?rest28
      case hy28 => (intro w hSw; (try dsimp only at hSw); go_simp; try (with_reducible rfl))
      case rest28 =>
      try simp only [Act.put, List.setIfInBounds_toArray, List.set_cons_zero, List.set_cons_succ]
      refine wpAnyK_take (i := 2) (v := ?v29) rfl (by kernel_rfl) (by kernel_rfl) (by kernel_rfl) (by kernel_rfl) (fun _ _ _ h => h) (Or.inl ⟨by rfl, ?hy29⟩) (by assumption) ?rest29
      case hy29 => (intro w hSw; (try dsimp only at hSw); go_simp; try (with_reducible rfl))
      case rest29 =>
      try simp only [Act.put, List.setIfInBounds_toArray, List.set_cons_zero, List.set_cons_succ]
      refine wpAnyK_take (i := 3) (v := ?v30) rfl (by kernel_rfl) (by kernel_rfl) (by kernel_rfl) (by kernel_rfl) (fun _ _ _ h => h) (Or.inl ⟨by rfl, ?hy30⟩) (by assumption) ?rest30
      case hy30 => (intro w hSw; (try dsimp only at hSw); go_simp; try (with_reducible rfl))
      case rest30 =>
      try simp only [Act.put, List.setIfInBounds_toArray, List.set_cons_zero, List.set_cons_succ]
      refine wpAnyK_take (i := 4) (v := ?v31) rfl (by kernel_rfl) (by kernel_rfl) (by kernel_rfl) (by kernel_rfl) (fun _ _ _ h => h) (Or.inl ⟨by rfl, ?hy31⟩) (by assumption) ?rest31
      case hy31 => (intro w hSw; (try dsimp only at hSw); go_simp; try (with_reducible rfl))
      case rest31 =>
      try simp only [Act.put, List.setIfInBounds_toArray, List.set_cons_zero, List.set_cons_succ]
      refine wpAnyK_take (i := 5) (v := ?v32) rfl (by kernel_rfl) (by kernel_rfl) (by kernel_rfl) (by kernel_rfl) (fun _ _ _ h => h) (Or.inl ⟨by rfl, ?hy32⟩) (by assumption) ?rest32
      case hy32 => (intro w hSw; (try dsimp only at hSw); go_simp; try (with_reducible rfl))
      case rest32 =>
      try simp only [Act.put, List.setIfInBounds_toArray, List.set_cons_zero, List.set_cons_succ]
      refine wpAnyK_take (i := 6) (v := ?v33) rfl (by kernel_rfl) (by kernel_rfl) (by kernel_rfl) (by kernel_rfl) (fun _ _ _ h => h) (Or.inl ⟨by rfl, ?hy33⟩) (by assumption) ?rest33
      case hy33 => (intro w hSw; (try dsimp only at hSw); go_simp; try (with_reducible rfl))
      case rest33 =>
      try simp only [Act.put, List.setIfInBounds_toArray, List.set_cons_zero, List.set_cons_succ]
      refine wpAnyK_take (i := 7) (v := ?v34) rfl (by kernel_rfl) (by kernel_rfl) (by kernel_rfl) (by kernel_rfl) (fun _ _ _ h => h) (Or.inl ⟨by rfl, ?hy34⟩) (by assumption) ?rest34
      case hy34 => (intro w hSw; (try dsimp only at hSw); go_simp; try (with_reducible rfl))
      case rest34 =>
      try simp only [Act.put, List.setIfInBounds_toArray, List.set_cons_zero, List.set_cons_succ]
      refine wpAnyK_take (i := 8) (v := ?v35) rfl (by kernel_rfl) (by kernel_rfl) (by kernel_rfl) (by kernel_rfl) (fun _ _ _ h => h) (Or.inl ⟨by rfl, ?hy35⟩) (by assumption) ?rest35
      case hy35 => (intro w hSw; (try dsimp only at hSw); go_simp; try (with_reducible rfl))
      case rest35 =>
      try simp only [Act.put, List.setIfInBounds_toArray, List.set_cons_zero, List.set_cons_succ]
      refine wpAnyK_take (i := 9) (v := ?v36) rfl (by kernel_rfl) (by kernel_rfl) (by kernel_rfl) (by kernel_rfl) (fun _ _ _ h => h) (Or.inl ⟨by rfl, ?hy36⟩) (by assumption) ?rest36
      case hy36 => (intro w hSw; (try dsimp only at hSw); go_simp; try (with_reducible rfl))
      case rest36 =>
      try simp only [Act.put, List.setIfInBounds_toArray, List.set_cons_zero, List.set_cons_succ]
      refine wpAnyK_take (i := 10) (v := ?v37) rfl (by kernel_rfl) (by kernel_rfl) (by kernel_rfl) (by kernel_rfl) (fun _ _ _ h => h) (Or.inl ⟨by rfl, ?hy37⟩) (by assumption) ?rest37
      case hy37 => (intro w hSw; (try dsimp only at hSw); go_simp; try (with_reducible rfl))
      case rest37 =>
      try simp only [Act.put, List.setIfInBounds_toArray, List.set_cons_zero, List.set_cons_succ]
      refine wpAnyK_take (i := 11) (v := ?v38) rfl (by kernel_rfl) (by kernel_rfl) (by kernel_rfl) (by kernel_rfl) (fun _ _ _ h => h) (Or.inl ⟨by rfl, ?hy38⟩) (by assumption) ?rest38
      case hy38 => (intro w hSw; (try dsimp only at hSw); go_simp; try (with_reducible rfl))
      case rest38 =>
      try simp only [Act.put, List.setIfInBounds_toArray, List.set_cons_zero, List.set_cons_succ]
      refine wpAnyK_take (i := 12) (v := ?v39) rfl (by kernel_rfl) (by kernel_rfl) (by kernel_rfl) (by kernel_rfl) (fun _ _ _ h => h) (Or.inl ⟨by rfl, ?hy39⟩) (by assumption) ?rest39
      case hy39 => (intro w hSw; (try dsimp only at hSw); go_simp; try (with_reducible rfl))
      case rest39 =>
      try simp only [Act.put, List.setIfInBounds_toArray, List.set_cons_zero, List.set_cons_succ]
      refine wpAnyK_ready (rs := [13]) (by kernel_rfl) (by simp) ?_
      refine AllReadyK.cons rfl (fun K hK => ?_) AllReadyK.nil
      refine box_step (by first | rfl | (go_simp; done) | (go_simp; rfl)) (N := 7) rfl (cs := #[.string ByteArray.empty, .slice none 0 0, .slice none 0 0]) (t := 47) (by first | (go_simp; done) | (go_simp; rfl)) ?_
      intro g3 hg w1x hx hb
      refine hK.out _ _ (.inr (HH.out _ hb)) ?_
      clear hK K
      try simp only [Act.put, List.setIfInBounds_toArray, List.set_cons_zero, List.set_cons_succ]
      refine wpAnyK_ready (rs := [14]) (by kernel_rfl) (by simp) ?_
      refine AllReadyK.cons rfl (fun K hK => ?_) AllReadyK.nil
      rw [if_pos (by first | rfl | (go_simp; done) | (go_simp; rfl))]
      refine store_step (ops := #[]) rfl rfl (g := g3) (cells := #[.string f.name, .slice a1 m1 k1, .slice none 0 0]) (by first | rfl | (go_simp; done) | (go_simp; rfl)) (by first | rfl | (go_simp; done) | (go_simp; rfl)) (show Blk w1x g3 47 _ from hx) info47 rfl (by simp [Value.oneCell']) ?_
      intro ws hx2 hk hz hb2
      have H1 : Zz (CrI w ws P g0 g1 g2 g3 (some ad) m c S keep i A9 m9 c9 f 0 a1 m1 k1) := ⟨HO.out.box hg hx2 (hb2 hb (Nat.le_of_eq hg.symm)) (V_rebase (Kd.V_below W1.out (hb2 (below_step HO.out.fr.below hb) (hg ▸ HO.out.fr.size))))⟩
      clear hg hx hb hx2 hk hz hb2 HO HH hHd x0 y0 y1
      refine hK.out _ _ (.inl (by kernel_rfl)) ?_
      clear hK K
      try simp only [Act.put, List.setIfInBounds_toArray, List.set_cons_zero, List.set_cons_succ]
      refine wpAnyK_done (by kernel_rfl) ?_ _
      refine hKK _ _ ?_
      go_wp2_with fail
      go_loopg [8] f.row.length (fun kq v8 w' => ∃ j : Nat, j + kq = f.row.length ∧ v8 = .int .i64 j ∧ ∃ aB nB cB, Zz (CrI w w' P g0 g1 g2 g3 (some ad) m c S keep i A9 m9 c9 f j aB nB cB))
      case atStart => exact ⟨0, by omega, rfl, _, _, _, H1⟩
      case round =>
        clear H1 KK hKK
        obtain ⟨j, hj, rfl, aB, nB, cB, HC⟩ := hrel
        obtain ⟨x0, x1, x2, x3, x4, x5, _, _, _, _, _, _⟩ := Blk.six HC.out.b0
        have y2 := (HC.out.fr.below.cell (World.block_lt_of_cell? w _ HY2.out)).trans HY2.out
        have hm2 := V_len W2.out
        rw [List.length_map] at hm2
        cases gk with
        | zero =>
          have q1 : decide ((j : Int) < (m2 : Int)) = false := decide_eq_false (by omega)
          have q2 : decide (j < m2) = false := decide_eq_false (by omega)
          have HJ := Zz.mk (show j = f.row.length by omega)
          clear hj hm2
          have u0 := HC.out.b2.cell 0 rfl
          obtain ⟨t0, t1, t2, _, _, _⟩ := Blk.three HC.out.b3
          have hjj := HJ.out
          subst hjj
          go_wp2_with (first
            | ((with_reducible refine gate_builtin (b := .append) (xs := #[.tmp 78, .tmp 80]) rfl ?_); at_builtin; refine Kd.N_append k47 (w0 := w) w.heap.size rfl (.tmp 78) (.tmp 80) 27 47 (.agg #[(.string ⟨#[]⟩), (.slice none 0 0), (.slice none 0 0)]) 64 rfl Try.underlying27 Q.info47 rfl (by decide) (by omega) (.slice A9 m9 c9) (((S.l.take i).map (crF S keep)).map toF) (toF (crF S keep f)) [.string f.name, .slice aB nB cB, .slice none 0 0] (Fp w P [g3, g2, g1, g0]) (okI w P g3) rfl rfl HC.out.elem HC.out.okI HC.out.fresh HC.out.row HC.out.fr.below HC.out.fr.size (by rw [List.length_map, List.length_map, List.length_take]; have := HBD.out.1; omega) ?_; intro v1 w1 hn hb hg hat; obtain ⟨A8, n8, c8, rfl⟩ : ∃ A8 n8 c8, v1 = .slice A8 n8 c8 := by { obtain ⟨A8, c8, e⟩ := Kd.N_slice hn; exact ⟨A8, _, c8, e⟩ }; have HN8 := Zz.mk hn; have HB8 := Zz.mk hb; have HG8 := Zz.mk hg; clear hn hb hg hat u0 t0 t1 t2 x0 x1 x2 x3 x4 x5 y2)
            | ((with_reducible refine gate_store (t := 27) (p := 82) rfl ?_); refine store1_event rfl rfl (g := g2) (i := 0) (v := .slice A8 n8 c8) (by first | rfl | (go_simp; done) | (go_simp; rfl)) (by first | rfl | (go_simp; done) | (go_simp; rfl)) (HC.out.b2far HG8.out) (by simp) info27 rfl ?_; intro wz hx hk hz hb; have HON : Zz (CrO w wz P g0 g1 g2 (some ad) m c S keep (i + 1) A8 n8 c8) := ⟨HC.out.more HFI.out HN8.out HB8.out HG8.out hx hk hz hb⟩; clear hx hk hz hb HC HN8 HB8 HG8))
          go_roundg d
          case measure => have := HI.out; omega
          case rel => exact ⟨i + 1, by have := HI.out; omega, cr_succ (by have h1 := HI.out; have h2 := HM.out; rw [List.length_map] at h2; have h3 := HBD.out.1; omega), _, _, _, HON⟩
        | succ d2 =>
          obtain ⟨p, hp⟩ : ∃ p, f.row[j]? = some p := ⟨_, List.getElem?_eq_getElem (by omega)⟩
          obtain ⟨ad2, b1, n1, l1, hA2, z0, z1, z2, v1, hj2⟩ := part_V W2.out hp
          subst hA2
          have q1 : decide ((j : Int) < (m2 : Int)) = true := decide_eq_true hj2
          have q2 : decide (j < m2) = true := decide_eq_true (by omega)
          have hj0 : (0 : Int) ≤ (j : Int) := Int.natCast_nonneg j
          replace z0 := (HC.out.fr.below.cell (World.block_lt_of_cell? w _ z0)).trans z0
          replace z1 := (HC.out.fr.below.cell (World.block_lt_of_cell? w _ z1)).trans z1
          replace z2 := (HC.out.fr.below.cell (World.block_lt_of_cell? w _ z2)).trans z2
          have W3 := Zz.mk v1
          have HJ := Zz.mk (And.intro hj hp)
          clear hj hp v1 hm2
          by_cases hk0 : keep.length = 0
          · have r0 : decide (0 < (keep.length : Int)) = false := decide_eq_false (by omega)
            have r1 : decide (0 < keep.length) = false := decide_eq_false (by omega)
            have HK0 := Zz.mk hk0
            clear hk0
            go_wp2_with fail
            go_roundg d2
            case measure => have := HJ.out.1; omega
            case rel =>
              obtain ⟨hjl, e⟩ := List.getElem?_eq_some_iff.1 HJ.out.2
              exact ⟨j + 1, by have := HJ.out.1; omega, cr_succ (by have := HJ.out.1; have := (HBD.out.2 f (List.mem_of_getElem? HFI.out)).2.1; omega), _, _, _, ⟨(HC.out.skip hjl (by simp [keptAt, HK0.out])).below (below_alloc (Below.refl _ _) _)⟩⟩
          · have hkp : 0 < keep.length := by omega
            obtain ⟨r, hr⟩ : ∃ r, r = rankP S p.no := ⟨_, rfl⟩
            have HR := Zz.mk hr
            have hml := Nat.mod_lt r hkp
            have hAk := HAK.out hkp
            subst hAk
            have kc0 := HKC.out _ hml
            have hGw := World.block_lt_of_cell? w _ kc0
            replace kc0 := (HC.out.fr.below.cell (p := ⟨Gk, ok + r % keep.length, none⟩) hGw).trans kc0
            have hmod : ((r : Int).tmod (keep.length : Int)) = ((r % keep.length : Nat) : Int) := rfl
            obtain ⟨q, hq⟩ : ∃ q, q = r % keep.length := ⟨_, rfl⟩
            rw [← hq] at hmod
            have hql : q < keep.length := by omega
            have kc : wr.cell? ⟨Gk, ok + q, none⟩ = some (.bool keep[q]) := by
              have e : keep[q] = keep[r % keep.length] := by simp [hq]
              rw [e, hq]; exact kc0
            have hqi : (q : Int) < (keep.length : Int) := by omega
            have hkz : (0 : Int) < (keep.length : Int) := by omega
            have r0 : decide (0 < (keep.length : Int)) = true := decide_eq_true hkz
            have r1 : decide (0 < keep.length) = true := decide_eq_true hkp
            have HKA : Zz (keptAt keep (rankP S p.no) = keep[q]) := ⟨by unfold keptAt; rw [← hr, ← hq, List.getD_eq_getElem?_getD, List.getElem?_eq_getElem hql]; simp [hkp]⟩
            have XRK : Zz (∀ w', Below w.heap.size w w' → Calls Try.prog 50 #[.agg #[.slice (some ad) m c, .int .i64 S.no, .int .i64 S.ops, .int .i64 S.fuse, .int .i64 S.fault, .bool S.down], .int .i64 p.no] w' fun e w'' => e = .returned (.int .i64 r) ∧ Below w'.heap.size w' w'') := ⟨fun w' hb => by
              have hv := Kd.V_below H.out hb
              have hm := V_len hv
              subst hm
              obtain ⟨_, hc, hF⟩ := Kd.V_at hv
              rw [hr]
              exact souffleurref10_rank.calls (S.l.length * 200000 + 1) _ c (S.l.map toF) _ _ _ _ _ _ _ w' (Kd.F_now hF) hc (rank_tells S HBD.out p.no (by omega) _ _ _ _ _)⟩
            have HQ := Zz.mk hq
            have hal : Below wr.heap.size wr (wr.alloc (.cells #[.int .i64 p.no, .int .i64 p.at_, .slice b1 n1 l1] 91)) := below_alloc (Below.refl _ _) _
            have HC1 := Zz.mk (HC.out.below hal)
            have HPB := Zz.mk (Blk.new wr 91 #[.int .i64 p.no, .int .i64 p.at_, .slice b1 n1 l1])
            clear kc0 hml hGw hq hk0 hr hal HQ HC
            obtain ⟨bq, hbq⟩ : ∃ bq, keep[q] = bq := ⟨_, rfl⟩
            rw [hbq] at kc HKA
            clear hbq
            have kca : (wr.alloc (.cells #[.int .i64 p.no, .int .i64 p.at_, .slice b1 n1 l1] 91)).cell? ⟨Gk, ok + q, none⟩ = some (.bool bq) := by rw [World.cell?_alloc_some _ _ _ (by rw [kc]; rfl)]; exact kc
            have HGA := Zz.mk (World.block_lt_of_cell? _ _ kca)
            obtain ⟨e0, e1, e2, e3, e4, e5, _, _, _, _, _, _⟩ := Blk.six HC1.out.b0
            cases bq with
            | false =>
              go_wp2_with (first | (go_at_call 50; (with_reducible refine (XRK.out _ HC1.out.fr.below).mono ?_); rintro _ wk ⟨rfl, hbk⟩; have HC2 := Zz.mk (HC1.out.below hbk); have kc2 := (hbk.cell (p := ⟨Gk, ok + q, none⟩) HGA.out).trans kca; clear hbk HC1 HPB kc kca XRK HGA))
              go_roundg d2
              case measure => have := HJ.out.1; omega
              case rel =>
                obtain ⟨hjl, e⟩ := List.getElem?_eq_some_iff.1 HJ.out.2
                exact ⟨j + 1, by have := HJ.out.1; omega, cr_succ (by have := HJ.out.1; have := (HBD.out.2 f (List.mem_of_getElem? HFI.out)).2.1; omega), _, _, _, ⟨HC2.out.skip hjl (by rw [e]; exact HKA.out)⟩⟩
            | true =>
              have HRB := Zz.mk (HBD.out.2 f (List.mem_of_getElem? HFI.out))
              have XOV : Zz (∀ w', CrI w w' P g0 g1 g2 g3 (some ad) m c S keep i A9 m9 c9 f j aB nB cB → Calls Try.prog 51 #[.slice aB nB cB, .agg #[.int .i64 p.no, .int .i64 p.at_, .slice b1 n1 l1]] w' fun e w'' => ∃ A' n' c', e = .returned (.slice A' n' c') ∧ Kd.V (Kd.int .u8) 5 w'' 0 (fun k => w'.heap.size ≤ k) (.slice A' n' c') (overP (crB S keep f j) p) ∧ Below w'.heap.size w' w'') := ⟨fun w' hc => by
                have hv3 := Kd.V_below W3.out hc.fr.below
                have hm1 := V_len hc.cur
                have hm3 := V_len hv3
                subst hm1 hm3
                obtain ⟨_, l1', g1'⟩ := Kd.V_at hc.cur
                obtain ⟨_, l3', g3'⟩ := Kd.V_at hv3
                have hpl := HRB.out.2.2 p (List.mem_of_getElem? HJ.out.2)
                have hcl := crB_le S keep HRB.out.1 HRB.out.2 j
                refine (souffleurref10_over.calls 300001 aB cB (crB S keep f j) p.no p.at_ b1 l1 p.b _ w' (Kd.F_now g1') l1' (Kd.F_now g3') l3' (over_tells _ p (by omega) (by omega) (Nat.le_refl _))).mono ?_
                rintro _ w'' ⟨v, rfl, hv, hb⟩
                obtain ⟨A', c', rfl⟩ := Kd.R_slice hv
                exact ⟨A', _, c', rfl, Kd.V_mono (Kd.N_V (Kd.R_N (Kd.R_bound hv))) (fun k hk => hk.2.1), hb⟩⟩
              go_wp2_with (first
                | (go_at_call 50; (with_reducible refine (XRK.out _ HC1.out.fr.below).mono ?_); rintro _ wk ⟨rfl, hbk⟩; have HC2 := Zz.mk (HC1.out.below hbk); have HP2 := Zz.mk (Blk.belowW HPB.out hbk); have kc2 := (hbk.cell (p := ⟨Gk, ok + q, none⟩) HGA.out).trans kca; obtain ⟨s0, s1, s2, _, _, _⟩ := Blk.three HP2.out; obtain ⟨t0, t1, t2, _, _, _⟩ := Blk.three HC2.out.b3; clear hbk HC1 HPB kc kca XRK HGA)
                | (go_at_call 51; (with_reducible refine (XOV.out _ HC2.out).mono ?_); rintro _ wo ⟨A', n', c', rfl, hvo, hbo⟩; have HVO := Zz.mk hvo; have HBO := Zz.mk hbo; have HC3 := Zz.mk (HC2.out.below hbo); clear hvo hbo XOV s0 s1 s2 t0 t1 t2 kc2 HP2)
                | ((with_reducible refine gate_store (t := 31) (p := 76) rfl ?_); refine store1_event rfl rfl (g := g3) (i := 1) (v := .slice A' n' c') (by first | rfl | (go_simp; done) | (go_simp; rfl)) (by first | rfl | (go_simp; done) | (go_simp; rfl)) HC3.out.b3 (by simp) info31 rfl ?_; intro wz hx hk hz hb; have HCN : Zz (CrI w wz P g0 g1 g2 g3 (some ad) m c S keep i A9 m9 c9 f (j + 1) A' n' c') := ⟨by obtain ⟨hjl, e⟩ := List.getElem?_eq_some_iff.1 HJ.out.2; exact HC2.out.lay hjl (by rw [e]; exact HKA.out) HBO.out (by rw [e]; exact HVO.out) hx hk hz hb⟩; clear hx hk hz hb HC2 HC3 HVO HBO))
              go_roundg d2
              case measure => have := HJ.out.1; omega
              case rel => exact ⟨j + 1, by have := HJ.out.1; omega, cr_succ (by have := HJ.out.1; have := (HBD.out.2 f (List.mem_of_getElem? HFI.out)).2.1; omega), _, _, _, HCN⟩
end Go.Proofs.Ytcpkoajnepijkaa

