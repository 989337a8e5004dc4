/- Parts of the proof of the law that the last file states; declarations that nothing mentions are left out by a program. No conditions. -/
import Derived.Test.YtledplnlcjfafaaDoorLTermW4q
set_option linter.unusedVariables false
set_option linter.unusedSimpArgs false
namespace Go.Proofs.YtledplnlcjfafaaDoorL
open Go Go.RowKit Go.Proofs.YtledplnlcjfafaaDoorW.PrintWords
structure Rows (B : Nat) (w : World) (v : Value) (L : List RR) (l : List (List TC)) : Prop where
  q : rrK.Q 40 w B (fun k => B ≤ k) v L
  f : All2 (RowAt w) L l
  nd : (L.map RR.g).Nodup
  ge : ∀ r ∈ L, B ≤ r.g
theorem Rows.nil (B : Nat) (w : World) : Rows B w (.slice none 0 0) [] [] := ⟨Kd.Q_nil _ _ _ _ _, .nil, List.nodup_nil, fun r hr => by cases hr⟩
theorem Rows.below {B : Nat} {w w' : World} {v : Value} {L : List RR} {l : List (List TC)} (h : Rows B w v L l) (hb : Below w.heap.size w w') : Rows B w' v L l :=
  ⟨Kd.Q_below h.q hb, forall_imp h.f (fun r _ l hl => hl.to (hb.block r.g hl.lt)), h.nd, h.ge⟩
theorem Rows.lt {B : Nat} {w : World} {v : Value} {L : List RR} {l : List (List TC)} (h : Rows B w v L l) : ∀ r ∈ L, r.g < w.heap.size := fun r hr => by
  obtain ⟨l, _, h1⟩ := forall_mem h.f hr
  exact h1.lt
theorem Rows.app {B : Nat} {w w1 : World} {v v1 : Value} {L : List RR} {l : List (List TC)} {rn : RR} {ln : List TC} (h : Rows B w v L l) (hr : RowAt w rn ln) (hn : ∀ r ∈ L, r.g ≠ rn.g) (hB : B ≤ rn.g) (hq : rrK.Q 40 w1 B (fun k => B ≤ k) v1 (L ++ [rn])) (hg : w.grownBy w1 v.ownBlock) : Rows B w1 v1 (L ++ [rn]) (l ++ [ln]) := by
  have k : ∀ r l, RowAt w r l → RowAt w1 r l := fun r l hl => hl.to (hg.block _ hl.lt (fun e => q_type_ne h.q hl (by decide) e.symm))
  refine ⟨hq, all2_app (forall_imp h.f (fun r _ l hl => k r l hl)) (k rn ln hr), ?_, fun r hr => ?_⟩
  · rw [List.map_append, List.nodup_append]
    refine ⟨h.nd, by simp, fun a ha b hb => ?_⟩
    obtain ⟨r, hr, rfl⟩ := List.mem_map.1 ha
    rw [List.map_singleton, List.mem_singleton] at hb
    rw [hb]
    exact hn r hr
  · rcases List.mem_append.1 hr with h1 | h1
    · exact h.ge r h1
    · rw [List.mem_singleton.1 h1]; exact hB
theorem Rows.set_ {B g i : Nat} {w : World} {v : Value} {L : List RR} {l : List (List TC)} {cs : Array Value} (h : Rows B w v L l) (hb : Blk w g 74 cs) (u : Value) : Rows B (w.setCell ⟨g, i, none⟩ u) v L l := by
  have hk : ∀ k, k ≠ g → (w.setCell ⟨g, i, none⟩ u).heap[k]? = w.heap[k]? := fun k hk => Below.heap_setCell w ⟨g, i, none⟩ u k hk
  exact ⟨q_frame rfl h.q (fun k hk1 => hk k (fun e => Kd.Q_ne h.q hb (by decide) (by rw [hk1, e]))), forall_imp h.f (fun r _ l hl => hl.to (hk r.g (fun e => hl.ne_blk hb (by decide) e.symm))), h.nd, h.ge⟩
def newK (C k : Nat) : Tm := ⟨C, List.replicate k (blankR C), [], 0, 0, 0, false, false, 0, ⟨#[]⟩, []⟩
theorem info_spine1 : (Tryd.prog.info? 36).map (·.size) = some 1 := by kernel_rfl
set_option maxRecDepth 100000 in
set_option maxHeartbeats 4000000 in
theorem new_calls (rows cols : Int) (w : World) :
    Calls Tryd.prog 15 #[.int .i64 rows, .int .i64 cols] w fun e w' => ∃ T, e = .returned (.pointer (some ⟨T, 0, none⟩)) ∧ TermAt (fun k => w.heap.size ≤ k) w' T (newT rows cols) ∧ Below w.heap.size w w' := by
  have hr := cutN_le rows (n := 60) (by omega)
  have hc := cutN_le cols (n := 120) (by omega)
  have XC := Hd.mk (fun w1 => cutn_calls rows cols w1)
  have HN : Hd (newT rows cols = newK (cutN cols 120) (cutN rows 60)) := ⟨rfl⟩
  generalize cutN rows 60 = R at *
  generalize cutN cols 120 = C at *
  rw [HN.out]
  clear HN
  go_enter Tryd.func15, Tryd.ntmps15
  go_wp2_with fail
  go_at_call 31
  with_reducible refine (XC.out _).mono ?_
  rintro _ w1 ⟨rfl, rfl⟩
  clear XC
  go_upto_region 3 with ((with_reducible refine gate_dst (N := 14) rfl ?_); refine box_event ?hg (N := 14) ?hd (cs := cellsT (newK C 0) (.slice none 0 0) (.slice none 0 0) (.slice none 0 0)) (t := 74) ?hr ?_; (case hd => rfl); (case hg => rfl); (case hr => first | (go_simp; done) | (go_simp; rfl)); intro g hg wg hx hb; have B0 := Hd.mk (show Blk wg g 74 _ from hx); have HB := Hd.mk hb; have HG := Hd.mk (Nat.le_of_eq hg.symm); clear hx hb hg)
  go_wp2_with fail
  go_loopg [16] R (fun kq v16 wx => ∃ (k : Nat) (lv : Value) (L1 : List RR), v16 = .int .i64 (k : Int) ∧ k + kq = R ∧ Hd (Blk wx g 74 (cellsT (newK C k) lv (.slice none 0 0) (.slice none 0 0))) ∧ Hd (Rows w1.heap.size wx lv L1 (List.replicate k (blankR C))) ∧ Hd (Below w1.heap.size w1 wx))
  case atStart => exact ⟨0, _, [], rfl, by omega, B0, ⟨Rows.nil _ _⟩, HB⟩
  case round =>
    clear B0 HB
    obtain ⟨k, lv, L1, rfl, hk, B0, HR, HB⟩ := hrel
    cases gk with
    | zero =>
      have hlt : decide ((k : Int) < (R : Int)) = false := decide_eq_false (by omega)
      have hlt2 : decide (k < R) = false := decide_eq_false (by omega)
      obtain rfl : k = R := by omega
      go_wp2
      go_ret
      exact ⟨g, rfl, ⟨lv, _, _, L1, [], ⟨B0.out, HG.out, Kd.Q_lower HR.out.q (Nat.zero_le _), Kd.Q_nil _ _ _ _ _, fun _ _ h => by (cases h), Kd.Q_nil _ _ _ _ _, HR.out.f, .nil, by rw [List.append_nil]; exact HR.out.nd, fun r hr => HR.out.ge r (by simpa using hr)⟩⟩, HB.out⟩
    | succ d =>
      have hlt : decide ((k : Int) < (R : Int)) = true := decide_eq_true (by omega)
      have hlt2 : decide (k < R) = true := decide_eq_true (by omega)
      have hk0 : (0 : Int) ≤ (k : Int) := Int.natCast_nonneg _
      have hk1 : (k : Int) ≤ 60 := by omega
      have HK : Hd (L1.length = k) := ⟨by rw [forall_len HR.out.f, List.length_replicate]⟩
      obtain ⟨A, c, rfl, _⟩ := Kd.Q_slice HR.out.q
      go_upto_region 5 with fail
      rename_i KQ hKQ
      refine regionK (fun w' : World => w'.cell? ⟨g, 1, none⟩ = some (.slice A L1.length c)) 11 (by kernel_rfl) (fun wd hb => ?_)
      replace B0 := Hd.mk (B0.out.to (hb.block g B0.out.lt))
      replace HR := Hd.mk (HR.out.below hb)
      replace HB := Hd.mk (HB.out.trans (hb.mono HB.out.size))
      clear hb
      have hHd : (fun w' : World => w'.cell? ⟨g, 1, none⟩ = some (.slice A L1.length c)) wd := B0.out.cell 1 rfl
      have XB := Hd.mk (blank_calls C hc.1 (by omega) wd)
      refine wpAnyK_take (i := 0) (v := ?v1) rfl (by kernel_rfl) (by kernel_rfl) (by kernel_rfl) (by kernel_rfl) (fun _ _ _ h => h) (Or.inl ⟨by rfl, ?hy1⟩) (by assumption) ?rest1
      case hy1 => (intro w hSw; (try dsimp only at hSw); go_simp; try (with_reducible rfl))
      case rest1 =>
      try simp only [Act.put, List.setIfInBounds_toArray, List.set_cons_zero, List.set_cons_succ]
      refine wpAnyK_take (i := 1) (v := ?v2) rfl (by kernel_rfl) (by kernel_rfl) (by kernel_rfl) (by kernel_rfl) (fun _ _ _ h => h) (Or.inl ⟨by rfl, ?hy2⟩) (by assumption) ?rest2
      case hy2 => (intro w hSw; (try dsimp only at hSw); go_simp; try (with_reducible rfl))
      case rest2 =>
      try simp only [Act.put, List.setIfInBounds_toArray, List.set_cons_zero, List.set_cons_succ]
      refine wpAnyK_take (i := 2) (v := ?v3) rfl (by kernel_rfl) (by kernel_rfl) (by kernel_rfl) (by kernel_rfl) (fun _ _ _ h => h) (Or.inl ⟨by rfl, ?hy3⟩) (by assumption) ?rest3
      case hy3 => (intro w hSw; (try dsimp only at hSw); go_simp; try (with_reducible rfl))
      case rest3 =>
      try simp only [Act.put, List.setIfInBounds_toArray, List.set_cons_zero, List.set_cons_succ]
      refine wpAnyK_take (i := 3) (v := ?v4) rfl (by kernel_rfl) (by kernel_rfl) (by kernel_rfl) (by kernel_rfl) (fun _ _ _ h => h) (Or.inl ⟨by rfl, ?hy4⟩) (by assumption) ?rest4
      case hy4 => (intro w hSw; (try dsimp only at hSw); go_simp; try (with_reducible rfl))
      case rest4 =>
      try simp only [Act.put, List.setIfInBounds_toArray, List.set_cons_zero, List.set_cons_succ]
      refine wpAnyK_take (i := 4) (v := ?v5) rfl (by kernel_rfl) (by kernel_rfl) (by kernel_rfl) (by kernel_rfl) (fun _ _ _ h => h) (Or.inl ⟨by rfl, ?hy5⟩) (by assumption) ?rest5
      case hy5 => (intro w hSw; (try dsimp only at hSw); go_simp; try (with_reducible rfl))
      case rest5 =>
      try simp only [Act.put, List.setIfInBounds_toArray, List.set_cons_zero, List.set_cons_succ]
      refine wpAnyK_take (i := 5) (v := ?v6) rfl (by kernel_rfl) (by kernel_rfl) (by kernel_rfl) (by kernel_rfl) (fun _ _ _ h => h) (Or.inl ⟨by rfl, ?hy6⟩) (by assumption) ?rest6
      case hy6 => (intro w hSw; (try dsimp only at hSw); go_simp; try (with_reducible rfl))
      case rest6 =>
      try simp only [Act.put, List.setIfInBounds_toArray, List.set_cons_zero, List.set_cons_succ]
      refine wpAnyK_ready (rs := [6]) (by kernel_rfl) (by simp) ?_
      refine AllReadyK.cons rfl (fun K hK => ?_) AllReadyK.nil
      go_simp
      go_at_call 32
      with_reducible refine XB.out.mono ?_
      rintro _ wr ⟨rn, rfl, hrn, hrg, hra, hb⟩
      have HRN : Hd (∀ r ∈ L1, r.g ≠ rn.g) := ⟨fun r hr e => by have := HR.out.lt r hr; omega⟩
      have HRG : Hd (w1.heap.size ≤ rn.g) := ⟨Nat.le_trans HB.out.size hrg⟩
      have HRA := Hd.mk hra
      replace B0 := Hd.mk (B0.out.to (hb.block g B0.out.lt))
      replace HR := Hd.mk (HR.out.below hb)
      replace HB := Hd.mk (HB.out.trans (hb.mono HB.out.size))
      clear hrn hrg hra hb XB hHd
      have hHd : (fun w' : World => w'.cell? ⟨g, 1, none⟩ = some (.slice A L1.length c)) wr := B0.out.cell 1 rfl
      go_simp
      refine hK.out _ _ (.inr hHd) ?_
      clear hK K
      try simp only [Act.put, List.setIfInBounds_toArray, List.set_cons_zero, List.set_cons_succ]
      refine wpAnyK_ready (rs := [7]) (by kernel_rfl) (by simp) ?_
      refine AllReadyK.cons rfl (fun K hK => ?_) AllReadyK.nil
      refine build1_step (by first | rfl | (go_simp; done) | (go_simp; rfl)) (N := 25) rfl (v := .slice (some ⟨rn.g, 0, none⟩) rn.n rn.c) (by first | (unfold RR.v; go_simp; done) | (unfold RR.v; go_simp; rfl)) ?_
      refine hK.out _ _ (.inr (Lib.cell?_alloc_some _ hHd)) ?_
      clear hK K
      try simp only [Act.put, List.setIfInBounds_toArray, List.set_cons_zero, List.set_cons_succ]
      refine wpAnyK_ready (rs := [8]) (by kernel_rfl) (by simp) ?_
      refine AllReadyK.cons rfl (fun K hK => ?_) AllReadyK.nil
      refine Kd.Q_append_step rrK (w0 := wr) (W := wr) w1.heap.size (by first | rfl | (go_simp; done) | (go_simp; rfl)) (.tmp 22) (.tmp 25) 36 40 (.slice none 0 0) 24 rfl Tryd.underlying36 infoRowz rfl (by decide) (by omega) (.slice A L1.length c) L1 rn [RR.v rn] (fun k => w1.heap.size ≤ k) (fun _ => False) rfl rfl rfl (fun _ hk => hk.elim) (fun k hk => Nat.le_trans HB.out.size hk) HR.out.q (Below.refl _ _) HB.out.size (by rw [HK.out]; omega) ?_
      intro v1 w3 hq_ hb_ hg_ ha_
      have hne : some g ≠ (Value.slice A L1.length c).ownBlock := Kd.Q_ne HR.out.q B0.out (by decide)
      have B1 := Hd.mk (B0.out.to (hg_.block g B0.out.lt hne))
      have HR3 := Hd.mk (HR.out.app HRA.out HRN.out HRG.out hq_ hg_)
      have HB3 := Hd.mk (HB.out.grown hg_ HB.out.size (fun k hk => Kd.Q_base HR.out.q k hk))
      obtain ⟨A1, c1, rfl, _⟩ := Kd.Q_slice hq_
      clear hq_ hb_ hg_ ha_ HR HB HRA B0 hHd hne
      have hHd : (fun w' : World => w'.cell? ⟨g, 1, none⟩ = some (.slice A L1.length c)) w3 := B1.out.cell 1 rfl
      refine hK.out _ _ (.inr hHd) ?_
      clear hK K
      try simp only [Act.put, List.setIfInBounds_toArray, List.set_cons_zero, List.set_cons_succ]
      refine wpAnyK_ready (rs := [9]) (by kernel_rfl) (by simp) ?_
      refine AllReadyK.cons rfl (fun K hK => ?_) AllReadyK.nil
      refine pure_step (by first | rfl | (go_simp; done) | (go_simp; rfl)) (v := .pointer (some ⟨g, 0, none⟩)) (by first | (go_simp; done) | (go_simp; rfl)) ?_
      refine hK.out _ _ (.inr (by assumption)) ?_
      clear hK K
      try simp only [Act.put, List.setIfInBounds_toArray, List.set_cons_zero, List.set_cons_succ]
      refine wpAnyK_take (i := 10) (v := ?v7) rfl (by kernel_rfl) (by kernel_rfl) (by kernel_rfl) (by kernel_rfl) (fun _ _ _ h => h) (Or.inl ⟨by rfl, ?hy7⟩) (by assumption) ?rest7
      case hy7 => (intro w hSw; (try dsimp only at hSw); go_simp; try (with_reducible rfl))
      case rest7 =>
      try simp only [Act.put, List.setIfInBounds_toArray, List.set_cons_zero, List.set_cons_succ]
      refine wpAnyK_ready (rs := [11]) (by kernel_rfl) (by simp) ?_
      refine AllReadyK.cons rfl (fun K hK => ?_) AllReadyK.nil
      rw [if_pos (by first | rfl | (go_simp; done) | (go_simp; rfl))]
      refine cell_step rfl rfl (g := g) (i := 1) (v := .slice A1 (L1 ++ [rn]).length c1) (by first | rfl | (go_simp; done) | (go_simp; rfl)) (by first | rfl | (go_simp; done) | (go_simp; rfl)) (B1.out.cell 1 rfl) (B1.out.frozen 1) info_spine1 rfl ?_
      have hne1 : some g ≠ (Value.slice A1 (L1 ++ [rn]).length c1).ownBlock := Kd.Q_ne HR3.out.q B1.out (by decide)
      have B2 := Hd.mk (show Blk (w3.setCell ⟨g, 1, none⟩ (.slice A1 (L1 ++ [rn]).length c1)) g 74 (cellsT (newK C (k + 1)) (.slice A1 (L1 ++ [rn]).length c1) (.slice none 0 0) (.slice none 0 0)) from B1.out.set_ 1 _)
      have HB4 := Hd.mk (HB3.out.setCell (p := ⟨g, 1, none⟩) HG.out (.slice A1 (L1 ++ [rn]).length c1))
      have HR4 := Hd.mk (HR3.out.set_ B1.out (i := 1) (.slice A1 (L1 ++ [rn]).length c1))
      rw [show List.replicate k (blankR C) ++ [blankR C] = List.replicate (k + 1) (blankR C) from List.replicate_succ'.symm] at HR4
      clear hHd B1 HR3 HB3 hne1
      refine hK.out _ _ (.inl (by kernel_rfl)) ?_
      clear hK K
      try simp only [Act.put, List.setIfInBounds_toArray, List.set_cons_zero, List.set_cons_succ]
      refine wpAnyK_done (by kernel_rfl) ?_ _
      refine hKQ _ _ ?_
      generalize w3.setCell ⟨g, 1, none⟩ (.slice A1 (L1 ++ [rn]).length c1) = w4 at *
      go_wp2
      go_roundg d
      case measure => omega
      case rel => exact ⟨k + 1, _, L1 ++ [rn], by simp, by omega, B2, HR4, HB4⟩
end Go.Proofs.YtledplnlcjfafaaDoorL

