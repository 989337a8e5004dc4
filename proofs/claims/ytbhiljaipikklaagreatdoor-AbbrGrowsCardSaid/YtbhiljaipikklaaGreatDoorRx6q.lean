/- Parts of the proof of the law that the last file states; declarations that nothing mentions are left out by a program. No conditions. -/
import Derived.Test.YtbhiljaipikklaaGreatDoorRx5q
set_option linter.unusedVariables false
set_option linter.unusedSimpArgs false
namespace Go.Proofs.YtbhiljaipikklaaGreatDoor.R
open Go.RowKit Go.Proofs.YtbhiljaipikklaaGreatDoorW.PrintWords Go.Proofs.YtbhiljaipikklaaGreatDoorW.PrintLast Go.Proofs.YtbhiljaipikklaaGreatDoorW.PrintMore
attribute [local go_sem] max2_int min2_int max_two min_two max_three min_three max_four min_four   -- for this text's walks alone
def souffleurref03_Back.l0 : Nat → Int → List Int → Int → Option (Int)
  | 0, _, _, _ => none
  | k + 1, x1, x5, x6 => if x6 > 0 then (if 0 ≤ x6 then (if x6 < (x5.length : Int) then (if (rd x5 x6) > x1 then (souffleurref03_Back.l0 k x1 x5 (wrap64 (x6 - 1))) else (some (rd x5 x6))) else (none)) else (none)) else (if 0 ≤ x6 then (if x6 < (x5.length : Int) then (some (rd x5 x6)) else (none)) else (none))
def souffleurref03_Back.f (k : Nat) (a0 : ByteArray) (a1 : Int) : Option (Int) := (souffleurref02_Bounds.f k a0).bind fun t188 => (souffleurref03_Back.l0 k a1 t188 (wrap64 ((t188.length : Int) - 1)))
set_option maxHeartbeats 8000000 in
set_option maxRecDepth 100000 in
theorem souffleurref03_Back.calls (k : Nat) (a0 : ByteArray) (a1 : Int) (r : Int) (w : World) (h : souffleurref03_Back.f k a0 a1 = some r) :
    Calls Tryz.prog 48 #[.string a0, .int .i64 a1] w fun e w' => e = .returned (.int .i64 r) ∧ Below w.heap.size w w' := by
  have HB := Zz.mk (Below.refl w.heap.size w)
  have H : ((souffleurref02_Bounds.f k a0).bind fun t188 => (souffleurref03_Back.l0 k a1 t188 (wrap64 ((t188.length : Int) - 1)))) = some r := h
  clear h
  replace H := Option.bind_eq_some_iff.mp H
  obtain ⟨t188, A30, H⟩ := H
  replace H : (souffleurref03_Back.l0 k a1 t188 (wrap64 ((t188.length : Int) - 1))) = some r := H
  have A3 := Zz.mk A30
  clear A30
  have H' := Zz.mk H
  clear H
  go_enter Tryz.func48, Tryz.ntmps48
  go_wp2_with (first | ((with_reducible refine gate_callee (f := 65) rfl ?_); refine goesL_ (some 8) rfl rfl Tryz.func65 (by kernel_rfl) rfl #[.string a0] rfl (by (try simp only [List.map_toArray, List.map_cons, List.map_nil]); first | done | rfl | (simp only [List.length_drop, List.length_take]; rfl)) ?_; (with_reducible refine (souffleurref02_Bounds.calls k a0 t188 _ A3.out).mono ?_); rintro e w4 ⟨v189, rfl, ho0, hb⟩; refine ⟨_, rfl, ?_⟩; have n0_ := Zz.mk (Kd.R_lower ho0 (below_size (by repeat (first | (with_reducible first | exact HB.out | apply below_alloc | apply pw_below_drewN | apply below_drew1) | exact HB.out)))); have n1_ := Zz.mk (below_step (by repeat (first | (with_reducible first | exact HB.out | apply below_alloc | apply pw_below_drewN | apply below_drew1) | exact HB.out)) hb); clear HB; have HO190 := n0_; have HB := n1_; clear n0_ n1_; (try clear hb); (try clear hb2); (try clear hk); (try clear hi); (try clear ho0); obtain ⟨Ao5, co5, eo5⟩ := Kd.R_slice HO190.out; subst eo5))
  go_loopg [6] k (fun kq v6 w' => ∃ (x6_1 : Int), v6 = .int .i64 x6_1 ∧ Zz (souffleurref03_Back.l0 kq a1 t188 x6_1 = some r) ∧ Zz (kq ≤ k) ∧ Zz (Kd.R (Kd.int .i64) 3 w' w.heap.size (fun _ => True) (.slice Ao5 t188.length co5) t188) ∧ Zz (Below w.heap.size w w'))
  case atStart => exact ⟨(wrap64 ((t188.length : Int) - 1)), (by first | rfl | (simp; done) | (simp [*]; done)), H', ⟨Nat.le_refl _⟩, ⟨by (with_reducible repeat (first | apply Kd.R_alloc | apply Kd.R_drewN | apply Kd.R_drew)); exact HO190.out⟩, ⟨by repeat (first | (with_reducible first | exact HB.out | apply below_alloc | apply pw_below_drewN | apply below_drew1) | exact HB.out)⟩⟩
  case round =>
    clear H'
    try clear p2
    try clear c4
    obtain ⟨x6_1, rfl, HA, HK1, HO_5, HB⟩ := hrel
    cases gk with
    | zero => exact absurd HA.out (by simp [souffleurref03_Back.l0])
    | succ k1 =>
      have H := HA.out
      clear HA
      simp only [souffleurref03_Back.l0] at H
      by_cases c6 : x6_1 > 0
      · rw [if_pos c6] at H
        have c6b0 : decide (0 < x6_1) = true := decide_eq_true c6
        clear c6
        by_cases c7 : 0 ≤ x6_1
        · rw [if_pos c7] at H
          have c7b0 : decide (0 ≤ x6_1) = true := decide_eq_true c7
          clear c7
          by_cases c8 : x6_1 < (t188.length : Int)
          · rw [if_pos c8] at H
            have c8b0 : decide (x6_1 < (t188.length : Int)) = true := decide_eq_true c8
            clear c8
            by_cases c9 : (rd t188 x6_1) > a1
            · rw [if_pos c9] at H
              have c9b0 : decide (a1 < (rd t188 x6_1)) = true := decide_eq_true c9
              clear c9
              have H' := Zz.mk H
              clear H
              have p191 : 0 ≤ (x6_1 : Int) := of_decide_eq_true (by first | (with_reducible assumption) | assumption)
              have q191 : x6_1 < (t188.length : Int) := of_decide_eq_true (by first | (with_reducible assumption) | assumption)
              obtain ⟨ad191, e191, hx191_0⟩ := Kd.at_int (Kd.R_reads' HO_5.out).2.2 x6_1 p191 q191
              cases e191
              replace p191 := eq_true p191
              replace q191 := eq_true q191
              go_wp2
              go_roundg k1
              case measure => have := HK1.out; omega
              case rel => exact ⟨(wrap64 (x6_1 - 1)), (by first | rfl | (simp; done) | (simp [*]; done)), H', ⟨by have := HK1.out; omega⟩, ⟨by (with_reducible repeat (first | apply Kd.R_alloc | apply Kd.R_drewN | apply Kd.R_drew)); exact HO_5.out⟩, ⟨by repeat (first | (with_reducible first | exact HB.out | apply below_alloc | apply pw_below_drewN | apply below_drew1) | exact HB.out)⟩⟩
            · rw [if_neg c9] at H
              have c9b0 : decide (a1 < (rd t188 x6_1)) = false := decide_eq_false c9
              clear c9
              obtain rfl := Option.some.inj H
              have p191 : 0 ≤ (x6_1 : Int) := of_decide_eq_true (by first | (with_reducible assumption) | assumption)
              have q191 : x6_1 < (t188.length : Int) := of_decide_eq_true (by first | (with_reducible assumption) | assumption)
              obtain ⟨ad191, e191, hx191_0⟩ := Kd.at_int (Kd.R_reads' HO_5.out).2.2 x6_1 p191 q191
              cases e191
              replace p191 := eq_true p191
              replace q191 := eq_true q191
              have p192 : 0 ≤ (x6_1 : Int) := of_decide_eq_true (by first | (with_reducible assumption) | assumption)
              have q192 : x6_1 < (t188.length : Int) := of_decide_eq_true (by first | (with_reducible assumption) | assumption)
              obtain ⟨ad192, e192, hx192_0⟩ := Kd.at_int (Kd.R_reads' HO_5.out).2.2 x6_1 p192 q192
              obtain rfl : ad191 = ad192 := (by injection e192)
              replace p192 := eq_true p192
              replace q192 := eq_true q192
              go_wp2
              go_ret
              exact ⟨by first | rfl | (simp [errW_none, errW_some] <;> rfl) | (simp [*, errW_none, errW_some] <;> rfl), by repeat (first | (with_reducible first | exact HB.out | apply below_alloc | apply pw_below_drewN | apply below_drew1) | exact HB.out)⟩
          · rw [if_neg c8] at H
            exact absurd H (by simp)
        · rw [if_neg c7] at H
          exact absurd H (by simp)
      · rw [if_neg c6] at H
        have c6b0 : decide (0 < x6_1) = false := decide_eq_false c6
        clear c6
        by_cases c10 : 0 ≤ x6_1
        · rw [if_pos c10] at H
          have c10b0 : decide (0 ≤ x6_1) = true := decide_eq_true c10
          clear c10
          by_cases c11 : x6_1 < (t188.length : Int)
          · rw [if_pos c11] at H
            have c11b0 : decide (x6_1 < (t188.length : Int)) = true := decide_eq_true c11
            clear c11
            obtain rfl := Option.some.inj H
            have p193 : 0 ≤ (x6_1 : Int) := of_decide_eq_true (by first | (with_reducible assumption) | assumption)
            have q193 : x6_1 < (t188.length : Int) := of_decide_eq_true (by first | (with_reducible assumption) | assumption)
            obtain ⟨ad193, e193, hx193_0⟩ := Kd.at_int (Kd.R_reads' HO_5.out).2.2 x6_1 p193 q193
            cases e193
            replace p193 := eq_true p193
            replace q193 := eq_true q193
            go_wp2
            go_ret
            exact ⟨by first | rfl | (simp [errW_none, errW_some] <;> rfl) | (simp [*, errW_none, errW_some] <;> rfl), by repeat (first | (with_reducible first | exact HB.out | apply below_alloc | apply pw_below_drewN | apply below_drew1) | exact HB.out)⟩
          · rw [if_neg c11] at H
            exact absurd H (by simp)
        · rw [if_neg c10] at H
          exact absurd H (by simp)
def souffleurref03_Make.f (k : Nat) (a0 : ByteArray) (a1 : Int) : Option (ByteArray × Int) := (souffleurref03_Plain.f a0).bind fun t195 => (if (t195.size : Int) > 600 then ((souffleurref03_Back.f k t195 600).bind fun t196 => (if 0 ≤ t196 then (if t196 ≤ (t195.size : Int) then ((souffleurref03_Back.f k (t195.extract 0 (t196 : Int).toNat) a1).bind fun t197 => (some (t195.extract 0 (t196 : Int).toNat, t197))) else (none)) else (none))) else ((souffleurref03_Back.f k t195 a1).bind fun t198 => (some (t195, t198))))
set_option maxHeartbeats 8000000 in
set_option maxRecDepth 100000 in
theorem souffleurref03_Make.calls (k : Nat) (a0 : ByteArray) (a1 : Int) (r1 : ByteArray) (r2 : Int) (w : World) (h : souffleurref03_Make.f k a0 a1 = some (r1, r2)) :
    Calls Tryz.prog 30 #[.string a0, .int .i64 a1] w fun e w' => e = .returned (.agg #[.string r1, .int .i64 r2]) ∧ Below w.heap.size w w' := by
  have hu41 := Tryz.underlying41
  have HB := Zz.mk (Below.refl w.heap.size w)
  have H : ((souffleurref03_Plain.f a0).bind fun t195 => (if (t195.size : Int) > 600 then ((souffleurref03_Back.f k t195 600).bind fun t196 => (if 0 ≤ t196 then (if t196 ≤ (t195.size : Int) then ((souffleurref03_Back.f k (t195.extract 0 (t196 : Int).toNat) a1).bind fun t197 => (some (t195.extract 0 (t196 : Int).toNat, t197))) else (none)) else (none))) else ((souffleurref03_Back.f k t195 a1).bind fun t198 => (some (t195, t198))))) = some (r1, r2) := h
  clear h
  replace H := Option.bind_eq_some_iff.mp H
  obtain ⟨t195, A30, H⟩ := H
  replace H : (if (t195.size : Int) > 600 then ((souffleurref03_Back.f k t195 600).bind fun t196 => (if 0 ≤ t196 then (if t196 ≤ (t195.size : Int) then ((souffleurref03_Back.f k (t195.extract 0 (t196 : Int).toNat) a1).bind fun t197 => (some (t195.extract 0 (t196 : Int).toNat, t197))) else (none)) else (none))) else ((souffleurref03_Back.f k t195 a1).bind fun t198 => (some (t195, t198)))) = some (r1, r2) := H
  have A3 := Zz.mk A30
  clear A30
  by_cases c4 : (t195.size : Int) > 600
  · rw [if_pos c4] at H
    have c4b0 : decide (600 < (t195.size : Int)) = true := decide_eq_true c4
    have c4b1 : decide (600 < t195.size) = true := decide_eq_true (by omega)
    clear c4
    replace H := Option.bind_eq_some_iff.mp H
    obtain ⟨t196, A50, H⟩ := H
    replace H : (if 0 ≤ t196 then (if t196 ≤ (t195.size : Int) then ((souffleurref03_Back.f k (t195.extract 0 (t196 : Int).toNat) a1).bind fun t197 => (some (t195.extract 0 (t196 : Int).toNat, t197))) else (none)) else (none)) = some (r1, r2) := H
    have A5 := Zz.mk A50
    clear A50
    by_cases c6 : 0 ≤ t196
    · rw [if_pos c6] at H
      have c6b0 := eq_true c6
      have c6b1 : decide (0 ≤ t196) = true := decide_eq_true c6
      clear c6
      by_cases c7 : t196 ≤ (t195.size : Int)
      · rw [if_pos c7] at H
        have c7b0 := eq_true c7
        have c7b1 : decide (t196 ≤ (t195.size : Int)) = true := decide_eq_true c7
        clear c7
        replace H := Option.bind_eq_some_iff.mp H
        obtain ⟨t197, A80, H⟩ := H
        replace H : (some (t195.extract 0 (t196 : Int).toNat, t197)) = some (r1, r2) := H
        have A8 := Zz.mk A80
        clear A80
        simp only [Option.some.injEq, Prod.mk.injEq] at H
        obtain ⟨rfl, rfl⟩ := H
        go_enter Tryz.func30, Tryz.ntmps30
        go_wp2_with (first | ((with_reducible refine gate_dst (N := 4) rfl ?_); refine box_event ?hg (N := 4) ?hd (cs := #[.string (⟨#[]⟩ : ByteArray), .int .i64 0]) (t := 41) ?hr ?_; (case hd => rfl); (case hg => rfl); (case hr => first | (go_simp; done) | (go_simp; rfl)); intro gb194 hg w9 hbox hb; have n0_ := Zz.mk (below_step (by repeat (first | (with_reducible first | exact HB.out | apply below_alloc | apply pw_below_drewN | apply below_drew1) | exact HB.out)) hb); have n1_ := Zz.mk (hbox); have n2_ := Zz.mk ((by rw [hg]; exact (below_size (by repeat (first | (with_reducible first | exact HB.out | apply below_alloc | apply pw_below_drewN | apply below_drew1) | exact HB.out))) : w.heap.size ≤ gb194)); have n3_ := Zz.mk ((by rw [hg]; exact (below_size (by repeat (first | (with_reducible first | exact HB.out | apply below_alloc | apply pw_below_drewN | apply below_drew1) | exact HB.out))) : w.heap.size ≤ gb194)); clear HB; have HB := n0_; have BK194 := n1_; have GW194 := n2_; have GE194 := n3_; clear n0_ n1_ n2_ n3_; clear hb hbox hg) | ((with_reducible refine gate_callee (f := 37) rfl ?_); refine goesL_ (some 6) rfl rfl Tryz.func37 (by kernel_rfl) rfl #[.string a0] rfl (by (try simp only [List.map_toArray, List.map_cons, List.map_nil]); first | done | rfl | (simp only [List.length_drop, List.length_take]; rfl)) ?_; (with_reducible refine (souffleurref03_Plain.calls a0 t195 _ A3.out).mono ?_); rintro e w10 ⟨rfl, hb⟩; refine ⟨_, rfl, ?_⟩; have n0_ := Zz.mk (blk_below (g := gb194) (o := .cells #[.string (⟨#[]⟩ : ByteArray), .int .i64 0] 41 (0, 0)) (by (with_reducible repeat (first | refine blk_drewN ?_ _ | refine blk_drew ?_ | refine blk_alloc ?_ _)); exact BK194.out) hb); have n1_ := Zz.mk (below_step (by repeat (first | (with_reducible first | exact HB.out | apply below_alloc | apply pw_below_drewN | apply below_drew1 | refine below_set ?_ GE194.out) | exact HB.out)) hb); clear BK194; clear HB; have BK194 := n0_; have HB := n1_; clear n0_ n1_; (try clear hb); (try clear hb2); (try clear hk); (try clear hi)) | ((with_reducible refine gate_callee (f := 48) rfl ?_); refine goesL_ (some 12) rfl rfl Tryz.func48 (by kernel_rfl) rfl #[.string t195, .int .i64 600] rfl (by (try simp only [List.map_toArray, List.map_cons, List.map_nil]); first | done | rfl | (simp only [List.length_drop, List.length_take]; rfl)) ?_; (with_reducible refine (souffleurref03_Back.calls k t195 600 t196 _ A5.out).mono ?_); rintro e w11 ⟨rfl, hb⟩; refine ⟨_, rfl, ?_⟩; have n0_ := Zz.mk (blk_below (g := gb194) (o := .cells #[.string (⟨#[]⟩ : ByteArray), .int .i64 0] 41 (0, 0)) (by (with_reducible repeat (first | refine blk_drewN ?_ _ | refine blk_drew ?_ | refine blk_alloc ?_ _)); exact BK194.out) hb); have n1_ := Zz.mk (below_step (by repeat (first | (with_reducible first | exact HB.out | apply below_alloc | apply pw_below_drewN | apply below_drew1 | refine below_set ?_ GE194.out) | exact HB.out)) hb); clear BK194; clear HB; have BK194 := n0_; have HB := n1_; clear n0_ n1_; (try clear hb); (try clear hb2); (try clear hk); (try clear hi)) | ((with_reducible refine gate_callee (f := 48) rfl ?_); refine goesL_ (some 17) rfl rfl Tryz.func48 (by kernel_rfl) rfl #[.string (t195.extract 0 (t196 : Int).toNat), .int .i64 a1] rfl (by (try simp only [List.map_toArray, List.map_cons, List.map_nil]); first | done | rfl | (simp only [List.length_drop, List.length_take]; rfl)) ?_; (with_reducible refine (souffleurref03_Back.calls k (t195.extract 0 (t196 : Int).toNat) a1 t197 _ A8.out).mono ?_); rintro e w12 ⟨rfl, hb⟩; refine ⟨_, rfl, ?_⟩; have n0_ := Zz.mk (blk_below (g := gb194) (o := .cells #[.string (⟨#[]⟩ : ByteArray), .int .i64 0] 41 (0, 0)) (by (with_reducible repeat (first | refine blk_drewN ?_ _ | refine blk_drew ?_ | refine blk_alloc ?_ _)); exact BK194.out) hb); have n1_ := Zz.mk (below_step (by repeat (first | (with_reducible first | exact HB.out | apply below_alloc | apply pw_below_drewN | apply below_drew1 | refine below_set ?_ GE194.out) | exact HB.out)) hb); clear BK194; clear HB; have BK194 := n0_; have HB := n1_; clear n0_ n1_; (try clear hb); (try clear hb2); (try clear hk); (try clear hi); have hcz13_0 : w12.cell? ⟨gb194, 0, none⟩ = some (.string (⟨#[]⟩ : ByteArray)) := (blk_cell BK194.out 0).trans rfl; have hcz13_1 : w12.cell? ⟨gb194, 1, none⟩ = some (.int .i64 0) := (blk_cell BK194.out 1).trans rfl; have hfz13_0 := blk_frozen BK194.out 0; have hfz13_1 := blk_frozen BK194.out 1))
        refine bodyPost_ret (results_cell_row rfl _ _ gb194 41 #[.string (t195.extract 0 (t196 : Int).toNat), .int .i64 t197] (0, 0) _ rfl (by (with_reducible repeat (first | refine blk_drewN ?_ _ | refine blk_drew ?_ | refine blk_alloc ?_ _)); refine blk_put (cs := #[.string (t195.extract 0 (t196 : Int).toNat), .int .i64 0]) ?_ 1 _ rfl; (with_reducible repeat (first | refine blk_drewN ?_ _ | refine blk_drew ?_ | refine blk_alloc ?_ _)); refine blk_put (cs := #[.string (⟨#[]⟩ : ByteArray), .int .i64 0]) ?_ 0 _ rfl; (with_reducible repeat (first | refine blk_drewN ?_ _ | refine blk_drew ?_ | refine blk_alloc ?_ _)); exact BK194.out) Tryz.underlying41 rfl (by kernel_rfl)) rfl ?_
        exact ⟨by first | rfl | (simp [errW_none, errW_some] <;> rfl) | (simp [*, errW_none, errW_some] <;> rfl), by repeat (first | (with_reducible first | exact HB.out | apply below_alloc | apply pw_below_drewN | apply below_drew1 | refine below_set ?_ GE194.out) | exact HB.out)⟩
      · rw [if_neg c7] at H
        exact absurd H (by simp)
    · rw [if_neg c6] at H
      exact absurd H (by simp)
  · rw [if_neg c4] at H
    have c4b0 : decide (600 < (t195.size : Int)) = false := decide_eq_false c4
    have c4b1 : decide (600 < t195.size) = false := decide_eq_false (by omega)
    clear c4
    replace H := Option.bind_eq_some_iff.mp H
    obtain ⟨t198, A140, H⟩ := H
    replace H : (some (t195, t198)) = some (r1, r2) := H
    have A14 := Zz.mk A140
    clear A140
    simp only [Option.some.injEq, Prod.mk.injEq] at H
    obtain ⟨rfl, rfl⟩ := H
    go_enter Tryz.func30, Tryz.ntmps30
    go_wp2_with (first | ((with_reducible refine gate_dst (N := 4) rfl ?_); refine box_event ?hg (N := 4) ?hd (cs := #[.string (⟨#[]⟩ : ByteArray), .int .i64 0]) (t := 41) ?hr ?_; (case hd => rfl); (case hg => rfl); (case hr => first | (go_simp; done) | (go_simp; rfl)); intro gb194 hg w15 hbox hb; have n0_ := Zz.mk (below_step (by repeat (first | (with_reducible first | exact HB.out | apply below_alloc | apply pw_below_drewN | apply below_drew1) | exact HB.out)) hb); have n1_ := Zz.mk (hbox); have n2_ := Zz.mk ((by rw [hg]; exact (below_size (by repeat (first | (with_reducible first | exact HB.out | apply below_alloc | apply pw_below_drewN | apply below_drew1) | exact HB.out))) : w.heap.size ≤ gb194)); have n3_ := Zz.mk ((by rw [hg]; exact (below_size (by repeat (first | (with_reducible first | exact HB.out | apply below_alloc | apply pw_below_drewN | apply below_drew1) | exact HB.out))) : w.heap.size ≤ gb194)); clear HB; have HB := n0_; have BK194 := n1_; have GW194 := n2_; have GE194 := n3_; clear n0_ n1_ n2_ n3_; clear hb hbox hg) | ((with_reducible refine gate_callee (f := 37) rfl ?_); refine goesL_ (some 6) rfl rfl Tryz.func37 (by kernel_rfl) rfl #[.string a0] rfl (by (try simp only [List.map_toArray, List.map_cons, List.map_nil]); first | done | rfl | (simp only [List.length_drop, List.length_take]; rfl)) ?_; (with_reducible refine (souffleurref03_Plain.calls a0 t195 _ A3.out).mono ?_); rintro e w16 ⟨rfl, hb⟩; refine ⟨_, rfl, ?_⟩; have n0_ := Zz.mk (blk_below (g := gb194) (o := .cells #[.string (⟨#[]⟩ : ByteArray), .int .i64 0] 41 (0, 0)) (by (with_reducible repeat (first | refine blk_drewN ?_ _ | refine blk_drew ?_ | refine blk_alloc ?_ _)); exact BK194.out) hb); have n1_ := Zz.mk (below_step (by repeat (first | (with_reducible first | exact HB.out | apply below_alloc | apply pw_below_drewN | apply below_drew1 | refine below_set ?_ GE194.out) | exact HB.out)) hb); clear BK194; clear HB; have BK194 := n0_; have HB := n1_; clear n0_ n1_; (try clear hb); (try clear hb2); (try clear hk); (try clear hi)) | ((with_reducible refine gate_callee (f := 48) rfl ?_); refine goesL_ (some 17) rfl rfl Tryz.func48 (by kernel_rfl) rfl #[.string t195, .int .i64 a1] rfl (by (try simp only [List.map_toArray, List.map_cons, List.map_nil]); first | done | rfl | (simp only [List.length_drop, List.length_take]; rfl)) ?_; (with_reducible refine (souffleurref03_Back.calls k t195 a1 t198 _ A14.out).mono ?_); rintro e w17 ⟨rfl, hb⟩; refine ⟨_, rfl, ?_⟩; have n0_ := Zz.mk (blk_below (g := gb194) (o := .cells #[.string (⟨#[]⟩ : ByteArray), .int .i64 0] 41 (0, 0)) (by (with_reducible repeat (first | refine blk_drewN ?_ _ | refine blk_drew ?_ | refine blk_alloc ?_ _)); exact BK194.out) hb); have n1_ := Zz.mk (below_step (by repeat (first | (with_reducible first | exact HB.out | apply below_alloc | apply pw_below_drewN | apply below_drew1 | refine below_set ?_ GE194.out) | exact HB.out)) hb); clear BK194; clear HB; have BK194 := n0_; have HB := n1_; clear n0_ n1_; (try clear hb); (try clear hb2); (try clear hk); (try clear hi); have hcz18_0 : w17.cell? ⟨gb194, 0, none⟩ = some (.string (⟨#[]⟩ : ByteArray)) := (blk_cell BK194.out 0).trans rfl; have hcz18_1 : w17.cell? ⟨gb194, 1, none⟩ = some (.int .i64 0) := (blk_cell BK194.out 1).trans rfl; have hfz18_0 := blk_frozen BK194.out 0; have hfz18_1 := blk_frozen BK194.out 1))
    refine bodyPost_ret (results_cell_row rfl _ _ gb194 41 #[.string t195, .int .i64 t198] (0, 0) _ rfl (by (with_reducible repeat (first | refine blk_drewN ?_ _ | refine blk_drew ?_ | refine blk_alloc ?_ _)); refine blk_put (cs := #[.string t195, .int .i64 0]) ?_ 1 _ rfl; (with_reducible repeat (first | refine blk_drewN ?_ _ | refine blk_drew ?_ | refine blk_alloc ?_ _)); refine blk_put (cs := #[.string (⟨#[]⟩ : ByteArray), .int .i64 0]) ?_ 0 _ rfl; (with_reducible repeat (first | refine blk_drewN ?_ _ | refine blk_drew ?_ | refine blk_alloc ?_ _)); exact BK194.out) Tryz.underlying41 rfl (by kernel_rfl)) rfl ?_
    exact ⟨by first | rfl | (simp [errW_none, errW_some] <;> rfl) | (simp [*, errW_none, errW_some] <;> rfl), by repeat (first | (with_reducible first | exact HB.out | apply below_alloc | apply pw_below_drewN | apply below_drew1 | refine below_set ?_ GE194.out) | exact HB.out)⟩
end Go.Proofs.YtbhiljaipikklaaGreatDoor.R

