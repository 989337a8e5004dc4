/- Parts of the proof of the law that the last file states; declarations that nothing mentions are left out by a program. No conditions. -/
import Derived.Test.YtbhiljaipikklaaGreatDoorRx1q
import Derived.Test.YtbhiljaipikklaaGreatDoorRx7q
import Derived.Test.YtbhiljaipikklaaGreatDoorRx8q
set_option linter.unusedVariables false
set_option linter.unusedSimpArgs false
namespace Go.Proofs.YtbhiljaipikklaaGreatDoor.R
open Go.RowKit Go.Proofs.YtbhiljaipikklaaGreatDoorW.PrintWords Go.Proofs.YtbhiljaipikklaaGreatDoorW.PrintLast Go.Proofs.YtbhiljaipikklaaGreatDoorW.PrintMore
attribute [local go_sem] max2_int min2_int max_two min_two max_three min_three max_four min_four   -- for this text's walks alone
attribute [local go_sem high] eqA41
mutual
def souffleurref08_Grow.j1 : Nat → List (S37) → Int → ByteArray → Int → Option (ByteArray × Int × Bool)
  | 0, _, _, _, _ => none
  | k + 1, x0, x6, x221000, x221001 => if 0 ≤ x6 then (if x6 ≤ x221001 then (if x221001 ≤ (x221000.size : Int) then ((souffleurref08_Get.f k x0 (x221000.extract (x6 : Int).toNat (x221001 : Int).toNat)).bind fun bt224 => (if bt224.2 = true then (if x221001 < (x221000.size : Int) then (if 0 ≤ x221001 then (souffleurref08_Grow.j2 k x6 bt224.1 ((bt x221000 x221001) != 32) x221000 x221001) else (none)) else (souffleurref08_Grow.j2 k x6 bt224.1 false x221000 x221001)) else (souffleurref08_Grow.j2 k x6 bt224.1 true x221000 x221001))) else (none)) else (none)) else (none)
def souffleurref08_Grow.j2 : Nat → Int → ByteArray → Bool → ByteArray → Int → Option (ByteArray × Int × Bool)
  | 0, _, _, _, _, _ => none
  | k + 1, x6, x7, x59, x221000, x221001 => if x59 = true then (some (x221000, x221001, false)) else ((souffleurref03_Cut.f k x221000 x221001 x6 x221001).bind fun bt226 => ((souffleurref03_Insert.f k bt226.1 bt226.2.1 x7).bind fun bt230 => (if bt230.2.2 = true then (some (bt230.1, bt230.2.1, (!(bt230.1.toList == x221000.toList) || (!(bt230.2.1 == x221001))))) else (some (x221000, x221001, false)))))
def souffleurref08_Grow.l0 : Nat → List (S37) → Int → ByteArray → Int → Option (ByteArray × Int × Bool)
  | 0, _, _, _, _ => none
  | k + 1, x0, x6, x221000, x221001 => if x6 < x221001 then (if 0 ≤ x6 then (if x6 < (x221000.size : Int) then (if (bt x221000 x6) = 32 then (souffleurref08_Grow.l0 k x0 (wrap64 (x6 + 1)) x221000 x221001) else (souffleurref08_Grow.j1 k x0 x6 x221000 x221001)) else (none)) else (none)) else (souffleurref08_Grow.j1 k x0 x6 x221000 x221001)
end
def souffleurref08_Grow.f (k : Nat) (l0 : List (S37)) (a1_0 : ByteArray) (a1_1 : Int) : Option (ByteArray × Int × Bool) := (souffleurref03_Make.f k a1_0 a1_1).bind fun bt222 => (souffleurref08_Grow.l0 k l0 0 bt222.1 bt222.2)
set_option maxHeartbeats 8000000 in
set_option maxRecDepth 100000 in
theorem souffleurref08_Grow.calls (k : Nat) (A0 : Option Addr) (c0 : Nat) (l0 : List (S37)) (a1_0 : ByteArray) (a1_1 : Int) (r1 : ByteArray) (r2 : Int) (r3 : Bool) (w : World) (hr0 : Kd.C k37 w A0 l0.length l0) (hc0 : l0.length ≤ c0) (h : souffleurref08_Grow.f k l0 a1_0 a1_1 = some (r1, r2, r3)) :
    Calls Tryz.prog 14 #[.slice A0 l0.length c0, .agg #[.string a1_0, .int .i64 a1_1]] w fun e w' => e = .returned (.tuple #[.agg #[.string r1, .int .i64 r2], .bool r3]) ∧ Below w.heap.size w w' := by
  have hu41 := Tryz.underlying41
  have HR0 := Zz.mk hr0
  have HC0 := Zz.mk hc0
  clear hr0 hc0
  have HB := Zz.mk (Below.refl w.heap.size w)
  have H : ((souffleurref03_Make.f k a1_0 a1_1).bind fun bt222 => (souffleurref08_Grow.l0 k l0 0 bt222.1 bt222.2)) = some (r1, r2, r3) := h
  clear h
  replace H := Option.bind_eq_some_iff.mp H
  obtain ⟨⟨t222, t223⟩, A30, H⟩ := H
  replace H : (souffleurref08_Grow.l0 k l0 0 t222 t223) = some (r1, r2, r3) := H
  have A3 := Zz.mk A30
  clear A30
  have HC4 := Zz.mk H
  clear H
  go_enter Tryz.func14, Tryz.ntmps14
  go_upto_block 0 with (first | ((with_reducible refine gate_dst (N := 3) rfl ?_); (try (refine gate_guard (by rfl) ?_; dsimp only)); refine box_event ?hg (N := 3) ?hd (cs := #[.string a1_0, .int .i64 a1_1]) (t := 41) ?hr ?_; (case hd => rfl); (case hg => rfl); (case hr => first | (go_simp; done) | (go_simp; rfl)); intro gb220 hg w5 hbox hb; have n0_ := Zz.mk (below_step (by repeat (first | (with_reducible first | exact HB.out | apply below_alloc | apply pw_below_drewN | apply below_drew1) | exact HB.out)) hb); have n1_ := Zz.mk (hbox); have n2_ := Zz.mk ((by rw [hg]; exact (below_size (by repeat (first | (with_reducible first | exact HB.out | apply below_alloc | apply pw_below_drewN | apply below_drew1) | exact HB.out))) : w.heap.size ≤ gb220)); have n3_ := Zz.mk ((by rw [hg]; exact (below_size (by repeat (first | (with_reducible first | exact HB.out | apply below_alloc | apply pw_below_drewN | apply below_drew1) | exact HB.out))) : w.heap.size ≤ gb220)); clear HB; have HB := n0_; have BK220 := n1_; have GW220 := n2_; have GE220 := n3_; clear n0_ n1_ n2_ n3_; clear hb hbox hg) | ((with_reducible refine gate_dst (N := 4) rfl ?_); (try (refine gate_guard (by rfl) ?_; dsimp only)); refine box_event ?hg (N := 4) ?hd (cs := #[.string (⟨#[]⟩ : ByteArray), .int .i64 0]) (t := 41) ?hr ?_; (case hd => rfl); (case hg => rfl); (case hr => first | (go_simp; done) | (go_simp; rfl)); intro gb221 hg w6 hbox hb; have n0_ := Zz.mk (blk_below (g := gb220) (o := .cells #[.string a1_0, .int .i64 a1_1] 41 (0, 0)) (by (with_reducible repeat (first | refine blk_drewN ?_ _ | refine blk_drew ?_ | refine blk_alloc ?_ _)); exact BK220.out) hb); have n1_ := Zz.mk (below_step (by repeat (first | (with_reducible first | exact HB.out | apply below_alloc | apply pw_below_drewN | apply below_drew1 | refine below_set ?_ GE220.out) | exact HB.out)) hb); have n2_ := Zz.mk (hbox); have n3_ := Zz.mk ((by rw [hg]; exact (below_size (by repeat (first | (with_reducible first | exact HB.out | apply below_alloc | apply pw_below_drewN | apply below_drew1 | refine below_set ?_ GE220.out) | exact HB.out))) : w.heap.size ≤ gb221)); have n4_ := Zz.mk ((by rw [hg]; exact (below_size (by repeat (first | (with_reducible first | exact HB.out | apply below_alloc | apply pw_below_drewN | apply below_drew1 | refine below_set ?_ GE220.out) | exact HB.out))) : w.heap.size ≤ gb221)); have n5_ := Zz.mk ((by rw [hg]; exact Nat.ne_of_lt (blk_lt (g := gb220) (o := .cells #[.string a1_0, .int .i64 a1_1] 41 (0, 0)) (by (with_reducible repeat (first | refine blk_drewN ?_ _ | refine blk_drew ?_ | refine blk_alloc ?_ _)); exact BK220.out)) : gb220 ≠ gb221)); have n6_ := Zz.mk ((by rw [hg]; exact Nat.ne_of_gt (blk_lt (g := gb220) (o := .cells #[.string a1_0, .int .i64 a1_1] 41 (0, 0)) (by (with_reducible repeat (first | refine blk_drewN ?_ _ | refine blk_drew ?_ | refine blk_alloc ?_ _)); exact BK220.out)) : gb221 ≠ gb220)); clear BK220; clear HB; have BK220 := n0_; have HB := n1_; have BK221 := n2_; have GW221 := n3_; have GE221 := n4_; have NB220_221 := n5_; have NB221_220 := n6_; clear n0_ n1_ n2_ n3_ n4_ n5_ n6_; clear hb hbox hg; have hnb7 := NB220_221.out; have hnc7 := NB221_220.out; have hcz8_0 : w6.cell? ⟨gb220, 0, none⟩ = some (.string a1_0) := (blk_cell BK220.out 0).trans rfl; have hcz8_1 : w6.cell? ⟨gb220, 1, none⟩ = some (.int .i64 a1_1) := (blk_cell BK220.out 1).trans rfl; have hfz8_0 := blk_frozen BK220.out 0; have hfz8_1 := blk_frozen BK220.out 1) | ((with_reducible refine gate_callee (f := 30) rfl ?_); refine goesL_ (some 17) rfl rfl Tryz.func30 (by kernel_rfl) rfl #[.string a1_0, .int .i64 a1_1] rfl (by (try simp only [List.map_toArray, List.map_cons, List.map_nil]); first | done | rfl | (simp only [List.length_drop, List.length_take]; rfl)) ?_; (with_reducible refine (souffleurref03_Make.calls k a1_0 a1_1 t222 t223 _ A3.out).mono ?_); rintro e w9 ⟨rfl, hb⟩; refine ⟨_, rfl, ?_⟩; have n0_ := Zz.mk (blk_below (g := gb220) (o := .cells #[.string a1_0, .int .i64 a1_1] 41 (0, 0)) (by (with_reducible repeat (first | refine blk_drewN ?_ _ | refine blk_drew ?_ | refine blk_alloc ?_ _)); exact BK220.out) hb); have n1_ := Zz.mk (blk_below (g := gb221) (o := .cells #[.string (⟨#[]⟩ : ByteArray), .int .i64 0] 41 (0, 0)) (by (with_reducible repeat (first | refine blk_drewN ?_ _ | refine blk_drew ?_ | refine blk_alloc ?_ _)); exact BK221.out) hb); have n2_ := Zz.mk (below_step (by repeat (first | (with_reducible first | exact HB.out | apply below_alloc | apply pw_below_drewN | apply below_drew1 | refine below_set ?_ GE220.out | refine below_set ?_ GE221.out) | exact HB.out)) hb); clear BK220; clear BK221; clear HB; have BK220 := n0_; have BK221 := n1_; have HB := n2_; clear n0_ n1_ n2_; (try clear hb); (try clear hb2); (try clear hk); (try clear hi); have hcz10_0 : w9.cell? ⟨gb220, 0, none⟩ = some (.string a1_0) := (blk_cell BK220.out 0).trans rfl; have hcz10_1 : w9.cell? ⟨gb220, 1, none⟩ = some (.int .i64 a1_1) := (blk_cell BK220.out 1).trans rfl; have hfz10_0 := blk_frozen BK220.out 0; have hfz10_1 := blk_frozen BK220.out 1))
  (try simp only [Act.put, List.setIfInBounds_toArray, List.set_cons_zero, List.set_cons_succ])
  go_cut [6] (fun v6 wc => ∃ (kq : Nat) (x6_3 : Int), v6 = .int .i64 x6_3 ∧ Zz (souffleurref08_Grow.j1 kq l0 x6_3 t222 t223 = some (r1, r2, r3)) ∧ Zz (kq ≤ k) ∧ Zz (wc.heap[gb220]? = some (.cells #[.string t222, .int .i64 t223] 41 (0, 0))) ∧ Zz (wc.heap[gb221]? = some (.cells #[.string (⟨#[]⟩ : ByteArray), .int .i64 0] 41 (0, 0))) ∧ Zz (Below w.heap.size w wc))
  case first =>
    have H := HC4.out
    clear HC4
    have H' := Zz.mk H
    clear H
    go_wp2
    go_loopg [6] k (fun kq v6 w' => ∃ (x6_1 : Int), v6 = .int .i64 x6_1 ∧ Zz (souffleurref08_Grow.l0 kq l0 x6_1 t222 t223 = some (r1, r2, r3)) ∧ Zz (kq ≤ k) ∧ Zz (w'.heap[gb220]? = some (.cells #[.string t222, .int .i64 t223] 41 (0, 0))) ∧ Zz (w'.heap[gb221]? = some (.cells #[.string (⟨#[]⟩ : ByteArray), .int .i64 0] 41 (0, 0))) ∧ Zz (Below w.heap.size w w'))
    case atStart => exact ⟨(0), (by first | rfl | (simp; done) | (simp [*]; done)), H', ⟨Nat.le_refl _⟩, ⟨by (with_reducible repeat (first | refine blk_drewN ?_ _ | refine blk_drew ?_ | refine blk_alloc ?_ _)); refine blk_put (cs := #[.string t222, .int .i64 a1_1]) ?_ 1 _ rfl; (with_reducible repeat (first | refine blk_drewN ?_ _ | refine blk_drew ?_ | refine blk_alloc ?_ _)); refine blk_put (cs := #[.string a1_0, .int .i64 a1_1]) ?_ 0 _ rfl; (with_reducible repeat (first | refine blk_drewN ?_ _ | refine blk_drew ?_ | refine blk_alloc ?_ _)); exact BK220.out⟩, ⟨by (with_reducible repeat (first | refine blk_drewN ?_ _ | refine blk_drew ?_ | refine blk_alloc ?_ _)); refine blk_far ?_ NB221_220.out _; (with_reducible repeat (first | refine blk_drewN ?_ _ | refine blk_drew ?_ | refine blk_alloc ?_ _)); refine blk_far ?_ NB221_220.out _; (with_reducible repeat (first | refine blk_drewN ?_ _ | refine blk_drew ?_ | refine blk_alloc ?_ _)); exact BK221.out⟩, ⟨by repeat (first | (with_reducible first | exact HB.out | apply below_alloc | apply pw_below_drewN | apply below_drew1 | refine below_set ?_ GE220.out | refine below_set ?_ GE221.out) | exact HB.out)⟩⟩
    case round =>
      clear H'
      try clear c1
      try clear p2
      try clear c3
      try clear c7
      try clear hcz10_0
      try clear hcz10_1
      try clear hcz8_0
      try clear hcz8_1
      try clear hfz10_0
      try clear hfz10_1
      try clear hfz8_0
      try clear hfz8_1
      obtain ⟨x6_1, rfl, HA, HK1, BK220, BK221, HB⟩ := hrel
      cases gk with
      | zero => exact absurd HA.out (by simp [souffleurref08_Grow.l0])
      | succ k1 =>
        have H := HA.out
        clear HA
        simp only [souffleurref08_Grow.l0] at H
        by_cases c11 : x6_1 < t223
        · rw [if_pos c11] at H
          have c11b0 : decide (x6_1 < t223) = true := decide_eq_true c11
          clear c11
          (first | rw [c11b0] | (simp only [i64_w, i32_w]; rw [c11b0]) | skip)
          by_cases c12 : 0 ≤ x6_1
          · rw [if_pos c12] at H
            have c12b0 : decide (0 ≤ x6_1) = true := decide_eq_true c12
            clear c12
            by_cases c13 : x6_1 < (t222.size : Int)
            · rw [if_pos c13] at H
              have c13b0 : decide (x6_1 < (t222.size : Int)) = true := decide_eq_true c13
              clear c13
              by_cases c15 : (bt t222 x6_1) = 32
              · rw [if_pos c15] at H
                have c15b0 : ((bt t222 x6_1) == 32) = true := beq_iff_eq.mpr c15
                have c15b1 : ((bt t222 x6_1) != 32) = false := bne_eq_false_iff_eq.mpr c15
                clear c15
                have H' := Zz.mk H
                clear H
                have hnb16 := NB220_221.out
                have hnc16 := NB221_220.out
                have hcz17_0 : wr.cell? ⟨gb220, 0, none⟩ = some (.string t222) := (blk_cell BK220.out 0).trans rfl
                have hcz17_1 : wr.cell? ⟨gb220, 1, none⟩ = some (.int .i64 t223) := (blk_cell BK220.out 1).trans rfl
                have hfz17_0 := blk_frozen BK220.out 0
                have hfz17_1 := blk_frozen BK220.out 1
                have p14 : 0 ≤ (x6_1 : Int) := of_decide_eq_true (by first | (with_reducible assumption) | assumption)
                have q14 : x6_1 < (t222.size : Int) := of_decide_eq_true (by first | (with_reducible assumption) | assumption)
                have hx14 := bt_at t222 x6_1
                replace p14 := eq_true p14
                replace q14 := eq_true q14
                go_wp2
                go_roundg k1
                case measure => have := HK1.out; omega
                case rel => exact ⟨(wrap64 (x6_1 + 1)), (by first | rfl | (simp; done) | (simp [*]; done)), H', ⟨by have := HK1.out; omega⟩, ⟨by (with_reducible repeat (first | refine blk_drewN ?_ _ | refine blk_drew ?_ | refine blk_alloc ?_ _)); exact BK220.out⟩, ⟨by (with_reducible repeat (first | refine blk_drewN ?_ _ | refine blk_drew ?_ | refine blk_alloc ?_ _)); exact BK221.out⟩, ⟨by repeat (first | (with_reducible first | exact HB.out | apply below_alloc | apply pw_below_drewN | apply below_drew1 | refine below_set ?_ GE220.out | refine below_set ?_ GE221.out) | exact HB.out)⟩⟩
              · rw [if_neg c15] at H
                have c15b0 : ((bt t222 x6_1) == 32) = false := beq_eq_false_iff_ne.mpr c15
                have c15b1 : ((bt t222 x6_1) != 32) = true := bne_iff_ne.mpr c15
                have H' := Zz.mk H
                clear H
                have hnb18 := NB220_221.out
                have hnc18 := NB221_220.out
                have hcz19_0 : wr.cell? ⟨gb220, 0, none⟩ = some (.string t222) := (blk_cell BK220.out 0).trans rfl
                have hcz19_1 : wr.cell? ⟨gb220, 1, none⟩ = some (.int .i64 t223) := (blk_cell BK220.out 1).trans rfl
                have hfz19_0 := blk_frozen BK220.out 0
                have hfz19_1 := blk_frozen BK220.out 1
                have p14 : 0 ≤ (x6_1 : Int) := of_decide_eq_true (by first | (with_reducible assumption) | assumption)
                have q14 : x6_1 < (t222.size : Int) := of_decide_eq_true (by first | (with_reducible assumption) | assumption)
                have hx14 := bt_at t222 x6_1
                replace p14 := eq_true p14
                replace q14 := eq_true q14
                go_wp2
                go_meet
                case rel => exact ⟨_, (x6_1), (by first | rfl | (simp; done) | (simp [*]; done)), H', ⟨by have := HK1.out; first | omega | exact Nat.le_refl _⟩, ⟨by (with_reducible repeat (first | refine blk_drewN ?_ _ | refine blk_drew ?_ | refine blk_alloc ?_ _)); exact BK220.out⟩, ⟨by (with_reducible repeat (first | refine blk_drewN ?_ _ | refine blk_drew ?_ | refine blk_alloc ?_ _)); exact BK221.out⟩, ⟨by repeat (first | (with_reducible first | exact HB.out | apply below_alloc | apply pw_below_drewN | apply below_drew1 | refine below_set ?_ GE220.out | refine below_set ?_ GE221.out) | exact HB.out)⟩⟩
            · rw [if_neg c13] at H
              exact absurd H (by simp)
          · rw [if_neg c12] at H
            exact absurd H (by simp)
        · rw [if_neg c11] at H
          have c11b0 : decide (x6_1 < t223) = false := decide_eq_false c11
          clear c11
          (first | rw [c11b0] | (simp only [i64_w, i32_w]; rw [c11b0]) | skip)
          have H' := Zz.mk H
          clear H
          have hnb20 := NB220_221.out
          have hnc20 := NB221_220.out
          have hcz21_0 : wr.cell? ⟨gb220, 0, none⟩ = some (.string t222) := (blk_cell BK220.out 0).trans rfl
          have hcz21_1 : wr.cell? ⟨gb220, 1, none⟩ = some (.int .i64 t223) := (blk_cell BK220.out 1).trans rfl
          have hfz21_0 := blk_frozen BK220.out 0
          have hfz21_1 := blk_frozen BK220.out 1
          go_wp2
          go_meet
          case rel => exact ⟨_, (x6_1), (by first | rfl | (simp; done) | (simp [*]; done)), H', ⟨by have := HK1.out; first | omega | exact Nat.le_refl _⟩, ⟨by (with_reducible repeat (first | refine blk_drewN ?_ _ | refine blk_drew ?_ | refine blk_alloc ?_ _)); exact BK220.out⟩, ⟨by (with_reducible repeat (first | refine blk_drewN ?_ _ | refine blk_drew ?_ | refine blk_alloc ?_ _)); exact BK221.out⟩, ⟨by repeat (first | (with_reducible first | exact HB.out | apply below_alloc | apply pw_below_drewN | apply below_drew1 | refine below_set ?_ GE220.out | refine below_set ?_ GE221.out) | exact HB.out)⟩⟩
  case rest =>
    clear HC4
    try clear c1
    try clear p1
    try clear q1
    try clear hx1
    try clear c2
    try clear p2
    try clear c3
    try clear p6
    try clear c7
    try clear c11
    try clear c11b0
    try clear c12
    try clear c12b0
    try clear c13
    try clear c13b0
    try clear c14
    try clear p14
    try clear q14
    try clear hx14
    try clear c15
    try clear c15b0
    try clear c15b1
    try clear c16
    try clear c18
    try clear c20
    try clear hcz10_0
    try clear hcz10_1
    try clear hcz17_0
    try clear hcz17_1
    try clear hcz19_0
    try clear hcz19_1
    try clear hcz21_0
    try clear hcz21_1
    try clear hcz8_0
    try clear hcz8_1
    try clear hfz10_0
    try clear hfz10_1
    try clear hfz17_0
    try clear hfz17_1
    try clear hfz19_0
    try clear hfz19_1
    try clear hfz21_0
    try clear hfz21_1
    try clear hfz8_0
    try clear hfz8_1
    try clear p14
    try clear p2
    try clear q14
    obtain ⟨kq, x6_3, rfl, HA, HJ3, BK220, BK221, HB⟩ := hcut
    cases kq with
    | zero => exact absurd HA.out (by simp [souffleurref08_Grow.j1])
    | succ kj3 =>
      have H := HA.out
      clear HA
      simp only [souffleurref08_Grow.j1] at H
      by_cases c22 : 0 ≤ x6_3
      · rw [if_pos c22] at H
        have c22b0 := eq_true c22
        have c22b1 : decide (0 ≤ x6_3) = true := decide_eq_true c22
        clear c22
        by_cases c23 : x6_3 ≤ t223
        · rw [if_pos c23] at H
          have c23b0 := eq_true c23
          have c23b1 : decide (x6_3 ≤ t223) = true := decide_eq_true c23
          clear c23
          by_cases c24 : t223 ≤ (t222.size : Int)
          · rw [if_pos c24] at H
            have c24b0 := eq_true c24
            have c24b1 : decide (t223 ≤ (t222.size : Int)) = true := decide_eq_true c24
            clear c24
            replace H := Option.bind_eq_some_iff.mp H
            obtain ⟨⟨t224, t225⟩, A250, H⟩ := H
            replace H : (if t225 = true then (if t223 < (t222.size : Int) then (if 0 ≤ t223 then (souffleurref08_Grow.j2 kj3 x6_3 t224 ((bt t222 t223) != 32) t222 t223) else (none)) else (souffleurref08_Grow.j2 kj3 x6_3 t224 false t222 t223)) else (souffleurref08_Grow.j2 kj3 x6_3 t224 true t222 t223)) = some (r1, r2, r3) := H
            have A25 := Zz.mk A250
            clear A250
            have HC26 := Zz.mk H
            clear H
            have hnb27 := NB220_221.out
            have hnc27 := NB221_220.out
            have hcz28_0 : wc.cell? ⟨gb220, 0, none⟩ = some (.string t222) := (blk_cell BK220.out 0).trans rfl
            have hcz28_1 : wc.cell? ⟨gb220, 1, none⟩ = some (.int .i64 t223) := (blk_cell BK220.out 1).trans rfl
            have hfz28_0 := blk_frozen BK220.out 0
            have hfz28_1 := blk_frozen BK220.out 1
            go_upto_region 6 with (first | ((with_reducible refine gate_callee (f := 13) rfl ?_); refine goesL_ (some 39) rfl rfl Tryz.func13 (by kernel_rfl) rfl #[.slice A0 l0.length c0, .string (t222.extract (x6_3 : Int).toNat (t223 : Int).toNat)] rfl (by (try simp only [List.map_toArray, List.map_cons, List.map_nil]); first | done | rfl | (simp only [List.length_drop, List.length_take]; rfl)) ?_; (with_reducible refine (souffleurref08_Get.calls kj3 _ _ l0 (t222.extract (x6_3 : Int).toNat (t223 : Int).toNat) t224 t225 _ ?side1 ?side2 A25.out).mono ?_); (case side1 => repeat (first | exact (Kd.C_below HR0.out HB.out) | (with_reducible refine Kd.C_alloc ?_ _) | (with_reducible refine Kd.C_drewN ?_ _) | (with_reducible refine Kd.C_drew ?_))); (case side2 => exact HC0.out); rintro e w' ⟨rfl, ⟨nd, rfl⟩⟩; refine ⟨_, rfl, ?_⟩))
            (try simp only [Act.put, List.setIfInBounds_toArray, List.set_cons_zero, List.set_cons_succ])
            go_cut [59] (fun v59 wc => ∃ (kq : Nat) (x59_25 : Bool), v59 = .bool x59_25 ∧ Zz (souffleurref08_Grow.j2 kq x6_3 t224 x59_25 t222 t223 = some (r1, r2, r3)) ∧ Zz (kq ≤ kj3) ∧ Zz (wc.heap[gb220]? = some (.cells #[.string t222, .int .i64 t223] 41 (0, 0))) ∧ Zz (wc.heap[gb221]? = some (.cells #[.string (⟨#[]⟩ : ByteArray), .int .i64 0] 41 (0, 0))) ∧ Zz (Below w.heap.size w wc))
            case first =>
              have H := HC26.out
              clear HC26
              by_cases c29 : t225 = true
              · subst c29
                have H1 : (if t223 < (t222.size : Int) then (if 0 ≤ t223 then (souffleurref08_Grow.j2 kj3 x6_3 t224 ((bt t222 t223) != 32) t222 t223) else (none)) else (souffleurref08_Grow.j2 kj3 x6_3 t224 false t222 t223)) = some (r1, r2, r3) := by rw [if_pos rfl] at H; exact H
                clear H
                have H := H1
                clear H1
                by_cases c30 : t223 < (t222.size : Int)
                · rw [if_pos c30] at H
                  have c30b0 : decide (t223 < (t222.size : Int)) = true := decide_eq_true c30
                  clear c30
                  (first | rw [c30b0] | (simp only [i64_w, i32_w]; rw [c30b0]) | skip)
                  by_cases c31 : 0 ≤ t223
                  · rw [if_pos c31] at H
                    have c31b0 : decide (0 ≤ t223) = true := decide_eq_true c31
                    clear c31
                    have H' := Zz.mk H
                    clear H
                    have hnb33 := NB220_221.out
                    have hnc33 := NB221_220.out
                    have hcz34_0 : wc.cell? ⟨gb220, 0, none⟩ = some (.string t222) := (blk_cell BK220.out 0).trans rfl
                    have hcz34_1 : wc.cell? ⟨gb220, 1, none⟩ = some (.int .i64 t223) := (blk_cell BK220.out 1).trans rfl
                    have hfz34_0 := blk_frozen BK220.out 0
                    have hfz34_1 := blk_frozen BK220.out 1
                    have p32 : 0 ≤ (t223 : Int) := of_decide_eq_true (by first | (with_reducible assumption) | assumption)
                    have q32 : t223 < (t222.size : Int) := of_decide_eq_true (by first | (with_reducible assumption) | assumption)
                    have hx32 := bt_at t222 t223
                    replace p32 := eq_true p32
                    replace q32 := eq_true q32
                    go_wp2
                    go_meet
                    case rel => exact ⟨_, (((bt t222 t223) != 32)), (by first | rfl | (simp; done) | (simp [*]; done)), H', ⟨by have := HJ3.out; first | omega | exact Nat.le_refl _⟩, ⟨by (with_reducible repeat (first | refine blk_drewN ?_ _ | refine blk_drew ?_ | refine blk_alloc ?_ _)); exact BK220.out⟩, ⟨by (with_reducible repeat (first | refine blk_drewN ?_ _ | refine blk_drew ?_ | refine blk_alloc ?_ _)); exact BK221.out⟩, ⟨by repeat (first | (with_reducible first | exact HB.out | apply below_alloc | apply pw_below_drewN | apply below_drew1 | refine below_set ?_ GE220.out | refine below_set ?_ GE221.out) | exact HB.out)⟩⟩
                  · rw [if_neg c31] at H
                    exact absurd H (by simp)
                · rw [if_neg c30] at H
                  have c30b0 : decide (t223 < (t222.size : Int)) = false := decide_eq_false c30
                  clear c30
                  (first | rw [c30b0] | (simp only [i64_w, i32_w]; rw [c30b0]) | skip)
                  have H' := Zz.mk H
                  clear H
                  have hnb35 := NB220_221.out
                  have hnc35 := NB221_220.out
                  have hcz36_0 : wc.cell? ⟨gb220, 0, none⟩ = some (.string t222) := (blk_cell BK220.out 0).trans rfl
                  have hcz36_1 : wc.cell? ⟨gb220, 1, none⟩ = some (.int .i64 t223) := (blk_cell BK220.out 1).trans rfl
                  have hfz36_0 := blk_frozen BK220.out 0
                  have hfz36_1 := blk_frozen BK220.out 1
                  go_wp2
                  go_meet
                  case rel => exact ⟨_, (false), (by first | rfl | (simp; done) | (simp [*]; done)), H', ⟨by have := HJ3.out; first | omega | exact Nat.le_refl _⟩, ⟨by (with_reducible repeat (first | refine blk_drewN ?_ _ | refine blk_drew ?_ | refine blk_alloc ?_ _)); exact BK220.out⟩, ⟨by (with_reducible repeat (first | refine blk_drewN ?_ _ | refine blk_drew ?_ | refine blk_alloc ?_ _)); exact BK221.out⟩, ⟨by repeat (first | (with_reducible first | exact HB.out | apply below_alloc | apply pw_below_drewN | apply below_drew1 | refine below_set ?_ GE220.out | refine below_set ?_ GE221.out) | exact HB.out)⟩⟩
              · replace c29 := Bool.eq_false_iff.mpr c29
                subst c29
                have H1 : (souffleurref08_Grow.j2 kj3 x6_3 t224 true t222 t223) = some (r1, r2, r3) := by rw [if_neg (show ¬ (false = true) by decide)] at H; exact H
                clear H
                have H := H1
                clear H1
                have H' := Zz.mk H
                clear H
                go_wp2
                go_meet
                case rel => exact ⟨_, (true), (by first | rfl | (simp; done) | (simp [*]; done)), H', ⟨by have := HJ3.out; first | omega | exact Nat.le_refl _⟩, ⟨by (with_reducible repeat (first | refine blk_drewN ?_ _ | refine blk_drew ?_ | refine blk_alloc ?_ _)); exact BK220.out⟩, ⟨by (with_reducible repeat (first | refine blk_drewN ?_ _ | refine blk_drew ?_ | refine blk_alloc ?_ _)); exact BK221.out⟩, ⟨by repeat (first | (with_reducible first | exact HB.out | apply below_alloc | apply pw_below_drewN | apply below_drew1 | refine below_set ?_ GE220.out | refine below_set ?_ GE221.out) | exact HB.out)⟩⟩
            case rest =>
              clear HC26
              try clear c1
              try clear p1
              try clear q1
              try clear hx1
              try clear c2
              try clear p2
              try clear c3
              try clear p3
              try clear q3
              try clear hx3
              try clear p6
              try clear c7
              try clear c11
              try clear c11b0
              try clear c12
              try clear c12b0
              try clear c13
              try clear c13b0
              try clear c14
              try clear p14
              try clear q14
              try clear hx14
              try clear c15
              try clear c15b0
              try clear c15b1
              try clear c16
              try clear c18
              try clear c20
              try clear c22
              try clear c22b0
              try clear c22b1
              try clear c23
              try clear c23b0
              try clear c23b1
              try clear c24
              try clear c24b0
              try clear c24b1
              try clear c27
              try clear c29
              try clear c30
              try clear c30b0
              try clear c31
              try clear c31b0
              try clear p32
              try clear q32
              try clear hx32
              try clear c33
              try clear c35
              try clear hcz10_0
              try clear hcz10_1
              try clear hcz17_0
              try clear hcz17_1
              try clear hcz19_0
              try clear hcz19_1
              try clear hcz21_0
              try clear hcz21_1
              try clear hcz28_0
              try clear hcz28_1
              try clear hcz34_0
              try clear hcz34_1
              try clear hcz36_0
              try clear hcz36_1
              try clear hcz8_0
              try clear hcz8_1
              try clear hfz10_0
              try clear hfz10_1
              try clear hfz17_0
              try clear hfz17_1
              try clear hfz19_0
              try clear hfz19_1
              try clear hfz21_0
              try clear hfz21_1
              try clear hfz28_0
              try clear hfz28_1
              try clear hfz34_0
              try clear hfz34_1
              try clear hfz36_0
              try clear hfz36_1
              try clear hfz8_0
              try clear hfz8_1
              try clear p1
              try clear p14
              try clear p2
              try clear p32
              try clear p6
              try clear q1
              try clear q14
              try clear q32
              obtain ⟨kq, x59_25, rfl, HA, HJ25, BK220, BK221, HB⟩ := hcut
              cases kq with
              | zero => exact absurd HA.out (by simp [souffleurref08_Grow.j2])
              | succ kj25 =>
                have H := HA.out
                clear HA
                simp only [souffleurref08_Grow.j2] at H
                by_cases c37 : x59_25 = true
                · subst c37
                  have H1 : (some (t222, t223, false)) = some (r1, r2, r3) := by rw [if_pos rfl] at H; exact H
                  clear H
                  have H := H1
                  clear H1
                  simp only [Option.some.injEq, Prod.mk.injEq] at H
                  obtain ⟨rfl, rfl, rfl⟩ := H
                  have hnb38 := NB220_221.out
                  have hnc38 := NB221_220.out
                  have hcz39_0 : wc.cell? ⟨gb220, 0, none⟩ = some (.string t222) := (blk_cell BK220.out 0).trans rfl
                  have hcz39_1 : wc.cell? ⟨gb220, 1, none⟩ = some (.int .i64 t223) := (blk_cell BK220.out 1).trans rfl
                  have hfz39_0 := blk_frozen BK220.out 0
                  have hfz39_1 := blk_frozen BK220.out 1
                  have hcz40_0 : wc.cell? ⟨gb221, 0, none⟩ = some (.string (⟨#[]⟩ : ByteArray)) := (blk_cell BK221.out 0).trans rfl
                  have hcz40_1 : wc.cell? ⟨gb221, 1, none⟩ = some (.int .i64 0) := (blk_cell BK221.out 1).trans rfl
                  have hfz40_0 := blk_frozen BK221.out 0
                  have hfz40_1 := blk_frozen BK221.out 1
                  go_wp2
                  refine bodyPost_ret (results_ct rfl _ _ gb221 41 #[.string t222, .int .i64 t223] (0, 0) _ rfl (by (with_reducible repeat (first | refine blk_drewN ?_ _ | refine blk_drew ?_ | refine blk_alloc ?_ _)); refine blk_put (cs := #[.string t222, .int .i64 0]) ?_ 1 _ rfl; (with_reducible repeat (first | refine blk_drewN ?_ _ | refine blk_drew ?_ | refine blk_alloc ?_ _)); refine blk_put (cs := #[.string (⟨#[]⟩ : ByteArray), .int .i64 0]) ?_ 0 _ rfl; (with_reducible repeat (first | refine blk_drewN ?_ _ | refine blk_drew ?_ | refine blk_alloc ?_ _)); exact BK221.out) Tryz.underlying41 rfl (by kernel_rfl)) rfl ?_
                  exact ⟨by first | rfl | (simp [errW_none, errW_some] <;> rfl) | (simp [*, errW_none, errW_some] <;> rfl), by repeat (first | (with_reducible first | exact HB.out | apply below_alloc | apply pw_below_drewN | apply below_drew1 | refine below_set ?_ GE220.out | refine below_set ?_ GE221.out) | exact HB.out)⟩
                · replace c37 := Bool.eq_false_iff.mpr c37
                  subst c37
                  have H1 : ((souffleurref03_Cut.f kj25 t222 t223 x6_3 t223).bind fun bt226 => ((souffleurref03_Insert.f kj25 bt226.1 bt226.2.1 t224).bind fun bt230 => (if bt230.2.2 = true then (some (bt230.1, bt230.2.1, (!(bt230.1.toList == t222.toList) || (!(bt230.2.1 == t223))))) else (some (t222, t223, false))))) = some (r1, r2, r3) := by rw [if_neg (show ¬ (false = true) by decide)] at H; exact H
                  clear H
                  have H := H1
                  clear H1
                  replace H := Option.bind_eq_some_iff.mp H
                  obtain ⟨⟨t226, t227, t228⟩, A410, H⟩ := H
                  replace H : ((souffleurref03_Insert.f kj25 t226 t227 t224).bind fun bt230 => (if bt230.2.2 = true then (some (bt230.1, bt230.2.1, (!(bt230.1.toList == t222.toList) || (!(bt230.2.1 == t223))))) else (some (t222, t223, false)))) = some (r1, r2, r3) := H
                  have A41 := Zz.mk A410
                  clear A410
                  replace H := Option.bind_eq_some_iff.mp H
                  obtain ⟨⟨t230, t231, t232⟩, A420, H⟩ := H
                  replace H : (if t232 = true then (some (t230, t231, (!(t230.toList == t222.toList) || (!(t231 == t223))))) else (some (t222, t223, false))) = some (r1, r2, r3) := H
                  have A42 := Zz.mk A420
                  clear A420
                  by_cases c43 : t232 = true
                  · subst c43
                    have H1 : (some (t230, t231, (!(t230.toList == t222.toList) || (!(t231 == t223))))) = some (r1, r2, r3) := by rw [if_pos rfl] at H; exact H
                    clear H
                    have H := H1
                    clear H1
                    simp only [Option.some.injEq, Prod.mk.injEq] at H
                    obtain ⟨rfl, rfl, rfl⟩ := H
                    have hnb44 := NB220_221.out
                    have hnc44 := NB221_220.out
                    have hcz45_0 : wc.cell? ⟨gb220, 0, none⟩ = some (.string t222) := (blk_cell BK220.out 0).trans rfl
                    have hcz45_1 : wc.cell? ⟨gb220, 1, none⟩ = some (.int .i64 t223) := (blk_cell BK220.out 1).trans rfl
                    have hfz45_0 := blk_frozen BK220.out 0
                    have hfz45_1 := blk_frozen BK220.out 1
                    try go_wp2_with (first | ((with_reducible refine gate_callee (f := 31) rfl ?_); refine goesL_ (some 66) rfl rfl Tryz.func31 (by kernel_rfl) rfl #[.agg #[.string t222, .int .i64 t223], .int .i64 x6_3, .int .i64 t223] rfl (by (try simp only [List.map_toArray, List.map_cons, List.map_nil]); first | done | rfl | (simp only [List.length_drop, List.length_take]; rfl)) ?_; (with_reducible refine (souffleurref03_Cut.calls kj25 t222 t223 x6_3 t223 t226 t227 t228 _ A41.out).mono ?_); rintro e w46 ⟨rfl, hb⟩; refine ⟨_, rfl, ?_⟩; have n0_ := Zz.mk (blk_below (g := gb220) (o := .cells #[.string t222, .int .i64 t223] 41 (0, 0)) (by (with_reducible repeat (first | refine blk_drewN ?_ _ | refine blk_drew ?_ | refine blk_alloc ?_ _)); exact BK220.out) hb); have n1_ := Zz.mk (blk_below (g := gb221) (o := .cells #[.string (⟨#[]⟩ : ByteArray), .int .i64 0] 41 (0, 0)) (by (with_reducible repeat (first | refine blk_drewN ?_ _ | refine blk_drew ?_ | refine blk_alloc ?_ _)); exact BK221.out) hb); have n2_ := Zz.mk (below_step (by repeat (first | (with_reducible first | exact HB.out | apply below_alloc | apply pw_below_drewN | apply below_drew1 | refine below_set ?_ GE220.out | refine below_set ?_ GE221.out) | exact HB.out)) hb); clear BK220; clear BK221; clear HB; have BK220 := n0_; have BK221 := n1_; have HB := n2_; clear n0_ n1_ n2_; (try clear hb); (try clear hb2); (try clear hk); (try clear hi)) | ((with_reducible refine gate_dst (N := 9) rfl ?_); (try (refine gate_guard (by rfl) ?_; dsimp only)); refine box_event ?hg (N := 9) ?hd (cs := #[.string (⟨#[]⟩ : ByteArray), .int .i64 0]) (t := 41) ?hr ?_; (case hd => rfl); (case hg => rfl); (case hr => first | (go_simp; done) | (go_simp; rfl)); intro gb229 hg w47 hbox hb; have n0_ := Zz.mk (blk_below (g := gb220) (o := .cells #[.string t222, .int .i64 t223] 41 (0, 0)) (by (with_reducible repeat (first | refine blk_drewN ?_ _ | refine blk_drew ?_ | refine blk_alloc ?_ _)); exact BK220.out) hb); have n1_ := Zz.mk (blk_below (g := gb221) (o := .cells #[.string (⟨#[]⟩ : ByteArray), .int .i64 0] 41 (0, 0)) (by (with_reducible repeat (first | refine blk_drewN ?_ _ | refine blk_drew ?_ | refine blk_alloc ?_ _)); exact BK221.out) hb); have n2_ := Zz.mk (below_step (by repeat (first | (with_reducible first | exact HB.out | apply below_alloc | apply pw_below_drewN | apply below_drew1 | refine below_set ?_ GE220.out | refine below_set ?_ GE221.out) | exact HB.out)) hb); have n3_ := Zz.mk (hbox); have n4_ := Zz.mk ((by rw [hg]; exact (below_size (by repeat (first | (with_reducible first | exact HB.out | apply below_alloc | apply pw_below_drewN | apply below_drew1 | refine below_set ?_ GE220.out | refine below_set ?_ GE221.out) | exact HB.out))) : w.heap.size ≤ gb229)); have n5_ := Zz.mk ((by rw [hg]; exact (below_size (by repeat (first | (with_reducible first | exact HB.out | apply below_alloc | apply pw_below_drewN | apply below_drew1 | refine below_set ?_ GE220.out | refine below_set ?_ GE221.out) | exact HB.out))) : w.heap.size ≤ gb229)); have n6_ := Zz.mk ((by rw [hg]; exact Nat.ne_of_lt (blk_lt (g := gb220) (o := .cells #[.string t222, .int .i64 t223] 41 (0, 0)) (by (with_reducible repeat (first | refine blk_drewN ?_ _ | refine blk_drew ?_ | refine blk_alloc ?_ _)); exact BK220.out)) : gb220 ≠ gb229)); have n7_ := Zz.mk ((by rw [hg]; exact Nat.ne_of_gt (blk_lt (g := gb220) (o := .cells #[.string t222, .int .i64 t223] 41 (0, 0)) (by (with_reducible repeat (first | refine blk_drewN ?_ _ | refine blk_drew ?_ | refine blk_alloc ?_ _)); exact BK220.out)) : gb229 ≠ gb220)); have n8_ := Zz.mk ((by rw [hg]; exact Nat.ne_of_lt (blk_lt (g := gb221) (o := .cells #[.string (⟨#[]⟩ : ByteArray), .int .i64 0] 41 (0, 0)) (by (with_reducible repeat (first | refine blk_drewN ?_ _ | refine blk_drew ?_ | refine blk_alloc ?_ _)); exact BK221.out)) : gb221 ≠ gb229)); have n9_ := Zz.mk ((by rw [hg]; exact Nat.ne_of_gt (blk_lt (g := gb221) (o := .cells #[.string (⟨#[]⟩ : ByteArray), .int .i64 0] 41 (0, 0)) (by (with_reducible repeat (first | refine blk_drewN ?_ _ | refine blk_drew ?_ | refine blk_alloc ?_ _)); exact BK221.out)) : gb229 ≠ gb221)); clear BK220; clear BK221; clear HB; have BK220 := n0_; have BK221 := n1_; have HB := n2_; have BK229 := n3_; have GW229 := n4_; have GE229 := n5_; have NB220_229 := n6_; have NB229_220 := n7_; have NB221_229 := n8_; have NB229_221 := n9_; clear n0_ n1_ n2_ n3_ n4_ n5_ n6_ n7_ n8_ n9_; clear hb hbox hg; have hnb48 := NB229_220.out; have hnc48 := NB220_229.out; have hnb49 := NB229_221.out; have hnc49 := NB221_229.out; have hcz50_0 : w47.cell? ⟨gb229, 0, none⟩ = some (.string (⟨#[]⟩ : ByteArray)) := (blk_cell BK229.out 0).trans rfl; have hcz50_1 : w47.cell? ⟨gb229, 1, none⟩ = some (.int .i64 0) := (blk_cell BK229.out 1).trans rfl; have hfz50_0 := blk_frozen BK229.out 0; have hfz50_1 := blk_frozen BK229.out 1) | ((with_reducible refine gate_callee (f := 32) rfl ?_); refine goesL_ (some 72) rfl rfl Tryz.func32 (by kernel_rfl) rfl #[.agg #[.string t226, .int .i64 t227], .string t224] rfl (by (try simp only [List.map_toArray, List.map_cons, List.map_nil]); first | done | rfl | (simp only [List.length_drop, List.length_take]; rfl)) ?_; (with_reducible refine (souffleurref03_Insert.calls kj25 t226 t227 t224 t230 t231 true _ A42.out).mono ?_); rintro e w51 ⟨rfl, hb⟩; refine ⟨_, rfl, ?_⟩; have n0_ := Zz.mk (blk_below (g := gb220) (o := .cells #[.string t222, .int .i64 t223] 41 (0, 0)) (by (with_reducible repeat (first | refine blk_drewN ?_ _ | refine blk_drew ?_ | refine blk_alloc ?_ _)); refine blk_far ?_ NB220_229.out _; (with_reducible repeat (first | refine blk_drewN ?_ _ | refine blk_drew ?_ | refine blk_alloc ?_ _)); refine blk_far ?_ NB220_229.out _; (with_reducible repeat (first | refine blk_drewN ?_ _ | refine blk_drew ?_ | refine blk_alloc ?_ _)); exact BK220.out) hb); have n1_ := Zz.mk (blk_below (g := gb221) (o := .cells #[.string (⟨#[]⟩ : ByteArray), .int .i64 0] 41 (0, 0)) (by (with_reducible repeat (first | refine blk_drewN ?_ _ | refine blk_drew ?_ | refine blk_alloc ?_ _)); refine blk_far ?_ NB221_229.out _; (with_reducible repeat (first | refine blk_drewN ?_ _ | refine blk_drew ?_ | refine blk_alloc ?_ _)); refine blk_far ?_ NB221_229.out _; (with_reducible repeat (first | refine blk_drewN ?_ _ | refine blk_drew ?_ | refine blk_alloc ?_ _)); exact BK221.out) hb); have n2_ := Zz.mk (blk_below (g := gb229) (o := .cells #[.string t226, .int .i64 t227] 41 (0, 0)) (by (with_reducible repeat (first | refine blk_drewN ?_ _ | refine blk_drew ?_ | refine blk_alloc ?_ _)); refine blk_put (cs := #[.string t226, .int .i64 0]) ?_ 1 _ rfl; (with_reducible repeat (first | refine blk_drewN ?_ _ | refine blk_drew ?_ | refine blk_alloc ?_ _)); refine blk_put (cs := #[.string (⟨#[]⟩ : ByteArray), .int .i64 0]) ?_ 0 _ rfl; (with_reducible repeat (first | refine blk_drewN ?_ _ | refine blk_drew ?_ | refine blk_alloc ?_ _)); exact BK229.out) hb); have n3_ := Zz.mk (below_step (by repeat (first | (with_reducible first | exact HB.out | apply below_alloc | apply pw_below_drewN | apply below_drew1 | refine below_set ?_ GE220.out | refine below_set ?_ GE221.out | refine below_set ?_ GE229.out) | exact HB.out)) hb); clear BK220; clear BK221; clear BK229; clear HB; have BK220 := n0_; have BK221 := n1_; have BK229 := n2_; have HB := n3_; clear n0_ n1_ n2_ n3_; (try clear hb); (try clear hb2); (try clear hk); (try clear hi)) | ((with_reducible refine gate_dst (N := 11) rfl ?_); (try (refine gate_guard (by rfl) ?_; dsimp only)); refine box_event ?hg (N := 11) ?hd (cs := #[.string (⟨#[]⟩ : ByteArray), .int .i64 0]) (t := 41) ?hr ?_; (case hd => rfl); (case hg => rfl); (case hr => first | (go_simp; done) | (go_simp; rfl)); intro gb233 hg w52 hbox hb; have n0_ := Zz.mk (blk_below (g := gb220) (o := .cells #[.string t222, .int .i64 t223] 41 (0, 0)) (by (with_reducible repeat (first | refine blk_drewN ?_ _ | refine blk_drew ?_ | refine blk_alloc ?_ _)); exact BK220.out) hb); have n1_ := Zz.mk (blk_below (g := gb221) (o := .cells #[.string (⟨#[]⟩ : ByteArray), .int .i64 0] 41 (0, 0)) (by (with_reducible repeat (first | refine blk_drewN ?_ _ | refine blk_drew ?_ | refine blk_alloc ?_ _)); exact BK221.out) hb); have n2_ := Zz.mk (blk_below (g := gb229) (o := .cells #[.string t226, .int .i64 t227] 41 (0, 0)) (by (with_reducible repeat (first | refine blk_drewN ?_ _ | refine blk_drew ?_ | refine blk_alloc ?_ _)); exact BK229.out) hb); have n3_ := Zz.mk (below_step (by repeat (first | (with_reducible first | exact HB.out | apply below_alloc | apply pw_below_drewN | apply below_drew1 | refine below_set ?_ GE220.out | refine below_set ?_ GE221.out | refine below_set ?_ GE229.out) | exact HB.out)) hb); have n4_ := Zz.mk (hbox); have n5_ := Zz.mk ((by rw [hg]; exact (below_size (by repeat (first | (with_reducible first | exact HB.out | apply below_alloc | apply pw_below_drewN | apply below_drew1 | refine below_set ?_ GE220.out | refine below_set ?_ GE221.out | refine below_set ?_ GE229.out) | exact HB.out))) : w.heap.size ≤ gb233)); have n6_ := Zz.mk ((by rw [hg]; exact (below_size (by repeat (first | (with_reducible first | exact HB.out | apply below_alloc | apply pw_below_drewN | apply below_drew1 | refine below_set ?_ GE220.out | refine below_set ?_ GE221.out | refine below_set ?_ GE229.out) | exact HB.out))) : w.heap.size ≤ gb233)); have n7_ := Zz.mk ((by rw [hg]; exact Nat.ne_of_lt (blk_lt (g := gb220) (o := .cells #[.string t222, .int .i64 t223] 41 (0, 0)) (by (with_reducible repeat (first | refine blk_drewN ?_ _ | refine blk_drew ?_ | refine blk_alloc ?_ _)); exact BK220.out)) : gb220 ≠ gb233)); have n8_ := Zz.mk ((by rw [hg]; exact Nat.ne_of_gt (blk_lt (g := gb220) (o := .cells #[.string t222, .int .i64 t223] 41 (0, 0)) (by (with_reducible repeat (first | refine blk_drewN ?_ _ | refine blk_drew ?_ | refine blk_alloc ?_ _)); exact BK220.out)) : gb233 ≠ gb220)); have n9_ := Zz.mk ((by rw [hg]; exact Nat.ne_of_lt (blk_lt (g := gb221) (o := .cells #[.string (⟨#[]⟩ : ByteArray), .int .i64 0] 41 (0, 0)) (by (with_reducible repeat (first | refine blk_drewN ?_ _ | refine blk_drew ?_ | refine blk_alloc ?_ _)); exact BK221.out)) : gb221 ≠ gb233)); have n10_ := Zz.mk ((by rw [hg]; exact Nat.ne_of_gt (blk_lt (g := gb221) (o := .cells #[.string (⟨#[]⟩ : ByteArray), .int .i64 0] 41 (0, 0)) (by (with_reducible repeat (first | refine blk_drewN ?_ _ | refine blk_drew ?_ | refine blk_alloc ?_ _)); exact BK221.out)) : gb233 ≠ gb221)); have n11_ := Zz.mk ((by rw [hg]; exact Nat.ne_of_lt (blk_lt (g := gb229) (o := .cells #[.string t226, .int .i64 t227] 41 (0, 0)) (by (with_reducible repeat (first | refine blk_drewN ?_ _ | refine blk_drew ?_ | refine blk_alloc ?_ _)); exact BK229.out)) : gb229 ≠ gb233)); have n12_ := Zz.mk ((by rw [hg]; exact Nat.ne_of_gt (blk_lt (g := gb229) (o := .cells #[.string t226, .int .i64 t227] 41 (0, 0)) (by (with_reducible repeat (first | refine blk_drewN ?_ _ | refine blk_drew ?_ | refine blk_alloc ?_ _)); exact BK229.out)) : gb233 ≠ gb229)); clear BK220; clear BK221; clear BK229; clear HB; have BK220 := n0_; have BK221 := n1_; have BK229 := n2_; have HB := n3_; have BK233 := n4_; have GW233 := n5_; have GE233 := n6_; have NB220_233 := n7_; have NB233_220 := n8_; have NB221_233 := n9_; have NB233_221 := n10_; have NB229_233 := n11_; have NB233_229 := n12_; clear n0_ n1_ n2_ n3_ n4_ n5_ n6_ n7_ n8_ n9_ n10_ n11_ n12_; clear hb hbox hg; have hnb53 := NB233_220.out; have hnc53 := NB220_233.out; have hnb54 := NB233_221.out; have hnc54 := NB221_233.out; have hnb55 := NB233_229.out; have hnc55 := NB229_233.out; have hcz56_0 : w52.cell? ⟨gb233, 0, none⟩ = some (.string (⟨#[]⟩ : ByteArray)) := (blk_cell BK233.out 0).trans rfl; have hcz56_1 : w52.cell? ⟨gb233, 1, none⟩ = some (.int .i64 0) := (blk_cell BK233.out 1).trans rfl; have hfz56_0 := blk_frozen BK233.out 0; have hfz56_1 := blk_frozen BK233.out 1))
                    have n0_ : Zz (((w52.setCell ⟨gb233, 0, none⟩ (.string t230)).setCell ⟨gb233, 1, none⟩ (.int .i64 t231)).heap[gb220]? = some (.cells #[.string t222, .int .i64 t223] 41 (0, 0))) := ⟨by (with_reducible repeat (first | refine blk_drewN ?_ _ | refine blk_drew ?_ | refine blk_alloc ?_ _)); refine blk_far ?_ NB220_233.out _; (with_reducible repeat (first | refine blk_drewN ?_ _ | refine blk_drew ?_ | refine blk_alloc ?_ _)); refine blk_far ?_ NB220_233.out _; (with_reducible repeat (first | refine blk_drewN ?_ _ | refine blk_drew ?_ | refine blk_alloc ?_ _)); exact BK220.out⟩
                    have n1_ : Zz (((w52.setCell ⟨gb233, 0, none⟩ (.string t230)).setCell ⟨gb233, 1, none⟩ (.int .i64 t231)).heap[gb221]? = some (.cells #[.string (⟨#[]⟩ : ByteArray), .int .i64 0] 41 (0, 0))) := ⟨by (with_reducible repeat (first | refine blk_drewN ?_ _ | refine blk_drew ?_ | refine blk_alloc ?_ _)); refine blk_far ?_ NB221_233.out _; (with_reducible repeat (first | refine blk_drewN ?_ _ | refine blk_drew ?_ | refine blk_alloc ?_ _)); refine blk_far ?_ NB221_233.out _; (with_reducible repeat (first | refine blk_drewN ?_ _ | refine blk_drew ?_ | refine blk_alloc ?_ _)); exact BK221.out⟩
                    have n2_ : Zz (((w52.setCell ⟨gb233, 0, none⟩ (.string t230)).setCell ⟨gb233, 1, none⟩ (.int .i64 t231)).heap[gb229]? = some (.cells #[.string t226, .int .i64 t227] 41 (0, 0))) := ⟨by (with_reducible repeat (first | refine blk_drewN ?_ _ | refine blk_drew ?_ | refine blk_alloc ?_ _)); refine blk_far ?_ NB229_233.out _; (with_reducible repeat (first | refine blk_drewN ?_ _ | refine blk_drew ?_ | refine blk_alloc ?_ _)); refine blk_far ?_ NB229_233.out _; (with_reducible repeat (first | refine blk_drewN ?_ _ | refine blk_drew ?_ | refine blk_alloc ?_ _)); exact BK229.out⟩
                    have n3_ : Zz (((w52.setCell ⟨gb233, 0, none⟩ (.string t230)).setCell ⟨gb233, 1, none⟩ (.int .i64 t231)).heap[gb233]? = some (.cells #[.string t230, .int .i64 t231] 41 (0, 0))) := ⟨by (with_reducible repeat (first | refine blk_drewN ?_ _ | refine blk_drew ?_ | refine blk_alloc ?_ _)); refine blk_put (cs := #[.string t230, .int .i64 0]) ?_ 1 _ rfl; (with_reducible repeat (first | refine blk_drewN ?_ _ | refine blk_drew ?_ | refine blk_alloc ?_ _)); refine blk_put (cs := #[.string (⟨#[]⟩ : ByteArray), .int .i64 0]) ?_ 0 _ rfl; (with_reducible repeat (first | refine blk_drewN ?_ _ | refine blk_drew ?_ | refine blk_alloc ?_ _)); exact BK233.out⟩
                    have n4_ : Zz (Below w.heap.size w ((w52.setCell ⟨gb233, 0, none⟩ (.string t230)).setCell ⟨gb233, 1, none⟩ (.int .i64 t231))) := ⟨by repeat (first | (with_reducible first | exact HB.out | apply below_alloc | apply pw_below_drewN | apply below_drew1 | refine below_set ?_ GE220.out | refine below_set ?_ GE221.out | refine below_set ?_ GE229.out | refine below_set ?_ GE233.out) | exact HB.out)⟩
                    (try clear BK220)
                    (try clear BK221)
                    (try clear BK229)
                    (try clear BK233)
                    (try clear HB)
                    generalize ((w52.setCell ⟨gb233, 0, none⟩ (.string t230)).setCell ⟨gb233, 1, none⟩ (.int .i64 t231)) = w57 at n0_ n1_ n2_ n3_ n4_ ⊢
                    have BK220 := n0_
                    have BK221 := n1_
                    have BK229 := n2_
                    have BK233 := n3_
                    have HB := n4_
                    clear n0_ n1_ n2_ n3_ n4_
                    have n0_ := Zz.mk (blk_drew BK220.out)
                    have n1_ := Zz.mk (blk_drew BK221.out)
                    have n2_ := Zz.mk (blk_drew BK229.out)
                    have n3_ := Zz.mk (blk_drew BK233.out)
                    have n4_ := Zz.mk (below_drew1 HB.out)
                    clear BK220
                    clear BK221
                    clear BK229
                    clear BK233
                    clear HB
                    have BK220 := n0_
                    have BK221 := n1_
                    have BK229 := n2_
                    have BK233 := n3_
                    have HB := n4_
                    clear n0_ n1_ n2_ n3_ n4_
                    refine start_ (n := 6) (S := fun w' => w'.cell? ⟨gb233, 0, none⟩ = some (.string t230) ∧ w'.cell? ⟨gb233, 1, none⟩ = some (.int .i64 t231) ∧ w'.cell? ⟨gb220, 0, none⟩ = some (.string t222) ∧ w'.cell? ⟨gb220, 1, none⟩ = some (.int .i64 t223)) (ds := []) #[false, false, false, false, false, false] (by kernel_rfl) rfl rfl ⟨(blk_cell BK233.out 0).trans rfl, (blk_cell BK233.out 1).trans rfl, (blk_cell BK220.out 0).trans rfl, (blk_cell BK220.out 1).trans rfl⟩ (fun hHeld => ?_)
                    generalize w57.drew = w58 at BK220 BK221 BK229 BK233 HB hHeld ⊢
                    refine take_ (i := 0) (N := some 78) (v := ?_) (a' := ?_) #[true, false, false, false, false, false] rfl rfl (by kernel_rfl) (fun _ _ _ h => h) (Or.inl ⟨by rfl, ?_⟩) hHeld ?_ ?_
                    rotate_left
                    · rintro w' ⟨s0, s1, s2, s3⟩
                      go_simp
                      with_reducible rfl
                    rotate_left
                    · simp only [Act.put, List.setIfInBounds_toArray, List.set_cons_zero, List.set_cons_succ, i64_w, i32_w]
                      rfl
                    refine take_ (i := 1) (N := some 79) (v := ?_) (a' := ?_) #[true, true, false, false, false, false] rfl rfl (by kernel_rfl) (fun _ _ _ h => h) (Or.inl ⟨by rfl, ?_⟩) hHeld ?_ ?_
                    rotate_left
                    · rintro w' ⟨s0, s1, s2, s3⟩
                      go_simp
                      with_reducible rfl
                    rotate_left
                    · simp only [Act.put, List.setIfInBounds_toArray, List.set_cons_zero, List.set_cons_succ, i64_w, i32_w]
                      rfl
                    refine take_ (i := 2) (N := some 80) (v := ?_) (a' := ?_) #[true, true, true, false, false, false] rfl rfl (by kernel_rfl) (fun _ _ _ h => h) (Or.inl ⟨by rfl, ?_⟩) hHeld ?_ ?_
                    rotate_left
                    · rintro w' ⟨s0, s1, s2, s3⟩
                      go_simp
                      with_reducible rfl
                    rotate_left
                    · simp only [Act.put, List.setIfInBounds_toArray, List.set_cons_zero, List.set_cons_succ, i64_w, i32_w]
                      rfl
                    refine pure_ (i := 3) (N := some 81) (v := ?_) (a' := ?_) #[true, true, true, true, false, false] rfl rfl (by kernel_rfl) (fun _ _ _ h => h) (Or.inl ⟨by rfl, ?_⟩) ?_ ?_
                    rotate_left
                    · intro w'
                      go_simp
                      with_reducible rfl
                    rotate_left
                    · simp only [Act.put, List.setIfInBounds_toArray, List.set_cons_zero, List.set_cons_succ, i64_w, i32_w]
                      rfl
                    refine one_ (i := 4) (N := none) #[true, true, true, true, true, false] rfl rfl (by kernel_rfl) (by decide) (fun K hK => ?_)
                    have hs59 : w58.cell? ⟨gb221, 0, none⟩ = some (.string (⟨#[]⟩ : ByteArray)) := (blk_cell BK221.out 0).trans rfl
                    have hfs59 := blk_frozen BK221.out 0
                    have hns59_0 := NB220_221.out
                    have hns59_2 := NB229_221.out
                    have hns59_3 := NB233_221.out
                    have hms59_0 := NB221_220.out
                    have hms59_2 := NB221_229.out
                    have hms59_3 := NB221_233.out
                    have hs60 : w58.cell? ⟨gb221, 1, none⟩ = some (.int .i64 0) := (blk_cell BK221.out 1).trans rfl
                    have hfs60 := blk_frozen BK221.out 1
                    have hns60_0 := NB220_221.out
                    have hns60_2 := NB229_221.out
                    have hns60_3 := NB233_221.out
                    have hms60_0 := NB221_220.out
                    have hms60_2 := NB221_229.out
                    have hms60_3 := NB221_233.out
                    refine skip_ (w1 := ?_) (by rfl) rfl ?_ ?_
                    rotate_left
                    · go_simp
                      rfl
                    refine hK.out _ _ ⟨((cell_far (p := ⟨gb221, _, none⟩) NB233_221.out _).trans (((cell_far (p := ⟨gb221, _, none⟩) NB233_221.out _).trans (hHeld.1)))), ((cell_far (p := ⟨gb221, _, none⟩) NB233_221.out _).trans (((cell_far (p := ⟨gb221, _, none⟩) NB233_221.out _).trans (hHeld.2.1)))), ((cell_far (p := ⟨gb221, _, none⟩) NB220_221.out _).trans (((cell_far (p := ⟨gb221, _, none⟩) NB220_221.out _).trans (hHeld.2.2.1)))), ((cell_far (p := ⟨gb221, _, none⟩) NB220_221.out _).trans (((cell_far (p := ⟨gb221, _, none⟩) NB220_221.out _).trans (hHeld.2.2.2))))⟩ (fun hHeld => ?_)
                    clear hK K
                    refine pure_ (i := 5) (N := some 5) (v := ?_) (a' := ?_) #[true, true, true, true, true, true] rfl rfl (by kernel_rfl) (fun _ _ _ h => h) (Or.inl ⟨by rfl, ?_⟩) ?_ ?_
                    rotate_left
                    · intro w'
                      go_simp
                      with_reducible rfl
                    rotate_left
                    · simp only [Act.put, List.setIfInBounds_toArray, List.set_cons_zero, List.set_cons_succ, i64_w, i32_w]
                      rfl
                    refine done_ (by kernel_rfl) ?_
                    try go_wp2
                    refine bodyPost_ret (results_ct rfl _ _ gb221 41 #[.string t230, .int .i64 t231] (0, 0) _ rfl (by (with_reducible repeat (first | refine blk_drewN ?_ _ | refine blk_drew ?_ | refine blk_alloc ?_ _)); refine blk_put (cs := #[.string t230, .int .i64 0]) ?_ 1 _ rfl; (with_reducible repeat (first | refine blk_drewN ?_ _ | refine blk_drew ?_ | refine blk_alloc ?_ _)); refine blk_put (cs := #[.string (⟨#[]⟩ : ByteArray), .int .i64 0]) ?_ 0 _ rfl; (with_reducible repeat (first | refine blk_drewN ?_ _ | refine blk_drew ?_ | refine blk_alloc ?_ _)); exact BK221.out) Tryz.underlying41 rfl (by kernel_rfl)) rfl ?_
                    exact ⟨by first | rfl | (simp [errW_none, errW_some] <;> rfl) | (simp [*, errW_none, errW_some] <;> rfl), by repeat (first | (with_reducible first | exact HB.out | apply below_alloc | apply pw_below_drewN | apply below_drew1 | refine below_set ?_ GE220.out | refine below_set ?_ GE221.out | refine below_set ?_ GE229.out | refine below_set ?_ GE233.out) | exact HB.out)⟩
                  · replace c43 := Bool.eq_false_iff.mpr c43
                    subst c43
                    have H1 : (some (t222, t223, false)) = some (r1, r2, r3) := by rw [if_neg (show ¬ (false = true) by decide)] at H; exact H
                    clear H
                    have H := H1
                    clear H1
                    simp only [Option.some.injEq, Prod.mk.injEq] at H
                    obtain ⟨rfl, rfl, rfl⟩ := H
                    have hnb61 := NB220_221.out
                    have hnc61 := NB221_220.out
                    have hcz62_0 : wc.cell? ⟨gb220, 0, none⟩ = some (.string t222) := (blk_cell BK220.out 0).trans rfl
                    have hcz62_1 : wc.cell? ⟨gb220, 1, none⟩ = some (.int .i64 t223) := (blk_cell BK220.out 1).trans rfl
                    have hfz62_0 := blk_frozen BK220.out 0
                    have hfz62_1 := blk_frozen BK220.out 1
                    go_wp2_with (first | ((with_reducible refine gate_callee (f := 31) rfl ?_); refine goesL_ (some 66) rfl rfl Tryz.func31 (by kernel_rfl) rfl #[.agg #[.string t222, .int .i64 t223], .int .i64 x6_3, .int .i64 t223] rfl (by (try simp only [List.map_toArray, List.map_cons, List.map_nil]); first | done | rfl | (simp only [List.length_drop, List.length_take]; rfl)) ?_; (with_reducible refine (souffleurref03_Cut.calls kj25 t222 t223 x6_3 t223 t226 t227 t228 _ A41.out).mono ?_); rintro e w63 ⟨rfl, hb⟩; refine ⟨_, rfl, ?_⟩; have n0_ := Zz.mk (blk_below (g := gb220) (o := .cells #[.string t222, .int .i64 t223] 41 (0, 0)) (by (with_reducible repeat (first | refine blk_drewN ?_ _ | refine blk_drew ?_ | refine blk_alloc ?_ _)); exact BK220.out) hb); have n1_ := Zz.mk (blk_below (g := gb221) (o := .cells #[.string (⟨#[]⟩ : ByteArray), .int .i64 0] 41 (0, 0)) (by (with_reducible repeat (first | refine blk_drewN ?_ _ | refine blk_drew ?_ | refine blk_alloc ?_ _)); exact BK221.out) hb); have n2_ := Zz.mk (below_step (by repeat (first | (with_reducible first | exact HB.out | apply below_alloc | apply pw_below_drewN | apply below_drew1 | refine below_set ?_ GE220.out | refine below_set ?_ GE221.out) | exact HB.out)) hb); clear BK220; clear BK221; clear HB; have BK220 := n0_; have BK221 := n1_; have HB := n2_; clear n0_ n1_ n2_; (try clear hb); (try clear hb2); (try clear hk); (try clear hi)) | ((with_reducible refine gate_dst (N := 9) rfl ?_); (try (refine gate_guard (by rfl) ?_; dsimp only)); refine box_event ?hg (N := 9) ?hd (cs := #[.string (⟨#[]⟩ : ByteArray), .int .i64 0]) (t := 41) ?hr ?_; (case hd => rfl); (case hg => rfl); (case hr => first | (go_simp; done) | (go_simp; rfl)); intro gb229 hg w64 hbox hb; have n0_ := Zz.mk (blk_below (g := gb220) (o := .cells #[.string t222, .int .i64 t223] 41 (0, 0)) (by (with_reducible repeat (first | refine blk_drewN ?_ _ | refine blk_drew ?_ | refine blk_alloc ?_ _)); exact BK220.out) hb); have n1_ := Zz.mk (blk_below (g := gb221) (o := .cells #[.string (⟨#[]⟩ : ByteArray), .int .i64 0] 41 (0, 0)) (by (with_reducible repeat (first | refine blk_drewN ?_ _ | refine blk_drew ?_ | refine blk_alloc ?_ _)); exact BK221.out) hb); have n2_ := Zz.mk (below_step (by repeat (first | (with_reducible first | exact HB.out | apply below_alloc | apply pw_below_drewN | apply below_drew1 | refine below_set ?_ GE220.out | refine below_set ?_ GE221.out) | exact HB.out)) hb); have n3_ := Zz.mk (hbox); have n4_ := Zz.mk ((by rw [hg]; exact (below_size (by repeat (first | (with_reducible first | exact HB.out | apply below_alloc | apply pw_below_drewN | apply below_drew1 | refine below_set ?_ GE220.out | refine below_set ?_ GE221.out) | exact HB.out))) : w.heap.size ≤ gb229)); have n5_ := Zz.mk ((by rw [hg]; exact (below_size (by repeat (first | (with_reducible first | exact HB.out | apply below_alloc | apply pw_below_drewN | apply below_drew1 | refine below_set ?_ GE220.out | refine below_set ?_ GE221.out) | exact HB.out))) : w.heap.size ≤ gb229)); have n6_ := Zz.mk ((by rw [hg]; exact Nat.ne_of_lt (blk_lt (g := gb220) (o := .cells #[.string t222, .int .i64 t223] 41 (0, 0)) (by (with_reducible repeat (first | refine blk_drewN ?_ _ | refine blk_drew ?_ | refine blk_alloc ?_ _)); exact BK220.out)) : gb220 ≠ gb229)); have n7_ := Zz.mk ((by rw [hg]; exact Nat.ne_of_gt (blk_lt (g := gb220) (o := .cells #[.string t222, .int .i64 t223] 41 (0, 0)) (by (with_reducible repeat (first | refine blk_drewN ?_ _ | refine blk_drew ?_ | refine blk_alloc ?_ _)); exact BK220.out)) : gb229 ≠ gb220)); have n8_ := Zz.mk ((by rw [hg]; exact Nat.ne_of_lt (blk_lt (g := gb221) (o := .cells #[.string (⟨#[]⟩ : ByteArray), .int .i64 0] 41 (0, 0)) (by (with_reducible repeat (first | refine blk_drewN ?_ _ | refine blk_drew ?_ | refine blk_alloc ?_ _)); exact BK221.out)) : gb221 ≠ gb229)); have n9_ := Zz.mk ((by rw [hg]; exact Nat.ne_of_gt (blk_lt (g := gb221) (o := .cells #[.string (⟨#[]⟩ : ByteArray), .int .i64 0] 41 (0, 0)) (by (with_reducible repeat (first | refine blk_drewN ?_ _ | refine blk_drew ?_ | refine blk_alloc ?_ _)); exact BK221.out)) : gb229 ≠ gb221)); clear BK220; clear BK221; clear HB; have BK220 := n0_; have BK221 := n1_; have HB := n2_; have BK229 := n3_; have GW229 := n4_; have GE229 := n5_; have NB220_229 := n6_; have NB229_220 := n7_; have NB221_229 := n8_; have NB229_221 := n9_; clear n0_ n1_ n2_ n3_ n4_ n5_ n6_ n7_ n8_ n9_; clear hb hbox hg; have hnb65 := NB229_220.out; have hnc65 := NB220_229.out; have hnb66 := NB229_221.out; have hnc66 := NB221_229.out; have hcz67_0 : w64.cell? ⟨gb229, 0, none⟩ = some (.string (⟨#[]⟩ : ByteArray)) := (blk_cell BK229.out 0).trans rfl; have hcz67_1 : w64.cell? ⟨gb229, 1, none⟩ = some (.int .i64 0) := (blk_cell BK229.out 1).trans rfl; have hfz67_0 := blk_frozen BK229.out 0; have hfz67_1 := blk_frozen BK229.out 1) | ((with_reducible refine gate_callee (f := 32) rfl ?_); refine goesL_ (some 72) rfl rfl Tryz.func32 (by kernel_rfl) rfl #[.agg #[.string t226, .int .i64 t227], .string t224] rfl (by (try simp only [List.map_toArray, List.map_cons, List.map_nil]); first | done | rfl | (simp only [List.length_drop, List.length_take]; rfl)) ?_; (with_reducible refine (souffleurref03_Insert.calls kj25 t226 t227 t224 t230 t231 false _ A42.out).mono ?_); rintro e w68 ⟨rfl, hb⟩; refine ⟨_, rfl, ?_⟩; have n0_ := Zz.mk (blk_below (g := gb220) (o := .cells #[.string t222, .int .i64 t223] 41 (0, 0)) (by (with_reducible repeat (first | refine blk_drewN ?_ _ | refine blk_drew ?_ | refine blk_alloc ?_ _)); refine blk_far ?_ NB220_229.out _; (with_reducible repeat (first | refine blk_drewN ?_ _ | refine blk_drew ?_ | refine blk_alloc ?_ _)); refine blk_far ?_ NB220_229.out _; (with_reducible repeat (first | refine blk_drewN ?_ _ | refine blk_drew ?_ | refine blk_alloc ?_ _)); exact BK220.out) hb); have n1_ := Zz.mk (blk_below (g := gb221) (o := .cells #[.string (⟨#[]⟩ : ByteArray), .int .i64 0] 41 (0, 0)) (by (with_reducible repeat (first | refine blk_drewN ?_ _ | refine blk_drew ?_ | refine blk_alloc ?_ _)); refine blk_far ?_ NB221_229.out _; (with_reducible repeat (first | refine blk_drewN ?_ _ | refine blk_drew ?_ | refine blk_alloc ?_ _)); refine blk_far ?_ NB221_229.out _; (with_reducible repeat (first | refine blk_drewN ?_ _ | refine blk_drew ?_ | refine blk_alloc ?_ _)); exact BK221.out) hb); have n2_ := Zz.mk (blk_below (g := gb229) (o := .cells #[.string t226, .int .i64 t227] 41 (0, 0)) (by (with_reducible repeat (first | refine blk_drewN ?_ _ | refine blk_drew ?_ | refine blk_alloc ?_ _)); refine blk_put (cs := #[.string t226, .int .i64 0]) ?_ 1 _ rfl; (with_reducible repeat (first | refine blk_drewN ?_ _ | refine blk_drew ?_ | refine blk_alloc ?_ _)); refine blk_put (cs := #[.string (⟨#[]⟩ : ByteArray), .int .i64 0]) ?_ 0 _ rfl; (with_reducible repeat (first | refine blk_drewN ?_ _ | refine blk_drew ?_ | refine blk_alloc ?_ _)); exact BK229.out) hb); have n3_ := Zz.mk (below_step (by repeat (first | (with_reducible first | exact HB.out | apply below_alloc | apply pw_below_drewN | apply below_drew1 | refine below_set ?_ GE220.out | refine below_set ?_ GE221.out | refine below_set ?_ GE229.out) | exact HB.out)) hb); clear BK220; clear BK221; clear BK229; clear HB; have BK220 := n0_; have BK221 := n1_; have BK229 := n2_; have HB := n3_; clear n0_ n1_ n2_ n3_; (try clear hb); (try clear hb2); (try clear hk); (try clear hi)) | ((with_reducible refine gate_dst (N := 11) rfl ?_); (try (refine gate_guard (by rfl) ?_; dsimp only)); refine box_event ?hg (N := 11) ?hd (cs := #[.string (⟨#[]⟩ : ByteArray), .int .i64 0]) (t := 41) ?hr ?_; (case hd => rfl); (case hg => rfl); (case hr => first | (go_simp; done) | (go_simp; rfl)); intro gb233 hg w69 hbox hb; have n0_ := Zz.mk (blk_below (g := gb220) (o := .cells #[.string t222, .int .i64 t223] 41 (0, 0)) (by (with_reducible repeat (first | refine blk_drewN ?_ _ | refine blk_drew ?_ | refine blk_alloc ?_ _)); exact BK220.out) hb); have n1_ := Zz.mk (blk_below (g := gb221) (o := .cells #[.string (⟨#[]⟩ : ByteArray), .int .i64 0] 41 (0, 0)) (by (with_reducible repeat (first | refine blk_drewN ?_ _ | refine blk_drew ?_ | refine blk_alloc ?_ _)); exact BK221.out) hb); have n2_ := Zz.mk (blk_below (g := gb229) (o := .cells #[.string t226, .int .i64 t227] 41 (0, 0)) (by (with_reducible repeat (first | refine blk_drewN ?_ _ | refine blk_drew ?_ | refine blk_alloc ?_ _)); exact BK229.out) hb); have n3_ := Zz.mk (below_step (by repeat (first | (with_reducible first | exact HB.out | apply below_alloc | apply pw_below_drewN | apply below_drew1 | refine below_set ?_ GE220.out | refine below_set ?_ GE221.out | refine below_set ?_ GE229.out) | exact HB.out)) hb); have n4_ := Zz.mk (hbox); have n5_ := Zz.mk ((by rw [hg]; exact (below_size (by repeat (first | (with_reducible first | exact HB.out | apply below_alloc | apply pw_below_drewN | apply below_drew1 | refine below_set ?_ GE220.out | refine below_set ?_ GE221.out | refine below_set ?_ GE229.out) | exact HB.out))) : w.heap.size ≤ gb233)); have n6_ := Zz.mk ((by rw [hg]; exact (below_size (by repeat (first | (with_reducible first | exact HB.out | apply below_alloc | apply pw_below_drewN | apply below_drew1 | refine below_set ?_ GE220.out | refine below_set ?_ GE221.out | refine below_set ?_ GE229.out) | exact HB.out))) : w.heap.size ≤ gb233)); have n7_ := Zz.mk ((by rw [hg]; exact Nat.ne_of_lt (blk_lt (g := gb220) (o := .cells #[.string t222, .int .i64 t223] 41 (0, 0)) (by (with_reducible repeat (first | refine blk_drewN ?_ _ | refine blk_drew ?_ | refine blk_alloc ?_ _)); exact BK220.out)) : gb220 ≠ gb233)); have n8_ := Zz.mk ((by rw [hg]; exact Nat.ne_of_gt (blk_lt (g := gb220) (o := .cells #[.string t222, .int .i64 t223] 41 (0, 0)) (by (with_reducible repeat (first | refine blk_drewN ?_ _ | refine blk_drew ?_ | refine blk_alloc ?_ _)); exact BK220.out)) : gb233 ≠ gb220)); have n9_ := Zz.mk ((by rw [hg]; exact Nat.ne_of_lt (blk_lt (g := gb221) (o := .cells #[.string (⟨#[]⟩ : ByteArray), .int .i64 0] 41 (0, 0)) (by (with_reducible repeat (first | refine blk_drewN ?_ _ | refine blk_drew ?_ | refine blk_alloc ?_ _)); exact BK221.out)) : gb221 ≠ gb233)); have n10_ := Zz.mk ((by rw [hg]; exact Nat.ne_of_gt (blk_lt (g := gb221) (o := .cells #[.string (⟨#[]⟩ : ByteArray), .int .i64 0] 41 (0, 0)) (by (with_reducible repeat (first | refine blk_drewN ?_ _ | refine blk_drew ?_ | refine blk_alloc ?_ _)); exact BK221.out)) : gb233 ≠ gb221)); have n11_ := Zz.mk ((by rw [hg]; exact Nat.ne_of_lt (blk_lt (g := gb229) (o := .cells #[.string t226, .int .i64 t227] 41 (0, 0)) (by (with_reducible repeat (first | refine blk_drewN ?_ _ | refine blk_drew ?_ | refine blk_alloc ?_ _)); exact BK229.out)) : gb229 ≠ gb233)); have n12_ := Zz.mk ((by rw [hg]; exact Nat.ne_of_gt (blk_lt (g := gb229) (o := .cells #[.string t226, .int .i64 t227] 41 (0, 0)) (by (with_reducible repeat (first | refine blk_drewN ?_ _ | refine blk_drew ?_ | refine blk_alloc ?_ _)); exact BK229.out)) : gb233 ≠ gb229)); clear BK220; clear BK221; clear BK229; clear HB; have BK220 := n0_; have BK221 := n1_; have BK229 := n2_; have HB := n3_; have BK233 := n4_; have GW233 := n5_; have GE233 := n6_; have NB220_233 := n7_; have NB233_220 := n8_; have NB221_233 := n9_; have NB233_221 := n10_; have NB229_233 := n11_; have NB233_229 := n12_; clear n0_ n1_ n2_ n3_ n4_ n5_ n6_ n7_ n8_ n9_ n10_ n11_ n12_; clear hb hbox hg; have hnb70 := NB233_220.out; have hnc70 := NB220_233.out; have hnb71 := NB233_221.out; have hnc71 := NB221_233.out; have hnb72 := NB233_229.out; have hnc72 := NB229_233.out; have hcz73_0 : w69.cell? ⟨gb233, 0, none⟩ = some (.string (⟨#[]⟩ : ByteArray)) := (blk_cell BK233.out 0).trans rfl; have hcz73_1 : w69.cell? ⟨gb233, 1, none⟩ = some (.int .i64 0) := (blk_cell BK233.out 1).trans rfl; have hfz73_0 := blk_frozen BK233.out 0; have hfz73_1 := blk_frozen BK233.out 1; have hcz74_0 : w69.cell? ⟨gb220, 0, none⟩ = some (.string t222) := (blk_cell BK220.out 0).trans rfl; have hcz74_1 : w69.cell? ⟨gb220, 1, none⟩ = some (.int .i64 t223) := (blk_cell BK220.out 1).trans rfl; have hfz74_0 := blk_frozen BK220.out 0; have hfz74_1 := blk_frozen BK220.out 1; have hcz75_0 : w69.cell? ⟨gb221, 0, none⟩ = some (.string (⟨#[]⟩ : ByteArray)) := (blk_cell BK221.out 0).trans rfl; have hcz75_1 : w69.cell? ⟨gb221, 1, none⟩ = some (.int .i64 0) := (blk_cell BK221.out 1).trans rfl; have hfz75_0 := blk_frozen BK221.out 0; have hfz75_1 := blk_frozen BK221.out 1))
                    refine bodyPost_ret (results_ct rfl _ _ gb221 41 #[.string t222, .int .i64 t223] (0, 0) _ rfl (by (with_reducible repeat (first | refine blk_drewN ?_ _ | refine blk_drew ?_ | refine blk_alloc ?_ _)); refine blk_put (cs := #[.string t222, .int .i64 0]) ?_ 1 _ rfl; (with_reducible repeat (first | refine blk_drewN ?_ _ | refine blk_drew ?_ | refine blk_alloc ?_ _)); refine blk_put (cs := #[.string (⟨#[]⟩ : ByteArray), .int .i64 0]) ?_ 0 _ rfl; (with_reducible repeat (first | refine blk_drewN ?_ _ | refine blk_drew ?_ | refine blk_alloc ?_ _)); refine blk_far ?_ NB221_233.out _; (with_reducible repeat (first | refine blk_drewN ?_ _ | refine blk_drew ?_ | refine blk_alloc ?_ _)); refine blk_far ?_ NB221_233.out _; (with_reducible repeat (first | refine blk_drewN ?_ _ | refine blk_drew ?_ | refine blk_alloc ?_ _)); exact BK221.out) Tryz.underlying41 rfl (by kernel_rfl)) rfl ?_
                    exact ⟨by first | rfl | (simp [errW_none, errW_some] <;> rfl) | (simp [*, errW_none, errW_some] <;> rfl), by repeat (first | (with_reducible first | exact HB.out | apply below_alloc | apply pw_below_drewN | apply below_drew1 | refine below_set ?_ GE220.out | refine below_set ?_ GE221.out | refine below_set ?_ GE229.out | refine below_set ?_ GE233.out) | exact HB.out)⟩
          · rw [if_neg c24] at H
            exact absurd H (by simp)
        · rw [if_neg c23] at H
          exact absurd H (by simp)
      · rw [if_neg c22] at H
        exact absurd H (by simp)
end Go.Proofs.YtbhiljaipikklaaGreatDoor.R

