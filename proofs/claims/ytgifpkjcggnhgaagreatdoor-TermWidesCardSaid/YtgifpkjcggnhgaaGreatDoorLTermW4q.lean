/- Parts of the proof of the law that the last file states; declarations that nothing mentions are left out by a program. No conditions. -/
import Derived.Test.YtgifpkjcggnhgaaGreatDoorLTermW3q
set_option linter.unusedVariables false
set_option linter.unusedSimpArgs false
namespace Go.Proofs.YtgifpkjcggnhgaaGreatDoorL
open Go Go.RowKit Go.Proofs.YtgifpkjcggnhgaaGreatDoorW.PrintWords
set_option maxRecDepth 100000 in
set_option maxHeartbeats 2000000 in
theorem blank_calls (n : Nat) (h1 : 1 ≤ n) (h2 : n ≤ 1000) (w : World) : Calls Tryz.prog 28 #[.int .i64 (n : Int)] w fun e w' => ∃ r : RR, e = .returned r.v ∧ r.n = n ∧ w.heap.size ≤ r.g ∧ RowAt w' r (blankR n) ∧ Below w.heap.size w w' := by
  go_enter Tryz.func28, Tryz.ntmps28
  go_wp2_with fail
  go_at_call 25
  have XB := blankc_calls w
  rw [show (cV blankC).toArray = #[.string ⟨#[32]⟩, .int .i64 1, .bool false] from rfl] at XB
  with_reducible refine XB.mono ?_
  rintro _ w1 ⟨rfl, hb⟩
  clear XB
  have HB := Hd.mk hb
  have hal := below_alloc (Below.refl _ w1) (.cells #[.string ⟨#[32]⟩, .int .i64 1, .bool false] 32)
  have XR := Hd.mk (repeat_calls (show Blk (w1.alloc (.cells #[.string ⟨#[32]⟩, .int .i64 1, .bool false] 32)) w1.heap.size 32 (cV blankC).toArray from Blk.new w1 32 #[.string ⟨#[32]⟩, .int .i64 1, .bool false]) h1 h2)
  have HB2 := Hd.mk (HB.out.trans (hal.mono HB.out.size))
  clear hb hal
  go_wp2_with fail
  go_at_call 33
  with_reducible refine (XR.out).mono ?_
  rintro _ w2 ⟨r, rfl, hn, hg, hr, hb⟩
  have HE := Hd.mk (HB2.out.trans (hb.mono HB2.out.size))
  have HR := Hd.mk hr
  have HG : Hd (w.heap.size ≤ r.g) := ⟨Nat.le_trans HB2.out.size hg⟩
  clear hr hb hg XR
  go_wp2
  go_ret
  exact ⟨r, by rfl, hn, HG.out, HR.out, HE.out⟩
set_option maxRecDepth 100000 in
set_option maxHeartbeats 2000000 in
theorem cutn_calls (a b : Int) (w : World) : Calls Tryz.prog 27 #[.int .i64 a, .int .i64 b] w fun e w' => e = .returned (.tuple #[.int .i64 ((cutN a 60 : Nat) : Int), .int .i64 ((cutN b 120 : Nat) : Int)]) ∧ w' = w := by
  have ha : min (max a 1) 60 = ((cutN a 60 : Nat) : Int) := by unfold cutN; omega
  have hb : min (max b 1) 120 = ((cutN b 120 : Nat) : Int) := by unfold cutN; omega
  go_enter Tryz.func27, Tryz.ntmps27
  go_wp2
  go_ret2
  exact ⟨rfl, rfl⟩
set_option maxRecDepth 100000 in
set_option maxHeartbeats 2000000 in
theorem size_calls {P : Nat → Prop} {w : World} {T : Nat} {s : Tm} (h : TermAt P w T s) : Calls Tryz.prog 12 #[.pointer (some ⟨T, 0, none⟩)] w fun e w' => e = .returned (.tuple #[.int .i64 (s.l.length : Int), .int .i64 (s.cols : Int)]) ∧ Below w.heap.size w w' := by
  obtain ⟨lv, gv, bv, L, G, h⟩ := h
  obtain ⟨⟨t0, t1, t2, t3, t4, t5, t6, t7, t8, t9, t10⟩, tf⟩ := h.all
  have hlen := forall_len h.fl
  obtain ⟨A, c, rfl, hc⟩ := Kd.Q_slice h.ql
  rw [hlen] at t1
  clear tf hc h
  go_enter Tryz.func12, Tryz.ntmps12
  go_upto_region 1 with fail
  go_quiet (fail)
  go_wp2
  go_ret2
  exact ⟨rfl, by repeat (first | exact Below.refl _ _ | apply below_drew1 | apply pw_below_drewN)⟩
set_option maxRecDepth 100000 in
set_option maxHeartbeats 2000000 in
theorem cursor_calls {P : Nat → Prop} {w : World} {T : Nat} {s : Tm} (h : TermAt P w T s) : Calls Tryz.prog 13 #[.pointer (some ⟨T, 0, none⟩)] w fun e w' => e = .returned (.tuple #[.int .i64 (s.row : Int), .int .i64 (s.col : Int)]) ∧ Below w.heap.size w w' := by
  obtain ⟨lv, gv, bv, L, G, h⟩ := h
  obtain ⟨⟨t0, t1, t2, t3, t4, t5, t6, t7, t8, t9, t10⟩, tf⟩ := h.all
  have hlen := forall_len h.fl
  obtain ⟨A, c, rfl, hc⟩ := Kd.Q_slice h.ql
  rw [hlen] at t1
  clear tf hc h
  go_enter Tryz.func13, Tryz.ntmps13
  go_upto_region 1 with fail
  go_quiet (fail)
  go_wp2
  go_ret2
  exact ⟨rfl, by repeat (first | exact Below.refl _ _ | apply below_drew1 | apply pw_below_drewN)⟩
set_option maxRecDepth 100000 in
set_option maxHeartbeats 2000000 in
theorem full_calls {P : Nat → Prop} {w : World} {T : Nat} {s : Tm} (h : TermAt P w T s) : Calls Tryz.prog 15 #[.pointer (some ⟨T, 0, none⟩)] w fun e w' => e = .returned (.bool s.full) ∧ Below w.heap.size w w' := by
  obtain ⟨lv, gv, bv, L, G, h⟩ := h
  obtain ⟨⟨t0, t1, t2, t3, t4, t5, t6, t7, t8, t9, t10⟩, tf⟩ := h.all
  have hlen := forall_len h.fl
  obtain ⟨A, c, rfl, hc⟩ := Kd.Q_slice h.ql
  rw [hlen] at t1
  clear tf hc h
  go_enter Tryz.func15, Tryz.ntmps15
  go_wp2
  go_ret
  exact ⟨rfl, by repeat (first | exact Below.refl _ _ | apply below_drew1 | apply pw_below_drewN)⟩
set_option maxRecDepth 100000 in
set_option maxHeartbeats 2000000 in
theorem off_calls {P : Nat → Prop} {w : World} {T : Nat} {s : Tm} (h : TermAt P w T s) : Calls Tryz.prog 21 #[.pointer (some ⟨T, 0, none⟩)] w fun e w' => e = .returned (.int .i64 (s.off : Int)) ∧ Below w.heap.size w w' := by
  obtain ⟨lv, gv, bv, L, G, h⟩ := h
  obtain ⟨⟨t0, t1, t2, t3, t4, t5, t6, t7, t8, t9, t10⟩, tf⟩ := h.all
  have hlen := forall_len h.fl
  obtain ⟨A, c, rfl, hc⟩ := Kd.Q_slice h.ql
  rw [hlen] at t1
  clear tf hc h
  go_enter Tryz.func21, Tryz.ntmps21
  go_wp2
  go_ret
  exact ⟨rfl, by repeat (first | exact Below.refl _ _ | apply below_drew1 | apply pw_below_drewN)⟩
end Go.Proofs.YtgifpkjcggnhgaaGreatDoorL

