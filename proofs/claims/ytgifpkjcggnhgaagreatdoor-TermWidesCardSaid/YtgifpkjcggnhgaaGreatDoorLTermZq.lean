/- Parts of the proof of the law that the last file states; declarations that nothing mentions are left out by a program. No conditions. -/
import Derived.Test.YtgifpkjcggnhgaaGreatDoorLTermW9q
set_option linter.unusedVariables false
set_option linter.unusedSimpArgs false
namespace Go.Proofs.YtgifpkjcggnhgaaGreatDoorL
open Go Go.RowKit Go.Proofs.YtgifpkjcggnhgaaGreatDoorW.PrintWords
set_option maxHeartbeats 2000000 in
set_option maxRecDepth 100000 in
theorem repeat_zero {w : World} {g : Nat} (hB : Blk w g 32 (cV blankC).toArray) :
    Calls Tryz.prog 33 #[.slice (some ⟨g, 0, none⟩) 1 1, .int .i64 0] w fun e w' => ∃ r : RR, e = .returned r.v ∧ r.n = 0 ∧ w.heap.size ≤ r.g ∧ RowAt w' r (blankR 0) ∧ Below w.heap.size w w' := by
  have XM : Hd (∀ w1 : World, Calls Tryz.prog 41 #[.int .u64 1, .int .u64 0] w1 fun e w' => e = .returned (.tuple #[.int .u64 0, .int .u64 0]) ∧ w' = w1) := ⟨fun w1 => mul_one_calls 0 (by omega) w1⟩
  go_enter Tryz.func33, Tryz.ntmps33
  go_upto_region 6 with (go_at_call 41; (with_reducible refine (XM.out _).mono ?_); rintro _ w1 ⟨rfl, rfl⟩)
  have hmk : (Instr.makeSlice 29 (.int .i64 0) (.int .i64 0)).run Tryz.prog w1 = .ok (.slice (some ⟨w1.heap.size, 0, none⟩) 0 0) (w1.alloc (.cells (rowV (fillR 0 0)).toArray 32)) := make_rows 0 (by omega) w1
  have HR : Hd (RowAt _ ⟨w1.heap.size, 0, 0⟩ (fillR 0 0)) := ⟨made_row 0 w1 (by omega)⟩
  have HBz : Hd (Below w1.heap.size w1 (w1.alloc (.cells (rowV (fillR 0 0)).toArray 32))) := ⟨below_alloc (Below.refl _ _) _⟩
  have HN : Hd (w1.heap.size ≤ w1.heap.size) := ⟨Nat.le_refl _⟩
  go_upto_region 7 with fail
  clear hmk
  generalize w1.alloc (.cells (rowV (fillR 0 0)).toArray 32) = wz at *
  generalize hgz : w1.heap.size = gz at *
  go_upto_region 8 with (refine copy3_list (w' := wz) (cs := []) rfl rfl rfl rfl rfl ?_ ?_ ?_)
  case refine_1 => intro j v hj; simp at hj
  case refine_2 => rfl
  go_wp2
  go_loopg [8] 0 (fun kq v8 wx => v8 = .int .i64 0 ∧ wx = wz)
  case atStart => exact ⟨rfl, rfl⟩
  case round =>
    obtain ⟨rfl, rfl⟩ := hrel
    go_wp2
    go_ret
    exact ⟨⟨gz, 0, 0⟩, rfl, rfl, by rw [hgz]; exact Nat.le_refl _, HR.out, by rw [hgz]; exact HBz.out⟩
set_option maxRecDepth 100000 in
set_option maxHeartbeats 2000000 in
theorem blank_zero (w : World) : Calls Tryz.prog 28 #[.int .i64 0] w fun e w' => ∃ r : RR, e = .returned r.v ∧ r.n = 0 ∧ w.heap.size ≤ r.g ∧ RowAt w' r (blankR 0) ∧ Below w.heap.size w w' := by
  go_enter Tryz.func28, Tryz.ntmps28
  go_wp2_with fail
  go_at_call 25
  have XB := blankc_calls w
  rw [show (cV blankC).toArray = #[.string ⟨#[32]⟩, .int .i64 1, .bool false] from rfl] at XB
  with_reducible refine XB.mono ?_
  rintro _ w1 ⟨rfl, hb⟩
  clear XB
  have HB := Hd.mk hb
  have hal := below_alloc (Below.refl _ w1) (.cells #[.string ⟨#[32]⟩, .int .i64 1, .bool false] 32)
  have XR := Hd.mk (repeat_zero (show Blk (w1.alloc (.cells #[.string ⟨#[32]⟩, .int .i64 1, .bool false] 32)) w1.heap.size 32 (cV blankC).toArray from Blk.new w1 32 #[.string ⟨#[32]⟩, .int .i64 1, .bool false]))
  have HB2 := Hd.mk (HB.out.trans (hal.mono HB.out.size))
  clear hb hal
  go_wp2_with fail
  go_at_call 33
  with_reducible refine (XR.out).mono ?_
  rintro _ w2 ⟨r, rfl, hn, hg, hr, hb⟩
  have HE := Hd.mk (HB2.out.trans (hb.mono HB2.out.size))
  have HR := Hd.mk hr
  have HG : Hd (w.heap.size ≤ r.g) := ⟨Nat.le_trans HB2.out.size hg⟩
  clear hr hb hg XR
  go_wp2
  go_ret
  exact ⟨r, by rfl, hn, HG.out, HR.out, HE.out⟩
theorem blank_any (n : Nat) (h2 : n ≤ 1000) (w : World) : Calls Tryz.prog 28 #[.int .i64 (n : Int)] w fun e w' => ∃ r : RR, e = .returned r.v ∧ r.n = n ∧ w.heap.size ≤ r.g ∧ RowAt w' r (blankR n) ∧ Below w.heap.size w w' := by
  cases n with
  | zero => exact blank_zero w
  | succ n => exact blank_calls (n + 1) (by omega) h2 w
end Go.Proofs.YtgifpkjcggnhgaaGreatDoorL

