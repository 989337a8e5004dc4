/- Parts of the proof of the law that the last file states; declarations that nothing mentions are left out by a program. No conditions. -/
import Derived.Test.YtledplnlcjfafaaDoorProg
import Derived.WalkKit
import Derived.Below
import Derived.Deep.LoopGhost
import Derived.Deep.QuietTactic
import Derived.BigQuiet
import Derived.Deep.RegionHeld
import Derived.Lib.SliceRun
import Derived.Test.YtledplnlcjfafaaDoorLBoxq
set_option linter.unusedVariables false
set_option linter.unusedSimpArgs false
namespace Go.Proofs.YtledplnlcjfafaaDoorL
open Go Go.RowKit Go.Proofs.YtledplnlcjfafaaDoorW.PrintWords
def ctlB (r : Int) : Bool := decide (r < 32) || (decide (127 ≤ r) && decide (r ≤ 159))
theorem control_calls (r : Int) (w : World) : Calls Tryd.prog 60 #[.int .i32 r] w fun e w' => e = .returned (.bool (ctlB r)) ∧ w = w' := by
  by_cases h1 : r < 32
  · have e : ctlB r = true := by simp [ctlB, h1]
    rw [e]
    go_enter Tryd.func60, Tryd.ntmps60
    go_wp2
    go_ret
    exact ⟨rfl, rfl⟩
  · by_cases h2 : 127 ≤ r
    · have e : ctlB r = decide (r ≤ 159) := by simp [ctlB, h1, h2]
      rw [e]
      go_enter Tryd.func60, Tryd.ntmps60
      go_wp2
      go_ret
      exact ⟨rfl, rfl⟩
    · have e : ctlB r = false := by simp [ctlB, h1, h2]
      rw [e]
      go_enter Tryd.func60, Tryd.ntmps60
      go_wp2
      go_ret
      exact ⟨rfl, rfl⟩
def inR (r : Int) (x : Int × Int) : Bool := decide (x.1 ≤ r) && decide (r ≤ x.2)
set_option maxHeartbeats 1000000 in
theorem in1_calls (r a b : Int) (g : Nat) (w : World) (hg : w.cell? ⟨g, 0, none⟩ = some (.int .i32 r)) :
    Calls Tryd.prog 79 #[.agg #[.int .i32 a, .int .i32 b], .pointer (some ⟨g, 0, none⟩)] w fun e w' => e = .returned (.bool (inR r (a, b))) ∧ Below w.heap.size w w' := by
  have hlt := World.block_lt_of_cell? w _ hg
  have hg2 : (w.alloc (.cells #[.int .i32 a, .int .i32 b] 105)).cell? ⟨g, 0, none⟩ = some (.int .i32 r) := by rw [World.cell?_alloc_some _ _ _ (by rw [hg]; rfl)]; exact hg
  by_cases h1 : a ≤ r
  · have e : inR r (a, b) = decide (r ≤ b) := by simp [inR, h1]
    rw [e]
    go_enter Tryd.func79, Tryd.ntmps79
    go_wp2
    go_ret
    exact ⟨rfl, (Below.refl _ _).alloc (Nat.le_refl _) _⟩
  · have e : inR r (a, b) = false := by simp [inR, h1]
    rw [e]
    go_enter Tryd.func79, Tryd.ntmps79
    go_wp2
    go_ret
    exact ⟨rfl, (Below.refl _ _).alloc (Nat.le_refl _) _⟩
def idxR (r : Int) : List (Int × Int) → Nat → Int
  | [], _ => -1
  | x :: l, k => if inR r x = true then (k : Int) else idxR r l (k + 1)
theorem idxR_any (r : Int) : ∀ (l : List (Int × Int)) (k : Nat), decide (0 ≤ idxR r l k) = l.any (inR r)
  | [], k => by simp [idxR]
  | x :: l, k => by
    unfold idxR
    by_cases h : inR r x = true
    · simp [h]
    · have h' : inR r x = false := by simpa using h
      simp [h', idxR_any r l (k + 1)]
set_option maxHeartbeats 1000000 in
theorem index_calls (r : Int) (l : List (Int × Int)) (hl : l.length ≤ 1000) (g b : Nat) (w : World) (hg : w.cell? ⟨g, 0, none⟩ = some (.int .i32 r))
    (hc : ∀ i (hi : i < l.length), w.cell? ⟨b, i * 2, none⟩ = some (.int .i32 l[i].1) ∧ w.cell? ⟨b, i * 2 + 1, none⟩ = some (.int .i32 l[i].2)) (c : Nat) :
    Calls Tryd.prog 86 #[.slice (some ⟨b, 0, none⟩) l.length c, .func (.func 79) #[] #[.pointer (some ⟨g, 0, none⟩)]] w fun e w' => e = .returned (.int .i64 (idxR r l 0)) ∧ Below w.heap.size w w' := by
  have HG := Hd.mk hg
  have HC := Hd.mk hc
  have HL := Hd.mk hl
  clear hc hg hl
  go_enter Tryd.func86, Tryd.ntmps86
  go_wp2
  go_loopg [8] l.length (fun gk v8 wx => ∃ k : Nat, k + gk = l.length ∧ v8 = .int .i64 k ∧ Below w.heap.size w wx ∧ Hd (idxR r (l.drop k) k = idxR r l 0))
  case atStart => exact ⟨0, by omega, rfl, Below.refl _ _, ⟨rfl⟩⟩
  case round =>
    obtain ⟨k, hk, rfl, hb, HI⟩ := hrel
    have HB := Hd.mk hb
    cases gk with
    | zero =>
      have hlt : decide (k < l.length) = false := decide_eq_false (by omega)
      have HE : Hd (idxR r l 0 = -1) := ⟨by rw [← HI.out, List.drop_eq_nil_of_le (by omega)]; rfl⟩
      go_wp2
      go_ret
      exact ⟨by rw [HE.out]; rfl, HB.out⟩
    | succ d =>
      have hkl : k < l.length := by omega
      have hlt : decide ((k : Int) < (l.length : Int)) = true := decide_eq_true (by omega)
      obtain ⟨c0, c1⟩ := HC.out k hkl
      have e0 := (HB.out.cell (World.block_lt_of_cell? w _ c0)).trans c0
      have e1 := (HB.out.cell (World.block_lt_of_cell? w _ c1)).trans c1
      have eg := (HB.out.cell (World.block_lt_of_cell? w _ HG.out)).trans HG.out
      have X := Hd.mk (in1_calls r l[k].1 l[k].2 g wr eg)
      have HK := Hd.mk hk
      have HD : Hd (idxR r (l.drop k) k = if inR r (l[k].1, l[k].2) = true then (k : Int) else idxR r (l.drop (k + 1)) (k + 1)) := ⟨by rw [List.drop_eq_getElem_cons hkl]; rfl⟩
      clear c0 c1 eg hb hk
      generalize l[k].1 = a at e0 X HD
      generalize l[k].2 = b2 at e1 X HD
      go_wp2_with fail
      with_reducible refine (X.out).mono ?_
      rintro _ w2 ⟨rfl, hb2⟩
      have HB2 := Hd.mk (HB.out.trans (hb2.mono HB.out.size))
      clear hb2 e0 e1 X hlt
      by_cases hin : inR r (a, b2) = true
      · have HE : Hd (idxR r l 0 = (k : Int)) := ⟨by rw [← HI.out, HD.out, if_pos hin]⟩
        rw [hin]
        clear hin
        go_wp2
        go_ret
        exact ⟨by rw [HE.out]; rfl, HB2.out⟩
      · have hin' : inR r (a, b2) = false := by simpa using hin
        have HE : Hd (idxR r (l.drop (k + 1)) (k + 1) = idxR r l 0) := ⟨by rw [← HI.out, HD.out, if_neg hin]⟩
        have hk1 : (k : Int) ≤ 1000 := by have h1 := HL.out; omega
        rw [hin']
        clear hin hin'
        go_wp2
        go_roundg d
        case measure => omega
        case rel => exact ⟨k + 1, by have h1 := HK.out; omega, by go_num, HB2.out, HE⟩
theorem contains_calls (r : Int) (l : List (Int × Int)) (hl : l.length ≤ 1000) (g b : Nat) (w : World) (hg : w.cell? ⟨g, 0, none⟩ = some (.int .i32 r))
    (hc : ∀ i (hi : i < l.length), w.cell? ⟨b, i * 2, none⟩ = some (.int .i32 l[i].1) ∧ w.cell? ⟨b, i * 2 + 1, none⟩ = some (.int .i32 l[i].2)) (c : Nat) :
    Calls Tryd.prog 78 #[.slice (some ⟨b, 0, none⟩) l.length c, .func (.func 79) #[] #[.pointer (some ⟨g, 0, none⟩)]] w fun e w' => e = .returned (.bool (l.any (inR r))) ∧ Below w.heap.size w w' := by
  have X := Hd.mk (index_calls r l hl g b w hg hc c)
  have HE := Hd.mk (idxR_any r l 0)
  clear hg hc
  go_enter Tryd.func78, Tryd.ntmps78
  go_wp2_with fail
  go_at_call 86
  with_reducible refine (X.out).mono ?_
  rintro _ w2 ⟨rfl, hb2⟩
  have HB2 := Hd.mk hb2
  clear hb2
  go_wp2
  go_ret
  exact ⟨by rw [← HE.out]; rfl, HB2.out⟩
theorem in_calls (r : Int) (l : List (Int × Int)) (hl : l.length ≤ 1000) (b : Nat) (w : World)
    (hc : ∀ i (hi : i < l.length), w.cell? ⟨b, i * 2, none⟩ = some (.int .i32 l[i].1) ∧ w.cell? ⟨b, i * 2 + 1, none⟩ = some (.int .i32 l[i].2)) (c : Nat) :
    Calls Tryd.prog 64 #[.slice (some ⟨b, 0, none⟩) l.length c, .int .i32 r] w fun e w' => e = .returned (.bool (l.any (inR r))) ∧ Below w.heap.size w w' := by
  have hal : Below w.heap.size w (w.alloc (.cells #[.int .i32 r] 21)) := (Below.refl _ _).alloc (Nat.le_refl _) _
  have X := Hd.mk (contains_calls r l hl w.heap.size b (w.alloc (.cells #[.int .i32 r] 21)) (by go_simp) (fun i hi => ⟨(hal.cell (World.block_lt_of_cell? w _ (hc i hi).1)).trans (hc i hi).1, (hal.cell (World.block_lt_of_cell? w _ (hc i hi).2)).trans (hc i hi).2⟩) c)
  have HA := Hd.mk hal
  clear hc hal
  go_enter Tryd.func64, Tryd.ntmps64
  go_wp2_with fail
  go_at_call 78
  with_reducible refine (X.out).mono ?_
  rintro _ w2 ⟨rfl, hb2⟩
  have HB2 := Hd.mk (HA.out.trans (hb2.mono HA.out.size))
  clear hb2
  go_wp2
  go_ret
  exact ⟨rfl, HB2.out⟩
def noneR : List (Int × Int) := [(0x300, 0x36f), (0x1ab0, 0x1aff), (0x1dc0, 0x1dff), (0x200b, 0x200d), (0x20d0, 0x20ff), (0xfe00, 0xfe0f), (0xfe20, 0xfe2f)]
def wideR : List (Int × Int) := [(0x1100, 0x115f), (0x2e80, 0x303e), (0x3041, 0xa4cf), (0xac00, 0xd7a3), (0xf900, 0xfaff), (0xfe30, 0xfe6f), (0xff01, 0xff60), (0xffe0, 0xffe6), (0x1f300, 0x1faff), (0x20000, 0x3fffd)]
def rngV (l : List (Int × Int)) : Array Value := (l.flatMap fun x => [Value.int .i32 x.1, Value.int .i32 x.2]).toArray
def ofR (r : Int) : Int := if noneR.any (inR r) = true then 0 else if wideR.any (inR r) = true then 2 else 1
theorem rng_one (l : List (Int × Int)) : (rngV l).all (·.oneCell') = true := by
  unfold rngV
  simp [Value.oneCell', List.all_flatMap]
theorem infonone : (Tryd.prog.info? 106).map (·.size) = some (rngV noneR).size := by kernel_rfl
set_option maxRecDepth 100000 in
set_option maxHeartbeats 1000000 in
theorem none_calls (w : World) : Calls Tryd.prog 62 #[] w fun e w' => e = .returned (.agg (rngV noneR)) ∧ Below w.heap.size w w' := by
  go_enter Tryd.func62, Tryd.ntmps62
  go_wp2_with (first
    | ((with_reducible refine gate_dst (N := 0) rfl ?_); refine box_event ?hg (N := 0) ?hd (cs := #[.int .i32 0, .int .i32 0, .int .i32 0, .int .i32 0, .int .i32 0, .int .i32 0, .int .i32 0, .int .i32 0, .int .i32 0, .int .i32 0, .int .i32 0, .int .i32 0, .int .i32 0, .int .i32 0]) (t := 106) ?hr ?_; (case hd => rfl); (case hg => rfl); (case hr => first | (go_simp; done) | (go_simp; rfl)); intro g0 hg w1 hx hb; have B0 := Hd.mk (show Blk w1 g0 106 _ from hx); have HG : Hd (w.heap.size ≤ g0) := ⟨hg ▸ Nat.le_refl _⟩; have HB := Hd.mk hb; clear hx hb hg)
    | ((with_reducible refine gate_store (t := 106) (p := 0) rfl ?_); refine store_event rfl rfl (g := g0) (cells := rngV noneR) (by first | rfl | (go_simp; done) | (go_simp; rfl)) (by first | rfl | (go_simp; done) | (go_simp; rfl)) B0.out infonone rfl (rng_one _) ?_; intro ws hx hk hz hb; have B1 := Hd.mk hx; have HB1 := Hd.mk (hb HB.out HG.out); clear hx hk hz hb HB B0))
  exact ret_row rfl rfl Tryd.underlying106 infonone rfl B1.out rfl ⟨rfl, HB1.out⟩
theorem infowide : (Tryd.prog.info? 108).map (·.size) = some (rngV wideR).size := by kernel_rfl
set_option maxRecDepth 100000 in
set_option maxHeartbeats 1000000 in
theorem wide_calls (w : World) : Calls Tryd.prog 63 #[] w fun e w' => e = .returned (.agg (rngV wideR)) ∧ Below w.heap.size w w' := by
  go_enter Tryd.func63, Tryd.ntmps63
  go_wp2_with (first
    | ((with_reducible refine gate_dst (N := 0) rfl ?_); refine box_event ?hg (N := 0) ?hd (cs := #[.int .i32 0, .int .i32 0, .int .i32 0, .int .i32 0, .int .i32 0, .int .i32 0, .int .i32 0, .int .i32 0, .int .i32 0, .int .i32 0, .int .i32 0, .int .i32 0, .int .i32 0, .int .i32 0, .int .i32 0, .int .i32 0, .int .i32 0, .int .i32 0, .int .i32 0, .int .i32 0]) (t := 108) ?hr ?_; (case hd => rfl); (case hg => rfl); (case hr => first | (go_simp; done) | (go_simp; rfl)); intro g0 hg w1 hx hb; have B0 := Hd.mk (show Blk w1 g0 108 _ from hx); have HG : Hd (w.heap.size ≤ g0) := ⟨hg ▸ Nat.le_refl _⟩; have HB := Hd.mk hb; clear hx hb hg)
    | ((with_reducible refine gate_store (t := 108) (p := 0) rfl ?_); refine store_event rfl rfl (g := g0) (cells := rngV wideR) (by first | rfl | (go_simp; done) | (go_simp; rfl)) (by first | rfl | (go_simp; done) | (go_simp; rfl)) B0.out infowide rfl (rng_one _) ?_; intro ws hx hk hz hb; have B1 := Hd.mk hx; have HB1 := Hd.mk (hb HB.out HG.out); clear hx hk hz hb HB B0))
  exact ret_row rfl rfl Tryd.underlying108 infowide rfl B1.out rfl ⟨rfl, HB1.out⟩
theorem rng_cell (l : List (Int × Int)) (i : Nat) (hi : i < l.length) : (rngV l)[i * 2]? = some (.int .i32 l[i].1) ∧ (rngV l)[i * 2 + 1]? = some (.int .i32 l[i].2) := by
  unfold rngV
  simp only [List.getElem?_toArray]
  induction l generalizing i with
  | nil => simp at hi
  | cons x l ih =>
    rcases i with _ | i
    · exact ⟨rfl, rfl⟩
    · have := ih i (by simpa using hi)
      rw [show (i + 1) * 2 = i * 2 + 2 from by omega]
      exact this
set_option maxRecDepth 100000 in
set_option maxHeartbeats 1000000 in
theorem of_calls (r : Int) (w : World) : Calls Tryd.prog 44 #[.int .i32 r] w fun e w' => e = .returned (.int .i64 (ofR r)) ∧ Below w.heap.size w w' := by
  go_enter Tryd.func44, Tryd.ntmps44
  go_upto_region 2 with (first
    | (go_at_call 62; (with_reducible refine (none_calls _).mono ?_); rintro _ w1 ⟨rfl, hb⟩; have HB1 := Hd.mk hb; clear hb)
    | (go_at_call 63; (with_reducible refine (wide_calls _).mono ?_); rintro _ w2 ⟨rfl, hb⟩; have HB2 := Hd.mk (HB1.out.trans (hb.mono HB1.out.size)); clear hb HB1)
    | ((with_reducible refine gate_dst (N := 3) rfl ?_); refine box_event ?hg (N := 3) ?hd (cs := #[.int .i32 0, .int .i32 0, .int .i32 0, .int .i32 0, .int .i32 0, .int .i32 0, .int .i32 0, .int .i32 0, .int .i32 0, .int .i32 0, .int .i32 0, .int .i32 0, .int .i32 0, .int .i32 0]) (t := 106) ?hr ?_; (case hd => rfl); (case hg => rfl); (case hr => first | (go_simp; done) | (go_simp; rfl)); intro g3 hg w3 hx hb; have B3 := Hd.mk (show Blk w3 g3 106 _ from hx); have HG3 : Hd (w.heap.size ≤ g3) := ⟨hg ▸ HB2.out.size⟩; have HB3 := Hd.mk (HB2.out.trans (hb.mono HB2.out.size)); clear hx hb hg HB2)
    | ((with_reducible refine gate_dst (N := 4) rfl ?_); refine box_event ?hg (N := 4) ?hd (cs := #[.int .i32 0, .int .i32 0, .int .i32 0, .int .i32 0, .int .i32 0, .int .i32 0, .int .i32 0, .int .i32 0, .int .i32 0, .int .i32 0, .int .i32 0, .int .i32 0, .int .i32 0, .int .i32 0, .int .i32 0, .int .i32 0, .int .i32 0, .int .i32 0, .int .i32 0, .int .i32 0]) (t := 108) ?hr ?_; (case hd => rfl); (case hg => rfl); (case hr => first | (go_simp; done) | (go_simp; rfl)); intro g4 hg w4 hx hb; have B4 := Hd.mk (show Blk w4 g4 108 _ from hx); have HG4 : Hd (w.heap.size ≤ g4 ∧ g3 ≠ g4) := ⟨⟨hg ▸ HB3.out.size, fun e => by have := B3.out.lt; omega⟩⟩; have B3' := Hd.mk ((show w4.heap[g3]? = w3.heap[g3]? from hb.block g3 B3.out.lt).trans B3.out); have HB4 := Hd.mk (HB3.out.trans (hb.mono HB3.out.size)); clear hx hb hg HB3 B3)
    | ((with_reducible refine gate_store (t := 106) (p := 3) rfl ?_); refine store_event rfl rfl (g := g3) (cells := rngV noneR) (by first | rfl | (go_simp; done) | (go_simp; rfl)) (by first | rfl | (go_simp; done) | (go_simp; rfl)) B3'.out infonone rfl (rng_one _) ?_; intro w5 hx hk hz hb; have C3 := Hd.mk hx; have C4 := Hd.mk (show Blk w5 g4 108 _ from (hk.2 g4 B4.out.lt (fun e => HG4.out.2 e.symm)).trans B4.out); have HB5 := Hd.mk (hb HB4.out HG3.out); clear hx hk hz hb HB4 B4 B3')
    | ((with_reducible refine gate_store (t := 108) (p := 4) rfl ?_); refine store_event rfl rfl (g := g4) (cells := rngV wideR) (by first | rfl | (go_simp; done) | (go_simp; rfl)) (by first | rfl | (go_simp; done) | (go_simp; rfl)) C4.out infowide rfl (rng_one _) ?_; intro w6 hx hk hz hb; have D4 := Hd.mk hx; have D3 := Hd.mk (show Blk w6 g3 106 _ from (hk.2 g3 C3.out.lt HG4.out.2).trans C3.out); have HB6 := Hd.mk (hb HB5.out HG4.out.1); clear hx hk hz hb HB5 C4 C3))
  have X3 := Hd.mk (fun c => in_calls r noneR (by decide) g3 w6 (fun i hi => ⟨D3.out.cell (i * 2) (rng_cell noneR i hi).1, D3.out.cell (i * 2 + 1) (rng_cell noneR i hi).2⟩) c)
  have hu := Tryd.underlying106
  have hu2 := Tryd.underlying108
  have hl : noneR.length = 7 := rfl
  go_wp2_with fail
  go_at_call 64
  rw [hl] at X3
  with_reducible refine (X3.out _).mono ?_
  rintro _ w7 ⟨rfl, hb⟩
  have HB7 := Hd.mk (HB6.out.trans (hb.mono HB6.out.size))
  have E4 := Hd.mk (Blk.belowW D4.out hb)
  clear hb hl X3 D3 D4 HB6
  by_cases h0 : noneR.any (inR r) = true
  · have HE : Hd (ofR r = 0) := ⟨by unfold ofR; rw [if_pos h0]⟩
    rw [h0]
    clear h0
    go_wp2
    go_ret
    exact ⟨by rw [HE.out]; rfl, HB7.out⟩
  · have h0' : noneR.any (inR r) = false := by simpa using h0
    have HE : Hd (ofR r = if wideR.any (inR r) = true then 2 else 1) := ⟨by unfold ofR; rw [if_neg h0]⟩
    have X4 := Hd.mk (fun c => in_calls r wideR (by decide) g4 w7 (fun i hi => ⟨E4.out.cell (i * 2) (rng_cell wideR i hi).1, E4.out.cell (i * 2 + 1) (rng_cell wideR i hi).2⟩) c)
    have hl : wideR.length = 10 := rfl
    rw [h0']
    clear h0 h0'
    go_wp2_with fail
    go_at_call 64
    rw [hl] at X4
    with_reducible refine (X4.out _).mono ?_
    rintro _ w8 ⟨rfl, hb⟩
    have HB8 := Hd.mk (HB7.out.trans (hb.mono HB7.out.size))
    clear hb hl X4 E4 HB7
    by_cases h1 : wideR.any (inR r) = true
    · rw [if_pos h1] at HE
      rw [h1]
      clear h1
      go_wp2
      go_ret
      exact ⟨by rw [HE.out]; rfl, HB8.out⟩
    · rw [if_neg h1] at HE
      have h1' : wideR.any (inR r) = false := by simpa using h1
      rw [h1']
      clear h1 h1'
      go_wp2
      go_ret
      exact ⟨by rw [HE.out]; rfl, HB8.out⟩
end Go.Proofs.YtledplnlcjfafaaDoorL

