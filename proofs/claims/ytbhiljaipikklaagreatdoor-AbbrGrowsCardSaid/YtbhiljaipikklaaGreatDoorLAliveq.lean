/- Parts of the proof of the law that the last file states; declarations that nothing mentions are left out by a program. No conditions. -/
import Derived.Test.YtbhiljaipikklaaGreatDoorProg
import Derived.Below
import Derived.Deep.Draws
import Derived.Deep.AppendLies
import Derived.Maps.AppendAt
import Derived.OwnWalk
import Derived.Laws.BytesArg
import Derived.Laws.MakeOwn
import Derived.Laws.OwnMore
import Derived.Deep.OwnRows
import Derived.Tactics
import Derived.Lib.ConvBytes
import Derived.Laws.Slices
import Derived.WalkKit
import Derived.KernelRfl
import Derived.RowKit3
import Derived.Deep.LoopGhost
import Derived.Deep.QuietTactic
import Derived.BigQuiet
import Derived.WideLaws
import Derived.Deep.DeepCutAuto
import Derived.Deep.CutBlock
import Derived.Deep.RegionHeld3
import Derived.Laws.Rows
import Derived.Lib.AppendStr
import Derived.ArgAppend
import Derived.Laws.IdiomCopy
import Derived.OrdersHeld
import Derived.Laws.BitsLemmas
import Derived.RowKit
import Derived.Test.YtbhiljaipikklaaGreatDoorLNamesq
import Derived.Test.YtbhiljaipikklaaGreatDoorWWordsq
import Derived.Test.YtbhiljaipikklaaGreatDoorWLastq
import Derived.Test.YtbhiljaipikklaaGreatDoorWTabq
import Derived.Test.YtbhiljaipikklaaGreatDoorWApartq
import Derived.Test.YtbhiljaipikklaaGreatDoorWEqStructq
import Derived.Test.YtbhiljaipikklaaGreatDoorWMoreq
set_option linter.unusedVariables false
set_option linter.unusedSimpArgs false
section
namespace Go.Proofs.YtbhiljaipikklaaGreatDoorL
open Go Go.RowKit Go.MapKept Go.Maps Go.Proofs.YtbhiljaipikklaaGreatDoorW.PrintWords
abbrev gcB : ByteArray := ⟨#[103, 99]⟩
abbrev gitB : ByteArray := ⟨#[103, 105, 116, 32, 99, 111, 109, 109, 105, 116]⟩
abbrev inB : ByteArray := ⟨#[32, 103, 99, 32, 120]⟩
abbrev outB : ByteArray := ⟨#[32, 103, 105, 116, 32, 99, 111, 109, 109, 105, 116, 32, 120]⟩
abbrev gcxB : ByteArray := ⟨#[103, 99, 120]⟩
def aL : List (ByteArray × ByteArray) := [(gcB, gitB)]
def aX : ByteArray × Nat := (growP (makeS gcxB) (backL (makeS gcxB) 2) aL).1
section
set_option maxRecDepth 100000
theorem af1 : setP gcB gitB [] = (0, aL) := by decide +kernel
theorem af2 : growP (makeS inB) (backL (makeS inB) 3) aL = ((outB, 11), true) := by decide +kernel
theorem af3 : growP (makeS gcxB) (backL (makeS gcxB) 2) aL = (aX, false) := by
  have h : (growP (makeS gcxB) (backL (makeS gcxB) 2) aL).2 = false := by decide +kernel
  unfold aX
  rw [← h]
theorem af4 : getP gcB aL = (gitB, true) := by decide +kernel
theorem af5 : namesP aL = [[103, 99]] := by decide +kernel
theorem af6 : setP ⟨#[97, 32, 98]⟩ ⟨#[120]⟩ aL = (80, aL) := by decide +kernel
theorem af7 : drop_ gcB aL = [] := by decide +kernel
theorem af8 : getP gcB [] = (⟨#[]⟩, false) := by decide +kernel
end
theorem new_below {w0 w w' : World} (hB : Below w0.heap.size w0 w) (ho : Only (fun k => w0.heap.size ≤ k) w w') : Below w0.heap.size w0 w' := hB.trans (ho.to_below (fun g h => h) hB.size)
set_option maxRecDepth 100000 in
set_option maxHeartbeats 4000000 in
theorem alive_calls (w : World) (hT : Lib.Utf8Tabs 0 1 w) :
    Calls Tryz.prog 7 #[] w fun e w' => e = .returned (.bool true) ∧ Below w.heap.size w w' := by
  have HTT := Hd.mk hT
  clear hT
  go_enter Tryz.func7, Tryz.ntmps7
  go_upto_region 3 with (first
    | ((with_reducible refine gate_dst (N := 1) rfl ?_); refine box_event ?hg (N := 1) ?hd (cs := #[.map none]) (t := 27) ?hr ?_; (case hd => rfl); (case hg => rfl); (case hr => first | (go_simp; done) | (go_simp; rfl)); intro g1 hg wg1 hx hb; have HT := Hd.mk (TS.new (P := fun k => w.heap.size ≤ k) (show Blk wg1 g1 27 #[.map none] from hx) (hg ▸ Nat.le_refl _)); have HB := Hd.mk hb; clear hx hb hg)
    | (go_at_call 16; have XS := set_ts HT.out (fun k hk => Nat.le_trans HB.out.size hk) gcB gitB (by decide) (by decide) (Utf8Tabs_below HTT.out HB.out); rw [af1] at XS; (with_reducible refine XS.mono ?_); rintro _ w2 ⟨rfl, ht, ho, _⟩; have HT2 := Hd.mk ht; have HB2 := Hd.mk (new_below HB.out ho); clear XS ht ho HT HB))
  go_upto_region 4 with (first
    | (go_at_call 11; have XS := grow_ts HT2.out inB (by decide) 3 (Utf8Tabs_below HTT.out HB2.out); rw [af2] at XS; unfold growV bufV at XS; (with_reducible refine XS.mono ?_); rintro _ w3 ⟨rfl, ht, ho⟩; have HT3 := Hd.mk ht; have HB3 := Hd.mk (HB2.out.trans (ho.mono HB2.out.size)); clear XS ht ho HT2 HB2)
    | ((with_reducible refine gate_dst (N := 3) rfl ?_); refine box_event ?hg (N := 3) ?hd (cs := #[.string ByteArray.empty, .int .i64 0]) (t := 42) ?hr ?_; (case hd => rfl); (case hg => rfl); (case hr => first | (go_simp; done) | (go_simp; rfl)); intro g3 hg wg3 hx hb; have B3 := Hd.mk (show Blk wg3 g3 42 _ from hx); have HG3 : Hd (w.heap.size ≤ g3 ∧ g1 ≠ g3) := ⟨hg ▸ HB3.out.size, fun e => by have := HT3.out.lt; omega⟩; have HT4 := Hd.mk (HT3.out.below hb); have HB4 := Hd.mk (HB3.out.trans (hb.mono HB3.out.size)); clear hx hb hg HT3 HB3)
    | ((with_reducible refine gate_store (t := 42) (p := 3) rfl ?_); refine store_event rfl rfl (g := g3) (cells := #[.string outB, .int .i64 11]) (by first | rfl | (go_simp; done) | (go_simp; rfl)) (by first | rfl | (go_simp; done) | (go_simp; rfl)) B3.out infoBuf rfl (by simp [Value.oneCell']) ?_; intro ws hx hk hz hb; have B4 := Hd.mk hx; have HT5 := Hd.mk (HT4.out.store B3.out HG3.out.2 hk); have HB5 := Hd.mk (hb HB4.out HG3.out.1); clear hx hk hz hb B3 HT4 HB4))
  go_upto_region 5 with (first
    | (go_at_call 11; have XS := grow_ts HT5.out gcxB (by decide) 2 (Utf8Tabs_below HTT.out HB5.out); rw [af3] at XS; generalize aX = ax at XS; unfold growV bufV at XS; (with_reducible refine XS.mono ?_); rintro _ w6 ⟨rfl, ht, ho⟩; have HT6 := Hd.mk ht; have B6 := Hd.mk (Blk.belowW B4.out ho); have HB6 := Hd.mk (HB5.out.trans (ho.mono HB5.out.size)); clear XS ht ho HT5 HB5 B4)
    | ((with_reducible refine gate_dst (N := 5) rfl ?_); refine box_event ?hg (N := 5) ?hd (cs := #[.string ByteArray.empty, .int .i64 0]) (t := 42) ?hr ?_; (case hd => rfl); (case hg => rfl); (case hr => first | (go_simp; done) | (go_simp; rfl)); intro g5 hg wg5 hx hb; have C7 := Hd.mk (show Blk wg5 g5 42 _ from hx); have HG5 : Hd (w.heap.size ≤ g5 ∧ g1 ≠ g5 ∧ g3 ≠ g5) := ⟨hg ▸ HB6.out.size, (fun e => by have := HT6.out.lt; omega), (fun e => by have := B6.out.lt; omega)⟩; have HT7 := Hd.mk (HT6.out.below hb); have B7 := Hd.mk (Blk.belowW B6.out hb); have HB7 := Hd.mk (HB6.out.trans (hb.mono HB6.out.size)); clear hx hb hg HT6 HB6 B6)
    | ((with_reducible refine gate_store (t := 42) (p := 5) rfl ?_); refine store_event rfl rfl (g := g5) (cells := #[.string ax.1, .int .i64 (ax.2 : Int)]) (by first | rfl | (go_simp; done) | (go_simp; rfl)) (by first | rfl | (go_simp; done) | (go_simp; rfl)) C7.out infoBuf rfl (by simp [Value.oneCell']) ?_; intro ws hx hk hz hb; have B8 := Hd.mk (show Blk ws g3 42 _ from (hk.2 g3 B7.out.lt HG5.out.2.2).trans B7.out); have HT8 := Hd.mk (HT7.out.store C7.out HG5.out.2.1 hk); have HB8 := Hd.mk (hb HB7.out HG5.out.1); clear hx hk hz hb B7 HT7 HB7 C7))
  go_upto_region 6 with (first
    | (go_at_call 10; have XS := get_ts HT8.out gcB; rw [af4] at XS; (with_reducible refine XS.mono ?_); rintro _ w9 ⟨rfl, ht, ho⟩; have HT9 := Hd.mk ht; have B9 := Hd.mk (Blk.belowW B8.out ho); have HB9 := Hd.mk (HB8.out.trans (ho.mono HB8.out.size)); clear XS ht ho HT8 HB8 B8))
  go_upto_region 7 with (first
    | (go_at_call 9; have XS := names_ts HT9.out; rw [af5] at XS; (with_reducible refine XS.mono ?_); rintro _ wn ⟨⟨v, rfl, hr⟩, ht, ho⟩; have HTn := Hd.mk ht; have Bn := Hd.mk (Blk.belowW B9.out ho); have HBn := Hd.mk (HB9.out.trans (ho.mono HB9.out.size)); have HR := Hd.mk hr; clear XS ht ho hr HT9 HB9 B9))
  obtain ⟨gn, cap, rfl, _⟩ := World.ownsRow.form HR.out (by decide)
  have n0 : wn.cell? ⟨gn, 0, none⟩ = some (.string gcB) := World.ownsRow.cellAt HR.out 0 (by decide)
  obtain ⟨b0, b1, b2, b3⟩ := Blk.two Bn.out
  clear HR
  go_wp2_with fail
  go_at_call 16
  have XS := set_ts HTn.out (fun k hk => Nat.le_trans HBn.out.size hk) ⟨#[97, 32, 98]⟩ ⟨#[120]⟩ (by decide) (by decide) (Utf8Tabs_below HTT.out HBn.out)
  rw [af6] at XS
  with_reducible refine XS.mono ?_
  rintro _ wa ⟨rfl, ht, ho, _⟩
  have HTa := Hd.mk ht
  have HBa := Hd.mk (new_below HBn.out ho)
  clear XS ht ho HTn HBn Bn n0 b0 b1 b2 b3
  go_wp2_with fail
  go_at_call 17
  have XS := drop_ts HTa.out gcB
  rw [af4, af7] at XS
  with_reducible refine XS.mono ?_
  rintro _ wb ⟨rfl, ht, ho, _⟩
  have HTb := Hd.mk ht
  have HBb := Hd.mk (new_below HBa.out ho)
  clear XS ht ho HTa HBa
  go_wp2_with fail
  go_at_call 17
  have XS := drop_ts HTb.out gcB
  rw [af8] at XS
  with_reducible refine XS.mono ?_
  rintro _ wc ⟨rfl, ht, ho, _⟩
  have HBc := Hd.mk (new_below HBb.out ho)
  clear XS ht ho HTb HBb
  go_wp2
  go_ret
  exact ⟨rfl, HBc.out⟩
end Go.Proofs.YtbhiljaipikklaaGreatDoorL
end
section
namespace Go.Proofs.YtbhiljaipikklaaGreatDoor.K
open Go.RowKit Go.Proofs.YtbhiljaipikklaaGreatDoorW.PrintWords Go.Proofs.YtbhiljaipikklaaGreatDoorW.PrintLast Go.Proofs.YtbhiljaipikklaaGreatDoorW.PrintMore
attribute [local go_sem] max2_int min2_int max_two min_two max_three min_three max_four min_four   -- for this text's walks alone
def errW : Option Int → Value
  | none => .nilIface
  | some c => .iface 0 (.int .i64 c)
theorem errW_none : errW none = .nilIface := rfl
theorem errW_some (c : Int) : errW (some c) = .iface 0 (.int .i64 c) := rfl
structure S30 where
  f0 : Int
  f1 : ByteArray
  f2 : ByteArray
def z30 : S30 := ⟨(0 : Int), (⟨#[]⟩ : ByteArray), (⟨#[]⟩ : ByteArray)⟩
def k30 : Kd S30 := Kd.iso (Kd.pair (Kd.int .i64) (Kd.pair Kd.string Kd.string)) (fun x : S30 => (x.f0, x.f1, x.f2))
theorem k30_open {w : World} {x : S30} {cs : List Value} (h : k30.K w x cs) : cs = [.int .i64 x.f0, .string x.f1, .string x.f2] := by
  obtain ⟨_, _, rfl, rfl, ⟨_, _, rfl, rfl, rfl⟩⟩ := h
  exact rfl
theorem k30_mk (w : World) (x : S30)  : k30.K w x [.int .i64 x.f0, .string x.f1, .string x.f2] := ⟨[.int .i64 x.f0], [.string x.f1, .string x.f2], rfl, rfl, ⟨[.string x.f1], [.string x.f2], rfl, rfl, rfl⟩⟩
def rd_T30 (xs : List S30) (i : Int) : S30 := xs.getD i.toNat z30
theorem at_T30 {w : World} {A : Option Addr} {n : Nat} {xs : List S30} (h : Kd.C k30 w A n xs) (i : Int) (h0 : 0 ≤ i) (h1 : i < n) : ∃ ad , A = some ad ∧ w.cell? (ad.add (i.toNat * 3)) = some (.int .i64 (rd_T30 xs i).f0) ∧ w.cell? ⟨(ad.add (i.toNat * 3)).block, (ad.add (i.toNat * 3)).off + 1, none⟩ = some (.string (rd_T30 xs i).f1) ∧ w.cell? ⟨(ad.add (i.toNat * 3)).block, (ad.add (i.toNat * 3)).off + 2, none⟩ = some (.string (rd_T30 xs i).f2) := by
  obtain ⟨ad, c, e, _, hK, hc0⟩ := Kd.C_get h z30 i h0 h1
  have hc : ∀ j u, c[j]? = some u → w.cell? (ad.add (i.toNat * 3 + j)) = some u := hc0
  obtain rfl := k30_open hK
  exact ⟨ad, e, hc 0 _ rfl, by rw [← add_field _ _ 1 (by omega)]; exact hc 1 _ rfl, by rw [← add_field _ _ 2 (by omega)]; exact hc 2 _ rfl⟩
end Go.Proofs.YtbhiljaipikklaaGreatDoor.K
end
section
namespace Go.Proofs.YtbhiljaipikklaaGreatDoor.K
open Go.RowKit Go.Proofs.YtbhiljaipikklaaGreatDoorW.PrintWords Go.Proofs.YtbhiljaipikklaaGreatDoorW.PrintLast Go.Proofs.YtbhiljaipikklaaGreatDoorW.PrintMore
attribute [local go_sem] max2_int min2_int max_two min_two max_three min_three max_four min_four   -- for this text's walks alone
def souffleurlaw08_few.l0 : Nat → List (S30) → Int → List (S30) → Int → Int → Option (Bool)
  | 0, _, _, _, _, _ => none
  | k + 1, x0, x3, x6, x7, x8 => if x8 < x7 then (if 0 ≤ x8 then (if x8 < (x6.length : Int) then (souffleurlaw08_few.l0 k x0 (wrap64 (x3 + (wrap64 ((((rd_T30 x6 x8).f1).size : Int) + (((rd_T30 x6 x8).f2).size : Int))))) x6 x7 (wrap64 (x8 + 1))) else (none)) else (none)) else (if (x0.length : Int) ≤ 100 then (some (decide (x3 ≤ 6000))) else (some false))
def souffleurlaw08_few.f (k : Nat) (l0 : List (S30)) : Option (Bool) := souffleurlaw08_few.l0 k l0 0 l0 (l0.length : Int) 0
set_option maxHeartbeats 8000000 in
set_option maxRecDepth 100000 in
theorem souffleurlaw08_few.calls (k : Nat) (A0 : Option Addr) (c0 : Nat) (l0 : List (S30)) (r : Bool) (w : World) (hr0 : Kd.C k30 w A0 l0.length l0) (hc0 : l0.length ≤ c0) (h : souffleurlaw08_few.f k l0 = some r) :
    Calls Tryz.prog 6 #[.slice A0 l0.length c0] w fun e w' => e = .returned (.bool r) ∧ Below w.heap.size w w' := by
  have hu30 := Tryz.underlying30
  have HR0 := Zz.mk hr0
  have HC0 := Zz.mk hc0
  clear hr0 hc0
  have HB := Zz.mk (Below.refl w.heap.size w)
  have H : (souffleurlaw08_few.l0 k l0 0 l0 (l0.length : Int) 0) = some r := h
  clear h
  have H' := Zz.mk H
  clear H
  go_enter Tryz.func6, Tryz.ntmps6
  go_wp2
  go_loopg [3, 8] k (fun kq v3 v8 w' => ∃ (x3_1 : Int) (x8_1 : Int), v3 = .int .i64 x3_1 ∧ v8 = .int .i64 x8_1 ∧ Zz (souffleurlaw08_few.l0 kq l0 x3_1 l0 (l0.length : Int) x8_1 = some r) ∧ Zz (kq ≤ k) ∧ Zz (Below w.heap.size w w'))
  case atStart => exact ⟨(0), (0), (by first | rfl | (simp; done) | (simp [*]; done)), (by first | rfl | (simp; done) | (simp [*]; done)), H', ⟨Nat.le_refl _⟩, ⟨by repeat (first | (with_reducible first | exact HB.out | apply below_alloc | apply pw_below_drewN | apply below_drew1) | exact HB.out)⟩⟩
  case round =>
    clear H'
    obtain ⟨x3_1, x8_1, rfl, rfl, HA, HK1, HB⟩ := hrel
    cases gk with
    | zero => exact absurd HA.out (by simp [souffleurlaw08_few.l0])
    | succ k1 =>
      have H := HA.out
      clear HA
      simp only [souffleurlaw08_few.l0] at H
      by_cases c2 : x8_1 < (l0.length : Int)
      · rw [if_pos c2] at H
        have c2b0 : decide (x8_1 < (l0.length : Int)) = true := decide_eq_true c2
        clear c2
        by_cases c3 : 0 ≤ x8_1
        · rw [if_pos c3] at H
          have c3b0 : decide (0 ≤ x8_1) = true := decide_eq_true c3
          clear c3
          by_cases c4 : x8_1 < (l0.length : Int)
          · rw [if_pos c4] at H
            have c4b0 : decide (x8_1 < (l0.length : Int)) = true := decide_eq_true c4
            clear c4
            have H' := Zz.mk H
            clear H
            have p101 : 0 ≤ (x8_1 : Int) := of_decide_eq_true (by first | (with_reducible assumption) | assumption)
            have q101 : x8_1 < (l0.length : Int) := of_decide_eq_true (by first | (with_reducible assumption) | assumption)
            obtain ⟨ad101, e101, hx101_0, hx101_1, hx101_2⟩ := at_T30 HR0.out x8_1 p101 q101
            cases e101
            replace hx101_0 := (HB.out.cell (World.block_lt_of_cell? w _ hx101_0)).trans hx101_0
            replace hx101_1 := (HB.out.cell (World.block_lt_of_cell? w _ hx101_1)).trans hx101_1
            replace hx101_2 := (HB.out.cell (World.block_lt_of_cell? w _ hx101_2)).trans hx101_2
            replace p101 := eq_true p101
            replace q101 := eq_true q101
            go_wp2_with (first | ((with_reducible refine gate_dst (N := 5) rfl ?_); refine box_event ?hg (N := 5) ?hd (cs := #[.int .i64 0, .string (⟨#[]⟩ : ByteArray), .string (⟨#[]⟩ : ByteArray)]) (t := 30) ?hr ?_; (case hd => rfl); (case hg => rfl); (case hr => first | (go_simp; done) | (go_simp; rfl)); intro gb102 hg w5 hbox hb; have n0_ := Zz.mk (below_step (by repeat (first | (with_reducible first | exact HB.out | apply below_alloc | apply pw_below_drewN | apply below_drew1) | exact HB.out)) hb); have n1_ := Zz.mk (hbox); have n2_ := Zz.mk ((by rw [hg]; exact (below_size (by repeat (first | (with_reducible first | exact HB.out | apply below_alloc | apply pw_below_drewN | apply below_drew1) | exact HB.out))) : w.heap.size ≤ gb102)); have n3_ := Zz.mk ((by rw [hg]; exact (below_size (by repeat (first | (with_reducible first | exact HB.out | apply below_alloc | apply pw_below_drewN | apply below_drew1) | exact HB.out))) : w.heap.size ≤ gb102)); clear HB; have HB := n0_; have BK102 := n1_; have GW102 := n2_; have GE102 := n3_; clear n0_ n1_ n2_ n3_; clear hb hbox hg; have hcz6_0 : w5.cell? ⟨gb102, 0, none⟩ = some (.int .i64 0) := (blk_cell BK102.out 0).trans rfl; have hcz6_1 : w5.cell? ⟨gb102, 1, none⟩ = some (.string (⟨#[]⟩ : ByteArray)) := (blk_cell BK102.out 1).trans rfl; have hcz6_2 : w5.cell? ⟨gb102, 2, none⟩ = some (.string (⟨#[]⟩ : ByteArray)) := (blk_cell BK102.out 2).trans rfl; have hfz6_0 := blk_frozen BK102.out 0; have hfz6_1 := blk_frozen BK102.out 1; have hfz6_2 := blk_frozen BK102.out 2))
            go_roundg k1
            case measure => have := HK1.out; omega
            case rel => exact ⟨(wrap64 (x3_1 + (wrap64 ((((rd_T30 l0 x8_1).f1).size : Int) + (((rd_T30 l0 x8_1).f2).size : Int))))), (wrap64 (x8_1 + 1)), (by first | rfl | (simp; done) | (simp [*]; done)), (by first | rfl | (simp; done) | (simp [*]; done)), H', ⟨by have := HK1.out; omega⟩, ⟨by repeat (first | (with_reducible first | exact HB.out | apply below_alloc | apply pw_below_drewN | apply below_drew1 | refine below_set ?_ GE102.out) | exact HB.out)⟩⟩
          · rw [if_neg c4] at H
            exact absurd H (by simp)
        · rw [if_neg c3] at H
          exact absurd H (by simp)
      · rw [if_neg c2] at H
        have c2b0 : decide (x8_1 < (l0.length : Int)) = false := decide_eq_false c2
        clear c2
        by_cases c7 : (l0.length : Int) ≤ 100
        · rw [if_pos c7] at H
          have c7b0 : decide ((l0.length : Int) ≤ 100) = true := decide_eq_true c7
          have c7b1 : decide (l0.length ≤ 100) = true := decide_eq_true (by omega)
          clear c7
          obtain rfl := Option.some.inj H
          go_wp2
          go_ret
          exact ⟨by first | rfl | (simp [errW_none, errW_some] <;> rfl) | (simp [*, errW_none, errW_some] <;> rfl), by repeat (first | (with_reducible first | exact HB.out | apply below_alloc | apply pw_below_drewN | apply below_drew1) | exact HB.out)⟩
        · rw [if_neg c7] at H
          have c7b0 : decide ((l0.length : Int) ≤ 100) = false := decide_eq_false c7
          have c7b1 : decide (l0.length ≤ 100) = false := decide_eq_false (by omega)
          clear c7
          obtain rfl := Option.some.inj H
          go_wp2
          go_ret
          exact ⟨by first | rfl | (simp [errW_none, errW_some] <;> rfl) | (simp [*, errW_none, errW_some] <;> rfl), by repeat (first | (with_reducible first | exact HB.out | apply below_alloc | apply pw_below_drewN | apply below_drew1) | exact HB.out)⟩
end Go.Proofs.YtbhiljaipikklaaGreatDoor.K
end
