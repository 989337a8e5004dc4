/- Parts of the proof of the law that the last file states; declarations that nothing mentions are left out by a program. No conditions. -/
import Derived.Test.YtbhiljaipikklaaGreatDoorLStateq
set_option linter.unusedVariables false
set_option linter.unusedSimpArgs false
namespace Go.Proofs.YtbhiljaipikklaaGreatDoorL
open Go Go.RowKit Go.MapKept Go.Maps Go.Proofs.YtbhiljaipikklaaGreatDoorW.PrintWords
abbrev gcB : ByteArray := ⟨#[103, 99]⟩
abbrev gitB : ByteArray := ⟨#[103, 105, 116, 32, 99, 111, 109, 109, 105, 116]⟩
abbrev inB : ByteArray := ⟨#[32, 103, 99, 32, 120]⟩
abbrev outB : ByteArray := ⟨#[32, 103, 105, 116, 32, 99, 111, 109, 109, 105, 116, 32, 120]⟩
abbrev gcxB : ByteArray := ⟨#[103, 99, 120]⟩
def aL : List (ByteArray × ByteArray) := [(gcB, gitB)]
def aX : ByteArray × Nat := (growP (makeS gcxB) (backL (makeS gcxB) 2) aL).1
section
set_option maxRecDepth 100000
theorem af1 : setP gcB gitB [] = (0, aL) := by decide +kernel
theorem af2 : growP (makeS inB) (backL (makeS inB) 3) aL = ((outB, 11), true) := by decide +kernel
theorem af3 : growP (makeS gcxB) (backL (makeS gcxB) 2) aL = (aX, false) := by
  have h : (growP (makeS gcxB) (backL (makeS gcxB) 2) aL).2 = false := by decide +kernel
  unfold aX
  rw [← h]
theorem af4 : getP gcB aL = (gitB, true) := by decide +kernel
theorem af5 : namesP aL = [[103, 99]] := by decide +kernel
theorem af6 : setP ⟨#[97, 32, 98]⟩ ⟨#[120]⟩ aL = (80, aL) := by decide +kernel
theorem af7 : drop_ gcB aL = [] := by decide +kernel
theorem af8 : getP gcB [] = (⟨#[]⟩, false) := by decide +kernel
end
theorem new_below {w0 w w' : World} (hB : Below w0.heap.size w0 w) (ho : Only (fun k => w0.heap.size ≤ k) w w') : Below w0.heap.size w0 w' := hB.trans (ho.to_below (fun g h => h) hB.size)
set_option maxRecDepth 100000 in
set_option maxHeartbeats 4000000 in
theorem alive_calls (w : World) (hT : Lib.Utf8Tabs 0 1 w) :
    Calls Tryz.prog 7 #[] w fun e w' => e = .returned (.bool true) ∧ Below w.heap.size w w' := by
  have HTT := Hd.mk hT
  clear hT
  go_enter Tryz.func7, Tryz.ntmps7
  go_upto_region 3 with (first
    | ((with_reducible refine gate_dst (N := 1) rfl ?_); refine box_event ?hg (N := 1) ?hd (cs := #[.map none]) (t := 27) ?hr ?_; (case hd => rfl); (case hg => rfl); (case hr => first | (go_simp; done) | (go_simp; rfl)); intro g1 hg wg1 hx hb; have HT := Hd.mk (TS.new (P := fun k => w.heap.size ≤ k) (show Blk wg1 g1 27 #[.map none] from hx) (hg ▸ Nat.le_refl _)); have HB := Hd.mk hb; clear hx hb hg)
    | (go_at_call 16; have XS := set_ts HT.out (fun k hk => Nat.le_trans HB.out.size hk) gcB gitB (by decide) (by decide) (Utf8Tabs_below HTT.out HB.out); rw [af1] at XS; (with_reducible refine XS.mono ?_); rintro _ w2 ⟨rfl, ht, ho, _⟩; have HT2 := Hd.mk ht; have HB2 := Hd.mk (new_below HB.out ho); clear XS ht ho HT HB))
  go_upto_region 4 with (first
    | (go_at_call 11; have XS := grow_ts HT2.out inB (by decide) 3 (Utf8Tabs_below HTT.out HB2.out); rw [af2] at XS; unfold growV bufV at XS; (with_reducible refine XS.mono ?_); rintro _ w3 ⟨rfl, ht, ho⟩; have HT3 := Hd.mk ht; have HB3 := Hd.mk (HB2.out.trans (ho.mono HB2.out.size)); clear XS ht ho HT2 HB2)
    | ((with_reducible refine gate_dst (N := 3) rfl ?_); refine box_event ?hg (N := 3) ?hd (cs := #[.string ByteArray.empty, .int .i64 0]) (t := 42) ?hr ?_; (case hd => rfl); (case hg => rfl); (case hr => first | (go_simp; done) | (go_simp; rfl)); intro g3 hg wg3 hx hb; have B3 := Hd.mk (show Blk wg3 g3 42 _ from hx); have HG3 : Hd (w.heap.size ≤ g3 ∧ g1 ≠ g3) := ⟨hg ▸ HB3.out.size, fun e => by have := HT3.out.lt; omega⟩; have HT4 := Hd.mk (HT3.out.below hb); have HB4 := Hd.mk (HB3.out.trans (hb.mono HB3.out.size)); clear hx hb hg HT3 HB3)
    | ((with_reducible refine gate_store (t := 42) (p := 3) rfl ?_); refine store_event rfl rfl (g := g3) (cells := #[.string outB, .int .i64 11]) (by first | rfl | (go_simp; done) | (go_simp; rfl)) (by first | rfl | (go_simp; done) | (go_simp; rfl)) B3.out infoBuf rfl (by simp [Value.oneCell']) ?_; intro ws hx hk hz hb; have B4 := Hd.mk hx; have HT5 := Hd.mk (HT4.out.store B3.out HG3.out.2 hk); have HB5 := Hd.mk (hb HB4.out HG3.out.1); clear hx hk hz hb B3 HT4 HB4))
  go_upto_region 5 with (first
    | (go_at_call 11; have XS := grow_ts HT5.out gcxB (by decide) 2 (Utf8Tabs_below HTT.out HB5.out); rw [af3] at XS; generalize aX = ax at XS; unfold growV bufV at XS; (with_reducible refine XS.mono ?_); rintro _ w6 ⟨rfl, ht, ho⟩; have HT6 := Hd.mk ht; have B6 := Hd.mk (Blk.belowW B4.out ho); have HB6 := Hd.mk (HB5.out.trans (ho.mono HB5.out.size)); clear XS ht ho HT5 HB5 B4)
    | ((with_reducible refine gate_dst (N := 5) rfl ?_); refine box_event ?hg (N := 5) ?hd (cs := #[.string ByteArray.empty, .int .i64 0]) (t := 42) ?hr ?_; (case hd => rfl); (case hg => rfl); (case hr => first | (go_simp; done) | (go_simp; rfl)); intro g5 hg wg5 hx hb; have C7 := Hd.mk (show Blk wg5 g5 42 _ from hx); have HG5 : Hd (w.heap.size ≤ g5 ∧ g1 ≠ g5 ∧ g3 ≠ g5) := ⟨hg ▸ HB6.out.size, (fun e => by have := HT6.out.lt; omega), (fun e => by have := B6.out.lt; omega)⟩; have HT7 := Hd.mk (HT6.out.below hb); have B7 := Hd.mk (Blk.belowW B6.out hb); have HB7 := Hd.mk (HB6.out.trans (hb.mono HB6.out.size)); clear hx hb hg HT6 HB6 B6)
    | ((with_reducible refine gate_store (t := 42) (p := 5) rfl ?_); refine store_event rfl rfl (g := g5) (cells := #[.string ax.1, .int .i64 (ax.2 : Int)]) (by first | rfl | (go_simp; done) | (go_simp; rfl)) (by first | rfl | (go_simp; done) | (go_simp; rfl)) C7.out infoBuf rfl (by simp [Value.oneCell']) ?_; intro ws hx hk hz hb; have B8 := Hd.mk (show Blk ws g3 42 _ from (hk.2 g3 B7.out.lt HG5.out.2.2).trans B7.out); have HT8 := Hd.mk (HT7.out.store C7.out HG5.out.2.1 hk); have HB8 := Hd.mk (hb HB7.out HG5.out.1); clear hx hk hz hb B7 HT7 HB7 C7))
  go_upto_region 6 with (first
    | (go_at_call 10; have XS := get_ts HT8.out gcB; rw [af4] at XS; (with_reducible refine XS.mono ?_); rintro _ w9 ⟨rfl, ht, ho⟩; have HT9 := Hd.mk ht; have B9 := Hd.mk (Blk.belowW B8.out ho); have HB9 := Hd.mk (HB8.out.trans (ho.mono HB8.out.size)); clear XS ht ho HT8 HB8 B8))
  go_upto_region 7 with (first
    | (go_at_call 9; have XS := names_ts HT9.out; rw [af5] at XS; (with_reducible refine XS.mono ?_); rintro _ wn ⟨⟨v, rfl, hr⟩, ht, ho⟩; have HTn := Hd.mk ht; have Bn := Hd.mk (Blk.belowW B9.out ho); have HBn := Hd.mk (HB9.out.trans (ho.mono HB9.out.size)); have HR := Hd.mk hr; clear XS ht ho hr HT9 HB9 B9))
  obtain ⟨gn, cap, rfl, _⟩ := World.ownsRow.form HR.out (by decide)
  have n0 : wn.cell? ⟨gn, 0, none⟩ = some (.string gcB) := World.ownsRow.cellAt HR.out 0 (by decide)
  obtain ⟨b0, b1, b2, b3⟩ := Blk.two Bn.out
  clear HR
  go_wp2_with fail
  go_at_call 16
  have XS := set_ts HTn.out (fun k hk => Nat.le_trans HBn.out.size hk) ⟨#[97, 32, 98]⟩ ⟨#[120]⟩ (by decide) (by decide) (Utf8Tabs_below HTT.out HBn.out)
  rw [af6] at XS
  with_reducible refine XS.mono ?_
  rintro _ wa ⟨rfl, ht, ho, _⟩
  have HTa := Hd.mk ht
  have HBa := Hd.mk (new_below HBn.out ho)
  clear XS ht ho HTn HBn Bn n0 b0 b1 b2 b3
  go_wp2_with fail
  go_at_call 17
  have XS := drop_ts HTa.out gcB
  rw [af4, af7] at XS
  with_reducible refine XS.mono ?_
  rintro _ wb ⟨rfl, ht, ho, _⟩
  have HTb := Hd.mk ht
  have HBb := Hd.mk (new_below HBa.out ho)
  clear XS ht ho HTa HBa
  go_wp2_with fail
  go_at_call 17
  have XS := drop_ts HTb.out gcB
  rw [af8] at XS
  with_reducible refine XS.mono ?_
  rintro _ wc ⟨rfl, ht, ho, _⟩
  have HBc := Hd.mk (new_below HBb.out ho)
  clear XS ht ho HTb HBb
  go_wp2
  go_ret
  exact ⟨rfl, HBc.out⟩
end Go.Proofs.YtbhiljaipikklaaGreatDoorL

