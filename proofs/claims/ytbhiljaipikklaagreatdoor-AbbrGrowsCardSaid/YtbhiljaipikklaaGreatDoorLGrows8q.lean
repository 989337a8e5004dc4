/- Parts of the proof of the law that the last file states; declarations that nothing mentions are left out by a program. No conditions. -/
import Derived.Test.YtbhiljaipikklaaGreatDoorLRefDoesq
import Derived.Test.YtbhiljaipikklaaGreatDoorLRightq
set_option linter.unusedVariables false
set_option linter.unusedSimpArgs false
namespace Go.Proofs.YtbhiljaipikklaaGreatDoorL
open Go Go.RowKit Go.MapKept Go.Proofs.YtbhiljaipikklaaGreatDoorW.PrintWords Go.Proofs.YtbhiljaipikklaaGreatDoor.K
attribute [local go_sem high] Go.Proofs.YtbhiljaipikklaaGreatDoor.R.eqA41
theorem right_grown (S : ByteArray) (at_ : Int) {l : List (ByteArray × ByteArray)} (hl : WellT l) {c : (ByteArray × Nat) × Bool} (hc : growP (makeS S) (backL (makeS S) at_) l = c) : plainS c.1.1 = c.1.1 ∧ c.1.1.size ≤ 600 ∧ c.1.2 ∈ boundsL c.1.1 := by
  have hr := grown_right S at_ hl
  have hz := growP_600 (makeS S) (backL (makeS S) at_) l (makeS_six S)
  rw [hc] at hr hz
  obtain ⟨hr1, hr2⟩ := hr
  refine ⟨?_, hz, by rw [← hr2]; exact backL_mem _ _⟩
  obtain ⟨rs, hg, e⟩ := makeS_enc c.1.1
  rw [hr1] at e
  rw [e]
  exact plainS_good hg
set_option maxRecDepth 100000 in
set_option maxHeartbeats 4000000 in
theorem grows_out {W : World} {A0 : Option Addr} {c0 : Nat} {l0 : List S30} (hr0 : Kd.C k30 W A0 l0.length l0) (hc0 : l0.length ≤ c0) {kf : Nat} (hf : souffleurlaw08_few.f kf l0 = some false) (S : ByteArray) (at_ : Int) (hS : S.size ≤ 140737488351232) (hT : Lib.Utf8Tabs 0 1 W) :
    Calls Tryz.prog 5 #[.slice A0 l0.length c0, .agg #[.string S, .int .i64 at_]] W fun e w' => e = .returned (.bool true) ∧ Below W.heap.size W w' := by
  have XF := Hd.mk (fun w1 => souffleurlaw08_few.calls kf A0 c0 l0 false w1)
  have HF := Hd.mk hf
  have HR0 := Hd.mk hr0
  have HC0 := Hd.mk hc0
  have HTT := Hd.mk hT
  have HSS := Hd.mk hS
  clear hr0 hc0 hf hT hS
  go_enter Tryz.func5, Tryz.ntmps5
  go_wp2_with (first
    | ((with_reducible refine gate_dst (N := 3) rfl ?_); refine box_event ?hg (N := 3) ?hd (cs := #[.string S, .int .i64 at_]) (t := 41) ?hr ?_; (case hd => rfl); (case hg => rfl); (case hr => first | (go_simp; done) | (go_simp; rfl)); intro g3 hg wg3 hx hb; have Bg3 := Hd.mk (show Blk wg3 g3 41 #[.string S, .int .i64 at_] from hx); have HG3 : Hd (g3 = W.heap.size) := ⟨hg⟩; have HB := Hd.mk hb; clear hx hb hg))
  go_at_call 6
  with_reducible refine (XF.out _ (Kd.C_below HR0.out HB.out) HC0.out HF.out).mono ?_
  rintro _ w1 ⟨rfl, hb⟩
  replace Bg3 := Hd.mk (Blk.belowW Bg3.out hb)
  replace HB := Hd.mk (HB.out.trans (hb.mono HB.out.size))
  clear hb XF HF
  obtain ⟨c0', c1', f0', f1'⟩ := Blk.two Bg3.out
  go_wp2_with fail
  go_at_call 7
  have XS := alive_calls _ (Utf8Tabs_below HTT.out HB.out)
  with_reducible refine XS.mono ?_
  rintro _ we ⟨rfl, hb⟩
  have HE := Hd.mk (HB.out.trans (hb.mono HB.out.size))
  clear XS hb
  go_wp2
  go_ret
  exact ⟨rfl, HE.out⟩
set_option maxRecDepth 100000 in
set_option maxHeartbeats 4000000 in
theorem grows_long {W : World} {A0 : Option Addr} {c0 : Nat} {l0 : List S30} (hr0 : Kd.C k30 W A0 l0.length l0) (hc0 : l0.length ≤ c0) {kf : Nat} (hf : souffleurlaw08_few.f kf l0 = some true) (S : ByteArray) (at_ : Int) (hS : S.size ≤ 140737488351232) (hl : 1500 < S.size) (hT : Lib.Utf8Tabs 0 1 W) :
    Calls Tryz.prog 5 #[.slice A0 l0.length c0, .agg #[.string S, .int .i64 at_]] W fun e w' => e = .returned (.bool true) ∧ Below W.heap.size W w' := by
  have XF := Hd.mk (fun w1 => souffleurlaw08_few.calls kf A0 c0 l0 true w1)
  have HF := Hd.mk hf
  have HR0 := Hd.mk hr0
  have HC0 := Hd.mk hc0
  have HTT := Hd.mk hT
  have HSS := Hd.mk hS
  have q1 : decide (1500 < (S.size : Int)) = true := decide_eq_true (by omega)
  have q2 : decide (1500 < S.size) = true := decide_eq_true hl
  clear hl
  clear hr0 hc0 hf hT hS
  go_enter Tryz.func5, Tryz.ntmps5
  go_wp2_with (first
    | ((with_reducible refine gate_dst (N := 3) rfl ?_); refine box_event ?hg (N := 3) ?hd (cs := #[.string S, .int .i64 at_]) (t := 41) ?hr ?_; (case hd => rfl); (case hg => rfl); (case hr => first | (go_simp; done) | (go_simp; rfl)); intro g3 hg wg3 hx hb; have Bg3 := Hd.mk (show Blk wg3 g3 41 #[.string S, .int .i64 at_] from hx); have HG3 : Hd (g3 = W.heap.size) := ⟨hg⟩; have HB := Hd.mk hb; clear hx hb hg))
  go_at_call 6
  with_reducible refine (XF.out _ (Kd.C_below HR0.out HB.out) HC0.out HF.out).mono ?_
  rintro _ w1 ⟨rfl, hb⟩
  replace Bg3 := Hd.mk (Blk.belowW Bg3.out hb)
  replace HB := Hd.mk (HB.out.trans (hb.mono HB.out.size))
  clear hb XF HF
  obtain ⟨c0', c1', f0', f1'⟩ := Blk.two Bg3.out
  go_wp2_with fail
  go_at_call 7
  have XS := alive_calls _ (Utf8Tabs_below HTT.out HB.out)
  with_reducible refine XS.mono ?_
  rintro _ we ⟨rfl, hb⟩
  have HE := Hd.mk (HB.out.trans (hb.mono HB.out.size))
  clear XS hb
  go_wp2
  go_ret
  exact ⟨rfl, HE.out⟩
set_option maxRecDepth 100000 in
set_option maxHeartbeats 4000000 in
theorem grows_main {W : World} {A0 : Option Addr} {c0 : Nat} {l0 : List S30} (hr0 : Kd.C k30 W A0 l0.length l0) (hc0 : l0.length ≤ c0) {kf : Nat} (hf : souffleurlaw08_few.f kf l0 = some true) (S : ByteArray) (at_ : Int) (hS : S.size ≤ 140737488351232) (hfew : FewP l0) (hl : S.size ≤ 1500) (hT : Lib.Utf8Tabs 0 1 W) :
    Calls Tryz.prog 5 #[.slice A0 l0.length c0, .agg #[.string S, .int .i64 at_]] W fun e w' => e = .returned (.bool true) ∧ Below W.heap.size W w' := by
  have XF := Hd.mk (fun w1 => souffleurlaw08_few.calls kf A0 c0 l0 true w1)
  have HF := Hd.mk hf
  have HR0 := Hd.mk hr0
  have HC0 := Hd.mk hc0
  have HTT := Hd.mk hT
  have HSS := Hd.mk hS
  have q1 : decide (1500 < (S.size : Int)) = false := decide_eq_false (by omega)
  have q2 : decide (1500 < S.size) = false := decide_eq_false (by omega)
  have HS1 : Hd (S.size ≤ 1500) := ⟨by omega⟩
  have HFW := Hd.mk hfew
  clear hl hfew
  clear hr0 hc0 hf hT hS
  go_enter Tryz.func5, Tryz.ntmps5
  go_wp2_with (first
    | ((with_reducible refine gate_dst (N := 3) rfl ?_); refine box_event ?hg (N := 3) ?hd (cs := #[.string S, .int .i64 at_]) (t := 41) ?hr ?_; (case hd => rfl); (case hg => rfl); (case hr => first | (go_simp; done) | (go_simp; rfl)); intro g3 hg wg3 hx hb; have Bg3 := Hd.mk (show Blk wg3 g3 41 #[.string S, .int .i64 at_] from hx); have HG3 : Hd (g3 = W.heap.size) := ⟨hg⟩; have HB := Hd.mk hb; clear hx hb hg))
  go_at_call 6
  with_reducible refine (XF.out _ (Kd.C_below HR0.out HB.out) HC0.out HF.out).mono ?_
  rintro _ w1 ⟨rfl, hb⟩
  replace Bg3 := Hd.mk (Blk.belowW Bg3.out hb)
  replace HB := Hd.mk (HB.out.trans (hb.mono HB.out.size))
  clear hb XF HF
  obtain ⟨c0', c1', f0', f1'⟩ := Blk.two Bg3.out
  go_upto_region 4 with (first
    | ((with_reducible refine gate_dst (N := 5) rfl ?_); refine box_event ?hg (N := 5) ?hd (cs := #[.map none]) (t := 27) ?hr ?_; (case hd => rfl); (case hg => rfl); (case hr => first | (go_simp; done) | (go_simp; rfl)); intro g5 hg wg5 hx hb; have HP : Hd (Pr W.heap.size wg5 g5 (.slice none 0 0) [] []) := ⟨Pr.start (show Blk wg5 g5 27 #[.map none] from hx) (hg ▸ HB.out.size)⟩; have N35 : Hd (g5 ≠ g3) := ⟨fun e => by have := Bg3.out.lt; omega⟩; replace Bg3 := Hd.mk (Blk.belowW Bg3.out hb); replace HB := Hd.mk (HB.out.trans (hb.mono HB.out.size)); clear hx hb hg))
  clear c0' c1' f0' f1'
  go_wp2
  go_loopg [6, 25] l0.length (fun kq v6 v25 w' => ∃ (j : Nat) (tt : List (ByteArray × ByteArray)) (l : List RP), j + kq = l0.length ∧ v25 = .int .i64 (j : Int) ∧ Hd (Pr W.heap.size w' g5 v6 tt l) ∧ Hd (Below W.heap.size W w') ∧ Hd (Blk w' g3 41 #[.string S, .int .i64 at_]))
  case atStart => exact ⟨0, _, _, by omega, rfl, HP, HB, Bg3⟩
  case round =>
    clear HP HB Bg3
    obtain ⟨j, tt, l, hj, rfl, HP, HB, Bg3⟩ := hrel
    cases gk with
    | zero =>
      have hlt : decide ((j : Int) < (l0.length : Int)) = false := decide_eq_false (by omega)
      have hlt2 : decide (j < l0.length) = false := decide_eq_false (by omega)
      have hlt3 : ¬ j < l0.length := by omega
      clear hj
      obtain ⟨c0', c1', f0', f1'⟩ := Blk.two Bg3.out
      have HW := Hd.mk HP.out.well
      obtain ⟨A', c', rfl, _, _⟩ := HP.out.value
      obtain ⟨c, hc⟩ : ∃ c, growP (makeS S) (backL (makeS S) at_) tt = c := ⟨_, rfl⟩
      obtain ⟨kg, hkg⟩ := grow_tells HW.out.2.1 HW.out.1 S at_ HS1.out
      obtain ⟨hr1, hr2, hr3⟩ := right_grown S at_ HW.out.1 hc
      have XG1 := Hd.mk (fun (PP : Nat → Prop) w1 (hts : TS PP w1 g5 tt) (hb : Below W.heap.size W w1) => grow_ts hts S (by have := HS1.out; omega) at_ (Utf8Tabs_below HTT.out hb))
      rw [hc] at XG1 hkg
      obtain ⟨⟨cs, ca⟩, is⟩ := c
      dsimp only at XG1 hr1 hr2 hr3 hkg
      have XR := Hd.mk (fun w1 (hC : Kd.C Go.Proofs.YtbhiljaipikklaaGreatDoor.R.k37 w1 A' l.length l) (hc : l.length ≤ c') => Go.Proofs.YtbhiljaipikklaaGreatDoor.R.souffleurref08_Grow.calls kg A' c' l S at_ cs (ca : Int) is w1 hC hc hkg)
      have XRight := Hd.mk (fun w1 (hb : Below W.heap.size W w1) => right_calls cs ca hr1 hr2 hr3 w1 (Utf8Tabs_below HTT.out hb))
      clear hc hr1 hr2 hr3 hkg
      unfold growV bufV at XG1
      dsimp only at XG1
      obtain ⟨P1, hts⟩ := HP.out.ts
      have HTS := Hd.mk hts
      clear hts
      go_wp2_with fail
      go_at_call 11
      with_reducible refine (XG1.out _ _ HTS.out HB.out).mono ?_
      rintro _ w2 ⟨rfl, ht, hb⟩
      have hal := below_alloc (Below.refl _ w2) (.cells #[.string cs, .int .i64 (ca : Int)] 42)
      have HP2 := Hd.mk ((HP.out.below hb).below hal)
      have HB2' := Hd.mk (HB.out.trans (hb.mono HB.out.size))
      have HB2 := Hd.mk (HB2'.out.trans (hal.mono HB2'.out.size))
      have Bg3' := Hd.mk (Blk.belowW (Blk.belowW Bg3.out hb) hal)
      have B9 := Hd.mk (Blk.new w2 42 #[.string cs, .int .i64 (ca : Int)])
      clear hal ht hb HP HTS HB HB2' XG1 c0' c1' f0' f1' Bg3
      go_upto_region 11 with fail
      generalize w2.heap.size = g9 at *
      generalize w2.alloc (.cells #[.string cs, .int .i64 (ca : Int)] 42) = w3 at *
      obtain ⟨b0, b1, b2, b3⟩ := Blk.two Bg3'.out
      obtain ⟨A2, c2, e2, hc2, hC⟩ := HP2.out.value
      obtain ⟨rfl, _, rfl⟩ := Value.slice.inj e2
      have XR2 := Hd.mk (XR.out _ hC hc2)
      clear XR hC hc2 e2
      go_wp2_with fail
      go_at_call 14
      with_reducible refine (XR2.out).mono ?_
      rintro _ w4 ⟨rfl, hb⟩
      have hal := below_alloc (Below.refl _ w4) (.cells #[.string cs, .int .i64 (ca : Int)] 41)
      have HB4' := Hd.mk (HB2.out.trans (hb.mono HB2.out.size))
      have HB4 := Hd.mk (HB4'.out.trans (hal.mono HB4'.out.size))
      have B9' := Hd.mk (Blk.belowW (Blk.belowW B9.out hb) hal)
      have B11 := Hd.mk (Blk.new w4 41 #[.string cs, .int .i64 (ca : Int)])
      clear hal hb HP2 HB2 HB4' XR2 b0 b1 b2 b3 B9 Bg3'
      go_upto_region 12 with fail
      generalize w4.heap.size = g11 at *
      generalize w4.alloc (.cells #[.string cs, .int .i64 (ca : Int)] 41) = w5 at *
      go_wp2_with fail
      go_at_call 7
      have XS := alive_calls _ (Utf8Tabs_below HTT.out HB4.out)
      with_reducible refine XS.mono ?_
      rintro _ we ⟨rfl, hb⟩
      have HE := Hd.mk (HB4.out.trans (hb.mono HB4.out.size))
      have B9e := Hd.mk (Blk.belowW B9'.out hb)
      have B11e := Hd.mk (Blk.belowW B11.out hb)
      clear XS hb HB4 B9' B11
      obtain ⟨b0, b1, b2, b3⟩ := Blk.two B9e.out
      obtain ⟨d0, d1, d2, d3⟩ := Blk.two B11e.out
      go_wp2_with fail
      go_at_call 15
      with_reducible refine (XRight.out _ HE.out).mono ?_
      rintro _ wz ⟨rfl, hb⟩
      have HZ := Hd.mk (HE.out.trans (hb.mono HE.out.size))
      clear hb
      go_wp2
      go_ret
      exact ⟨rfl, HZ.out⟩
    | succ d =>
      have hlt : decide ((j : Int) < (l0.length : Int)) = true := decide_eq_true (by omega)
      have hjl : j < l0.length := by omega
      obtain ⟨ad, e0, x0, x1, x2⟩ := at_T30 HR0.out (j : Int) (by omega) (by omega)
      rw [rd_get hjl] at x0 x1 x2
      rw [Int.toNat_natCast] at x0 x1 x2
      subst e0
      have hx6 := HFW.out.2 _ (List.getElem_mem hjl)
      generalize l0[j] = x at x0 x1 x2 hx6
      replace x0 := (HB.out.cell (World.block_lt_of_cell? W _ x0)).trans x0
      replace x1 := (HB.out.cell (World.block_lt_of_cell? W _ x1)).trans x1
      replace x2 := (HB.out.cell (World.block_lt_of_cell? W _ x2)).trans x2
      have HX1 : Hd (x.f1.size ≤ 4294967296) := ⟨by unfold szOf at hx6; omega⟩
      have HX2 : Hd (x.f2.size ≤ 4294967296) := ⟨by unfold szOf at hx6; omega⟩
      have hj100 : j ≤ 100 := by have := HFW.out.1; omega
      clear hx6
      have hal := below_alloc (Below.refl _ wr) (.cells #[.int .i64 x.f0, .string x.f1, .string x.f2] 30)
      have HPn := Hd.mk (HP.out.below hal)
      have HBn := Hd.mk (HB.out.trans (hal.mono HB.out.size))
      have Bg3n := Hd.mk (Blk.belowW Bg3.out hal)
      clear HP HB Bg3 hal
      have HJ := Hd.mk hj
      clear hj
      go_wp2_with fail
      go_at_call 8
      have XS := does_calls HPn.out HBn.out.size x HX1.out HX2.out (Utf8Tabs_below HTT.out HBn.out)
      unfold opV at XS
      with_reducible refine XS.mono ?_
      clear XS
      rintro _ ws ⟨v', tt', l', rfl, hp, hkb, hb⟩
      have HP := Hd.mk hp
      have HB := Hd.mk (HBn.out.trans hb)
      have Bg3 := Hd.mk (hkb _ _ _ Bg3n.out N35.out)
      clear hp hb hkb HPn HBn Bg3n x0 x1 x2
      go_wp2
      go_roundg d
      case measure => omega
      case rel => exact ⟨j + 1, tt', l', by have := HJ.out; omega, by go_num, HP, HB, Bg3⟩
theorem abbrGrows_walk {W : World} {A0 : Option Addr} {c0 : Nat} {l0 : List S30} {x : ByteArray × Int} {cs : Array Value} (hc0 : l0.length ≤ c0) (hr0 : Kd.C k30 W A0 l0.length l0) (hs : l0.length * Tryz.prog.bytesOf 30 ≤ reachBytes ∧ ∀ x ∈ l0, SizedS x)
    (hK : kBuf.K W x cs.toList) (hx : x.1.size ≤ 140737488351232) (hT : Lib.Utf8Tabs 0 1 W) :
    Calls Tryz.prog 5 #[.slice A0 l0.length c0, .agg cs] W fun e w' => e = .returned (.bool true) ∧ Below W.heap.size W w' := by
  obtain rfl : cs = #[.string x.1, .int .i64 x.2] := by
    have := kBuf_open hK
    cases cs
    simp_all
  obtain ⟨kf, r, hf, hr⟩ := few_few hr0 hs
  cases r with
  | false => exact grows_out hr0 hc0 hf x.1 x.2 hx hT
  | true =>
    by_cases h : x.1.size ≤ 1500
    · exact grows_main hr0 hc0 hf x.1 x.2 hx (hr rfl) h hT
    · exact grows_long hr0 hc0 hf x.1 x.2 hx (by omega) hT
end Go.Proofs.YtbhiljaipikklaaGreatDoorL

