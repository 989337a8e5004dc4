/- Abbreviations: the walk of AbbrKeeps. No conditions. -/
import Derived.Test.YtbhiljaipikklaaDoorLScript
import Derived.Test.YtbhiljaipikklaaDoorLKeepsP
namespace Go.Proofs.YtbhiljaipikklaaDoorL
set_option linter.unusedVariables false
set_option linter.unusedSimpArgs false
open Go Go.RowKit Go.MapKept Go.Proofs.YtbhiljaipikklaaDoorW.PrintWords Go.Proofs.YtbhiljaipikklaaDoor.K
attribute [local go_sem high] eqBuf

set_option maxRecDepth 100000 in
set_option maxHeartbeats 4000000 in
theorem keeps_out {W : World} {A0 : Option Addr} {c0 : Nat} {l0 : List S31} (hr0 : Kd.C k31 W A0 l0.length l0) (hc0 : l0.length ≤ c0) {kf : Nat} (hf : souffleurlaw08_few.f kf l0 = some false) (S : ByteArray) (at_ : Int) (hS : S.size ≤ 140737488351232) (hT : Lib.Utf8Tabs 0 1 W) :
    Calls Tryd.prog 3 #[.slice A0 l0.length c0, .agg #[.string S, .int .i64 at_]] W fun e w' => e = .returned (.bool true) ∧ Below W.heap.size W w' := by
  have XF := Hd.mk (fun w1 => souffleurlaw08_few.calls kf A0 c0 l0 false w1)
  have HF := Hd.mk hf
  have HR0 := Hd.mk hr0
  have HC0 := Hd.mk hc0
  have HTT := Hd.mk hT
  have HSS := Hd.mk hS
  clear hr0 hc0 hf hT hS
  go_enter Tryd.func3, Tryd.ntmps3
  go_wp2_with (first
    | ((with_reducible refine gate_dst (N := 3) rfl ?_); refine box_event ?hg (N := 3) ?hd (cs := #[.string S, .int .i64 at_]) (t := 24) ?hr ?_; (case hd => rfl); (case hg => rfl); (case hr => first | (go_simp; done) | (go_simp; rfl)); intro g3 hg wg3 hx hb; have Bg3 := Hd.mk (show Blk wg3 g3 24 #[.string S, .int .i64 at_] from hx); have HG3 : Hd (g3 = W.heap.size) := ⟨hg⟩; have HB := Hd.mk hb; clear hx hb hg))
  go_at_call 6
  with_reducible refine (XF.out _ (Kd.C_below HR0.out HB.out) HC0.out HF.out).mono ?_
  rintro _ w1 ⟨rfl, hb⟩
  replace Bg3 := Hd.mk (Blk.belowW Bg3.out hb)
  replace HB := Hd.mk (HB.out.trans (hb.mono HB.out.size))
  clear hb XF HF
  obtain ⟨c0', c1', f0', f1'⟩ := Blk.two Bg3.out
  go_wp2_with fail
  go_at_call 7
  have XS := alive_calls _ (Utf8Tabs_below HTT.out HB.out)
  with_reducible refine XS.mono ?_
  rintro _ we ⟨rfl, hb⟩
  have HE := Hd.mk (HB.out.trans (hb.mono HB.out.size))
  clear XS hb
  go_wp2
  go_ret
  exact ⟨rfl, HE.out⟩
set_option maxRecDepth 100000 in
set_option maxHeartbeats 4000000 in
theorem keeps_long {W : World} {A0 : Option Addr} {c0 : Nat} {l0 : List S31} (hr0 : Kd.C k31 W A0 l0.length l0) (hc0 : l0.length ≤ c0) {kf : Nat} (hf : souffleurlaw08_few.f kf l0 = some true) (S : ByteArray) (at_ : Int) (hS : S.size ≤ 140737488351232) (hl : 1500 < S.size) (hT : Lib.Utf8Tabs 0 1 W) :
    Calls Tryd.prog 3 #[.slice A0 l0.length c0, .agg #[.string S, .int .i64 at_]] W fun e w' => e = .returned (.bool true) ∧ Below W.heap.size W w' := by
  have XF := Hd.mk (fun w1 => souffleurlaw08_few.calls kf A0 c0 l0 true w1)
  have HF := Hd.mk hf
  have HR0 := Hd.mk hr0
  have HC0 := Hd.mk hc0
  have HTT := Hd.mk hT
  have HSS := Hd.mk hS
  have q1 : decide (1500 < (S.size : Int)) = true := decide_eq_true (by omega)
  have q2 : decide (1500 < S.size) = true := decide_eq_true hl
  clear hl
  clear hr0 hc0 hf hT hS
  go_enter Tryd.func3, Tryd.ntmps3
  go_wp2_with (first
    | ((with_reducible refine gate_dst (N := 3) rfl ?_); refine box_event ?hg (N := 3) ?hd (cs := #[.string S, .int .i64 at_]) (t := 24) ?hr ?_; (case hd => rfl); (case hg => rfl); (case hr => first | (go_simp; done) | (go_simp; rfl)); intro g3 hg wg3 hx hb; have Bg3 := Hd.mk (show Blk wg3 g3 24 #[.string S, .int .i64 at_] from hx); have HG3 : Hd (g3 = W.heap.size) := ⟨hg⟩; have HB := Hd.mk hb; clear hx hb hg))
  go_at_call 6
  with_reducible refine (XF.out _ (Kd.C_below HR0.out HB.out) HC0.out HF.out).mono ?_
  rintro _ w1 ⟨rfl, hb⟩
  replace Bg3 := Hd.mk (Blk.belowW Bg3.out hb)
  replace HB := Hd.mk (HB.out.trans (hb.mono HB.out.size))
  clear hb XF HF
  obtain ⟨c0', c1', f0', f1'⟩ := Blk.two Bg3.out
  go_wp2_with fail
  go_at_call 7
  have XS := alive_calls _ (Utf8Tabs_below HTT.out HB.out)
  with_reducible refine XS.mono ?_
  rintro _ we ⟨rfl, hb⟩
  have HE := Hd.mk (HB.out.trans (hb.mono HB.out.size))
  clear XS hb
  go_wp2
  go_ret
  exact ⟨rfl, HE.out⟩
set_option maxRecDepth 100000 in
set_option maxHeartbeats 4000000 in
theorem keeps_main {W : World} {A0 : Option Addr} {c0 : Nat} {l0 : List S31} (hr0 : Kd.C k31 W A0 l0.length l0) (hc0 : l0.length ≤ c0) {kf : Nat} (hf : souffleurlaw08_few.f kf l0 = some true) (S : ByteArray) (at_ : Int) (hS : S.size ≤ 140737488351232) (hfew : FewP l0) (hl : S.size ≤ 1500) (hT : Lib.Utf8Tabs 0 1 W) :
    Calls Tryd.prog 3 #[.slice A0 l0.length c0, .agg #[.string S, .int .i64 at_]] W fun e w' => e = .returned (.bool true) ∧ Below W.heap.size W w' := by
  have XF := Hd.mk (fun w1 => souffleurlaw08_few.calls kf A0 c0 l0 true w1)
  have HF := Hd.mk hf
  have HR0 := Hd.mk hr0
  have HC0 := Hd.mk hc0
  have HTT := Hd.mk hT
  have HSS := Hd.mk hS
  have q1 : decide (1500 < (S.size : Int)) = false := decide_eq_false (by omega)
  have q2 : decide (1500 < S.size) = false := decide_eq_false (by omega)
  have HS1 : Hd (S.size ≤ 4294967296) := ⟨by omega⟩
  have HFW := Hd.mk hfew
  clear hl hfew
  clear hr0 hc0 hf hT hS
  go_enter Tryd.func3, Tryd.ntmps3
  go_wp2_with (first
    | ((with_reducible refine gate_dst (N := 3) rfl ?_); refine box_event ?hg (N := 3) ?hd (cs := #[.string S, .int .i64 at_]) (t := 24) ?hr ?_; (case hd => rfl); (case hg => rfl); (case hr => first | (go_simp; done) | (go_simp; rfl)); intro g3 hg wg3 hx hb; have Bg3 := Hd.mk (show Blk wg3 g3 24 #[.string S, .int .i64 at_] from hx); have HG3 : Hd (g3 = W.heap.size) := ⟨hg⟩; have HB := Hd.mk hb; clear hx hb hg))
  go_at_call 6
  with_reducible refine (XF.out _ (Kd.C_below HR0.out HB.out) HC0.out HF.out).mono ?_
  rintro _ w1 ⟨rfl, hb⟩
  replace Bg3 := Hd.mk (Blk.belowW Bg3.out hb)
  replace HB := Hd.mk (HB.out.trans (hb.mono HB.out.size))
  clear hb XF HF
  obtain ⟨c0', c1', f0', f1'⟩ := Blk.two Bg3.out
  go_upto_region 4 with (first
    | ((with_reducible refine gate_dst (N := 5) rfl ?_); refine box_event ?hg (N := 5) ?hd (cs := #[.map none]) (t := 29) ?hr ?_; (case hd => rfl); (case hg => rfl); (case hr => first | (go_simp; done) | (go_simp; rfl)); intro g5 hg wg5 hx hb; have HT := Hd.mk (TS.new (P := fun k => W.heap.size ≤ k) (show Blk wg5 g5 29 #[.map none] from hx) (hg ▸ HB.out.size)); have N35 : Hd (g5 ≠ g3) := ⟨fun e => by have := Bg3.out.lt; omega⟩; replace Bg3 := Hd.mk (Blk.belowW Bg3.out hb); replace HB := Hd.mk (HB.out.trans (hb.mono HB.out.size)); clear hx hb hg))
  clear c0' c1' f0' f1'
  go_wp2
  go_loopg [24] l0.length (fun kq v24 w' => ∃ j : Nat, j + kq = l0.length ∧ v24 = .int .i64 j ∧ ∃ l, Hd (TS (fun k => W.heap.size ≤ k) w' g5 l) ∧ Hd (Below W.heap.size W w') ∧ Hd (Blk w' g3 24 #[.string S, .int .i64 at_]))
  case atStart => exact ⟨0, by omega, rfl, _, HT, HB, Bg3⟩
  case round =>
    clear HT HB Bg3
    obtain ⟨j, hj, rfl, l, HT, HB, Bg3⟩ := hrel
    cases gk with
    | zero =>
      have hlt : decide ((j : Int) < (l0.length : Int)) = false := decide_eq_false (by omega)
      have hlt2 : decide (j < l0.length) = false := decide_eq_false (by omega)
      have hlt3 : ¬ j < l0.length := by omega
      clear hj
      obtain ⟨c0', c1', f0', f1'⟩ := Blk.two Bg3.out
      have HL := Hd.mk (keeps_law S at_ HT.out.1)
      have XK := Hd.mk (fun w1 (hb : Below W.heap.size W w1) => make_calls S HS1.out at_ w1 (Utf8Tabs_below HTT.out hb))
      have HA := Hd.mk (backL_le (makeS S) at_)
      have H6 := Hd.mk (makeS_six S)
      have XG := Hd.mk (fun w1 (hb : Below W.heap.size W w1) (ht : TS (fun k => W.heap.size ≤ k) w1 g5 l) => grow_ts ht (makeS S) (makeS_600 S) (backL (makeS S) at_ : Int) (Utf8Tabs_below HTT.out hb))
      rw [makeS_twice, backL_twice] at XG
      have H6c := Hd.mk (growP_600 (makeS S) (backL (makeS S) at_) l (makeS_six S))
      generalize growP (makeS S) (backL (makeS S) at_) l = c at XG HL H6c
      generalize backL (makeS S) at_ = a at *
      generalize makeS S = m at *
      obtain ⟨⟨cs, ca⟩, is⟩ := c
      dsimp only at HL H6c
      go_wp2_with fail
      go_at_call 9
      with_reducible refine (XK.out _ HB.out).mono ?_
      rintro _ w2 ⟨rfl, hb⟩
      replace HT := Hd.mk (HT.out.below hb)
      replace HB := Hd.mk (HB.out.trans (hb.mono HB.out.size))
      clear hb XK c0' c1' f0' f1' Bg3
      go_upto_region 11 with (first
        | ((with_reducible refine gate_dst (N := 8) rfl ?_); refine box_event ?hg (N := 8) ?hd (cs := #[.string ByteArray.empty, .int .i64 0]) (t := 34) ?hr ?_; (case hd => rfl); (case hg => rfl); (case hr => first | (go_simp; done) | (go_simp; rfl)); intro g8 hg wg8 hx hb; have C1 := Hd.mk (show Blk wg8 g8 34 _ from hx); have HG8 : Hd (W.heap.size ≤ g8 ∧ g5 ≠ g8) := ⟨hg ▸ HB.out.size, fun e => by have := HT.out.lt; omega⟩; replace HT := Hd.mk (HT.out.below hb); replace HB := Hd.mk (HB.out.trans (hb.mono HB.out.size)); clear hx hb hg)
        | ((with_reducible refine gate_store (t := 34) (p := 8) rfl ?_); refine store_event rfl rfl (g := g8) (cells := bufV m a) (by first | rfl | (go_simp; done) | (go_simp; rfl)) (by first | rfl | (go_simp; done) | (go_simp; rfl)) C1.out infoBuf rfl (by simp [bufV, Value.oneCell']) ?_; intro ws hx hk hz hb; replace HT := Hd.mk (HT.out.store C1.out HG8.out.2 hk); have Bg8 := Hd.mk (show Blk ws g8 34 (bufV m a) from hx); replace HB := Hd.mk (hb HB.out HG8.out.1); clear hx hk hz hb C1))
      obtain ⟨c0', c1', f0', f1'⟩ := Blk.two Bg8.out
      go_upto_region 12 with (first
        | (go_at_call 10; have XS := XG.out _ HB.out HT.out; unfold growV at XS; dsimp only at XS; (with_reducible refine XS.mono ?_); rintro _ w3 ⟨rfl, ht, hb⟩; replace Bg8 := Hd.mk (Blk.belowW Bg8.out hb); replace HT := Hd.mk ht; replace HB := Hd.mk (HB.out.trans (hb.mono HB.out.size)); clear XS ht hb c0' c1' f0' f1')
        | ((with_reducible refine gate_dst (N := 9) rfl ?_); refine box_event ?hg (N := 9) ?hd (cs := #[.string ByteArray.empty, .int .i64 0]) (t := 34) ?hr ?_; (case hd => rfl); (case hg => rfl); (case hr => first | (go_simp; done) | (go_simp; rfl)); intro g9 hg wg9 hx hb; have C2 := Hd.mk (show Blk wg9 g9 34 _ from hx); have HG9 : Hd (W.heap.size ≤ g9 ∧ g5 ≠ g9) := ⟨hg ▸ HB.out.size, fun e => by have := HT.out.lt; omega⟩; have Ng82 : Hd (g8 ≠ g9) := ⟨fun e => by have := Bg8.out.lt; omega⟩; replace Bg8 := Hd.mk (Blk.belowW Bg8.out hb); replace HT := Hd.mk (HT.out.below hb); replace HB := Hd.mk (HB.out.trans (hb.mono HB.out.size)); clear hx hb hg)
        | ((with_reducible refine gate_store (t := 34) (p := 9) rfl ?_); refine store_event rfl rfl (g := g9) (cells := bufV cs ca) (by first | rfl | (go_simp; done) | (go_simp; rfl)) (by first | rfl | (go_simp; done) | (go_simp; rfl)) C2.out infoBuf rfl (by simp [bufV, Value.oneCell']) ?_; intro ws hx hk hz hb; replace Bg8 := Hd.mk (show Blk ws g8 _ _ from (hk.2 g8 Bg8.out.lt Ng82.out).trans Bg8.out); replace HT := Hd.mk (HT.out.store C2.out HG9.out.2 hk); have Bg9 := Hd.mk (show Blk ws g9 34 (bufV cs ca) from hx); replace HB := Hd.mk (hb HB.out HG9.out.1); clear hx hk hz hb C2))
      cases is with
      | false =>
        obtain ⟨rfl, rfl⟩ := Prod.mk.inj (HL.out.1 rfl)
        go_wp2_with fail
        go_at_call 7
        have XS := alive_calls _ (Utf8Tabs_below HTT.out HB.out)
        with_reducible refine XS.mono ?_
        rintro _ we ⟨rfl, hb⟩
        replace Bg8 := Hd.mk (Blk.belowW Bg8.out hb)
        replace Bg9 := Hd.mk (Blk.belowW Bg9.out hb)
        replace HB := Hd.mk (HB.out.trans (hb.mono HB.out.size))
        clear XS hb
        obtain ⟨c0', c1', f0', f1'⟩ := Blk.two Bg8.out
        obtain ⟨d0', d1', e0', e1'⟩ := Blk.two Bg9.out
        go_wp2
        go_ret
        exact ⟨rfl, HB.out⟩
      | true =>
        obtain ⟨hh, hcs, hca⟩ := HL.out.2 rfl
        try dsimp only at hcs hca
        obtain ⟨c0', c1', f0', f1'⟩ := Blk.two Bg8.out
        have ha0 : (0 : Int) ≤ (a : Int) := Int.natCast_nonneg a
        have ha1 : (a : Int) ≤ (m.size : Int) := by have := HA.out; omega
        have han : a ≤ m.size := HA.out
        have HH := Hd.mk hcs
        have HC := Hd.mk hca
        clear hcs hca
        go_upto_region 15 with fail
        generalize m.extract a m.size = r at *
        clear ha0 ha1 han c0' c1' f0' f1'
        go_wp2_with fail
        go_at_call 7
        have XS := alive_calls _ (Utf8Tabs_below HTT.out HB.out)
        with_reducible refine XS.mono ?_
        rintro _ we ⟨rfl, hb⟩
        replace Bg9 := Hd.mk (Blk.belowW Bg9.out hb)
        replace HB := Hd.mk (HB.out.trans (hb.mono HB.out.size))
        clear XS hb
        obtain ⟨d0', d1', e0', e1'⟩ := Blk.two Bg9.out
        have hsz : cs.size = hh.size + r.size := by rw [HH.out, ByteArray.size_append]
        have hz6 : (cs.size : Int) ≤ 600 := by have := H6c.out; omega
        have hr0 : (0 : Int) ≤ (r.size : Int) := Int.natCast_nonneg _
        have hr1 : (r.size : Int) ≤ (cs.size : Int) := by omega
        have hr2 : r.size ≤ cs.size := by omega
        have g1 : decide ((r.size : Int) ≤ (cs.size : Int)) = true := decide_eq_true (by omega)
        have g2 : decide (r.size ≤ cs.size) = true := decide_eq_true (by omega)
        have g3' : decide ((cs.size : Int) - (r.size : Int) ≤ (ca : Int)) = true := decide_eq_true (by have := HC.out; omega)
        have hx : cs.extract (cs.size - r.size) cs.size = r := by rw [HH.out]; exact tail_of hh r
        clear hsz
        go_wp2
        go_ret
        exact ⟨rfl, HB.out⟩
    | succ d =>
      have hlt : decide ((j : Int) < (l0.length : Int)) = true := decide_eq_true (by omega)
      have hjl : j < l0.length := by omega
      obtain ⟨ad, e0, x0, x1, x2⟩ := at_T31 HR0.out (j : Int) (by omega) (by omega)
      rw [rd_get hjl] at x0 x1 x2
      rw [Int.toNat_natCast] at x0 x1 x2
      subst e0
      have hx6 := HFW.out.2 _ (List.getElem_mem hjl)
      generalize l0[j] = x at x0 x1 x2 hx6
      replace x0 := (HB.out.cell (World.block_lt_of_cell? W _ x0)).trans x0
      replace x1 := (HB.out.cell (World.block_lt_of_cell? W _ x1)).trans x1
      replace x2 := (HB.out.cell (World.block_lt_of_cell? W _ x2)).trans x2
      have HX1 : Hd (x.f1.size ≤ 4294967296) := ⟨by unfold szOf at hx6; omega⟩
      have HX2 : Hd (x.f2.size ≤ 4294967296) := ⟨by unfold szOf at hx6; omega⟩
      have hj100 : j ≤ 100 := by have := HFW.out.1; omega
      clear hx6
      have HTn := Hd.mk (HT.out.below (below_alloc (Below.refl _ _) (.cells #[.int .i64 x.f0, .string x.f1, .string x.f2] 31)))
      have HBn := Hd.mk (HB.out.trans ((below_alloc (Below.refl _ _) (.cells #[.int .i64 x.f0, .string x.f1, .string x.f2] 31)).mono HB.out.size))
      have Bg3n := Hd.mk (Blk.belowW Bg3.out (below_alloc (Below.refl _ _) (.cells #[.int .i64 x.f0, .string x.f1, .string x.f2] 31)))
      clear HT HB Bg3
      have HJ := Hd.mk hj
      by_cases hk : x.f0 = 0
      · have hk1 : (x.f0 == 0) = true := by rw [hk]; rfl
        have hk2 : decide (x.f0 = 0) = true := decide_eq_true hk
        clear hk hj
        go_wp2_with fail
        go_at_call 8
        have XS := set_ts HTn.out (fun k hk => Nat.le_trans HBn.out.size hk) x.f1 x.f2 HX1.out HX2.out (Utf8Tabs_below HTT.out HBn.out)
        with_reducible refine XS.mono ?_
        rintro _ ws ⟨rfl, ht, ho, hkb⟩
        have HTs := Hd.mk ht
        have HBs := Hd.mk (new_below HBn.out ho)
        have Bg3s := Hd.mk (hkb _ _ _ Bg3n.out N35.out)
        clear XS ht ho hkb HTn HBn Bg3n
        go_wp2
        all_goals
          go_roundg d
          case measure => omega
          case rel => exact ⟨j + 1, by have := HJ.out; omega, by go_num, _, HTs, HBs, Bg3s⟩
      · have hk1 : (x.f0 == 0) = false := by rw [beq_eq_false_iff_ne]; exact hk
        have hk2 : decide (x.f0 = 0) = false := decide_eq_false hk
        clear hk hj
        go_wp2
        all_goals
          go_roundg d
          case measure => omega
          case rel => exact ⟨j + 1, by have := HJ.out; omega, by go_num, _, HTn, HBn, Bg3n⟩
theorem abbrKeeps_walk {W : World} {A0 : Option Addr} {c0 : Nat} {l0 : List S31} {x : ByteArray × Int} {cs : Array Value} (hc0 : l0.length ≤ c0) (hr0 : Kd.C k31 W A0 l0.length l0) (hs : l0.length * Tryd.prog.bytesOf 31 ≤ reachBytes ∧ ∀ x ∈ l0, SizedS x)
    (hK : kBuf.K W x cs.toList) (hx : x.1.size ≤ 140737488351232) (hT : Lib.Utf8Tabs 0 1 W) :
    Calls Tryd.prog 3 #[.slice A0 l0.length c0, .agg cs] W fun e w' => e = .returned (.bool true) ∧ Below W.heap.size W w' := by
  obtain rfl : cs = #[.string x.1, .int .i64 x.2] := by
    have := kBuf_open hK
    cases cs
    simp_all
  obtain ⟨kf, r, hf, hr⟩ := few_few hr0 hs
  cases r with
  | false => exact keeps_out hr0 hc0 hf x.1 x.2 hx hT
  | true =>
    by_cases h : x.1.size ≤ 1500
    · exact keeps_main hr0 hc0 hf x.1 x.2 hx (hr rfl) h hT
    · exact keeps_long hr0 hc0 hf x.1 x.2 hx (by omega) hT
end Go.Proofs.YtbhiljaipikklaaDoorL
