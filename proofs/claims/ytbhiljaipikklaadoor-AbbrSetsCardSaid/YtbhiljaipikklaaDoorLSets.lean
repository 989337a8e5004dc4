/- Abbreviations: the walk of AbbrSets. No conditions. -/
import Derived.Test.YtbhiljaipikklaaDoorLSetsP
import Derived.Test.YtbhiljaipikklaaDoorLHeld2
namespace Go.Proofs.YtbhiljaipikklaaDoorL
set_option linter.unusedVariables false
set_option linter.unusedSimpArgs false
open Go Go.RowKit Go.MapKept Go.Maps Go.Proofs.YtbhiljaipikklaaDoorW.PrintWords Go.Proofs.YtbhiljaipikklaaDoor.K

theorem MapStr.look1 {P : Program} {w : World} {M : Nat} {l : List (ByteArray × Value)} {T k e : TypeId} (h : MapStr w M l) (hT : P.underlying T = some (.map k e)) (hk : P.underlying k = some .string) (s : ByteArray) {z : Value} (hz : ∀ w, (zeroValue e).run P w = .ok z w) :
    (Instr.lookup T (.map (some M)) (.string s) false).run P w = .ok ((fnd s l).getD z) w := by
  obtain ⟨es, clock, hM, hs, hl⟩ := h
  obtain ⟨r, hr, hf, _⟩ := findNow_str s es.toList l 0 hl
  rw [← hf]
  cases r with
  | none => simp [Instr.lookup, run_underlying hT, MapKept.run_getObj_map hM, run_checkKey hk (show IsKey .string (.string s) from trivial), run_findKey hk hr, hz, Result.andThen]
  | some p => simp [Instr.lookup, run_underlying hT, MapKept.run_getObj_map hM, run_checkKey hk (show IsKey .string (.string s) from trivial), run_findKey hk hr, Result.andThen]
theorem info_op : (Tryd.prog.info? 31).map (fun i => (i.zero, i.size, i.bytes)) = some (some (.agg #[.int .i64 0, .string ByteArray.empty, .string ByteArray.empty]), 3, 40) := by kernel_rfl
theorem own_below {w w' : World} {base e size n : Nat} {v : Value} {xs : List Value} (h : w.ownsRow base e size v n xs) (hb : Below w.heap.size w w') : w'.ownsRow base e size v n xs :=
  h.kept (row := none) ⟨hb.os, hb.tape, hb.output, hb.size, fun k hk _ => hb.block k hk⟩ (Classical.em _)
theorem own_name {w : World} {base n c : Nat} {A : Option Addr} {N : List (List UInt8)} (h : w.ownsRow base 9 1 (.slice A n c) n (N.map encStr)) {j : Nat} (hj : j < n) (hN : N.length = n) : ∃ g, A = some ⟨g, 0, none⟩ ∧ w.cell? ⟨g, j, none⟩ = some (encStr (N[j]'(by omega))) := by
  obtain ⟨g, cap, hg, _⟩ := World.ownsRow.form h (by omega)
  obtain ⟨rfl, _, rfl⟩ := Value.slice.inj hg
  refine ⟨g, rfl, ?_⟩
  rw [World.ownsRow.cellAt h j (by omega), List.getElem?_map, List.getElem?_eq_getElem (by omega)]
  rfl
theorem seg_from {l0 : List S31} {c0 K : Nat} {A0 : Option Addr} (h : K ≤ l0.length) (hc : l0.length ≤ c0) : ∃ A1 : Option Addr, (∀ w : World, (Instr.slice 22 (.slice A0 l0.length c0) (some (.int .i64 (K : Int))) none none).run Tryd.prog w = .ok (.slice A1 (l0.drop K).length (c0 - K)) w) ∧ ∀ w : World, Kd.C k31 w A0 l0.length l0 → Kd.C k31 w A1 (l0.drop K).length (l0.drop K) := by
  obtain ⟨i, hi, hz⟩ := Option.map_eq_some_iff.1 info_op
  simp only [Prod.mk.injEq] at hz
  have h1 := cut_from (P := Tryd.prog) 22 31 .i64 Tryd.underlying22 hi 3 hz.2.1 A0 l0.length c0 (K : Int) (by omega) (by omega)
  rw [Int.toNat_natCast] at h1
  refine ⟨_, fun w => by rw [List.length_drop]; exact h1 w, fun w hC => Kd.C_drop hC h hc⟩
theorem seg_to {l0 : List S31} {c0 K : Nat} {A0 : Option Addr} (h : K ≤ l0.length) (hc : l0.length ≤ c0) : (∀ w : World, (Instr.slice 22 (.slice A0 l0.length c0) none (some (.int .i64 (K : Int))) none).run Tryd.prog w = .ok (.slice A0 (l0.take K).length c0) w) := by
  obtain ⟨i, hi, hz⟩ := Option.map_eq_some_iff.1 info_op
  have h1 := cut_to (P := Tryd.prog) 22 31 .i64 Tryd.underlying22 hi A0 l0.length c0 (K : Int) (by omega) (by omega) hc
  rw [Int.toNat_natCast] at h1
  intro w
  rw [List.length_take, Nat.min_eq_left h]
  exact h1 w

set_option maxRecDepth 100000 in
set_option maxHeartbeats 4000000 in
theorem sets_early {W : World} {A0 : Option Addr} {c0 : Nat} {l0 : List S31} (hr0 : Kd.C k31 W A0 l0.length l0) (hc0 : l0.length ≤ c0) {kf : Nat} {r b1 b2 b3 : Bool} (hf : souffleurlaw08_few.f kf l0 = some r) (k : Int)
    (e1 : decide (16 < (l0.length : Int)) = b1) (e1' : decide (16 < l0.length) = b1) (e2 : decide (k < 0) = b2) (e3 : decide ((l0.length : Int) < k) = b3) (h : r = false ∨ b1 = true ∨ b2 = true ∨ b3 = true) (hT : Lib.Utf8Tabs 0 1 W) :
    Calls Tryd.prog 5 #[.slice A0 l0.length c0, .int .i64 k] W fun e w' => e = .returned (.bool true) ∧ Below W.heap.size W w' := by
  have XF := Hd.mk (souffleurlaw08_few.calls kf A0 c0 l0 r W hr0 hc0 hf)
  have HTT := Hd.mk hT
  clear hr0 hc0 hf hT
  go_enter Tryd.func5, Tryd.ntmps5
  go_wp2_with fail
  go_at_call 6
  with_reducible refine (XF.out).mono ?_
  rintro _ w1 ⟨rfl, hb⟩
  have HB := Hd.mk hb
  clear hb XF
  cases r with
  | false =>
    go_wp2_with fail
    go_at_call 7
    have XS := alive_calls _ (Utf8Tabs_below HTT.out HB.out)
    with_reducible refine XS.mono ?_
    rintro _ we ⟨rfl, hb⟩
    have HE := Hd.mk (HB.out.trans (hb.mono HB.out.size))
    clear XS hb
    go_wp2
    go_ret
    exact ⟨rfl, HE.out⟩
  | true =>
    cases b1 with
    | true =>
      go_wp2_with fail
      go_at_call 7
      have XS := alive_calls _ (Utf8Tabs_below HTT.out HB.out)
      with_reducible refine XS.mono ?_
      rintro _ we ⟨rfl, hb⟩
      have HE := Hd.mk (HB.out.trans (hb.mono HB.out.size))
      clear XS hb
      go_wp2
      go_ret
      exact ⟨rfl, HE.out⟩
    | false =>
      cases b2 with
      | true =>
        go_wp2_with fail
        go_at_call 7
        have XS := alive_calls _ (Utf8Tabs_below HTT.out HB.out)
        with_reducible refine XS.mono ?_
        rintro _ we ⟨rfl, hb⟩
        have HE := Hd.mk (HB.out.trans (hb.mono HB.out.size))
        clear XS hb
        go_wp2
        go_ret
        exact ⟨rfl, HE.out⟩
      | false =>
        cases b3 with
        | true =>
          go_wp2_with fail
          go_at_call 7
          have XS := alive_calls _ (Utf8Tabs_below HTT.out HB.out)
          with_reducible refine XS.mono ?_
          rintro _ we ⟨rfl, hb⟩
          have HE := Hd.mk (HB.out.trans (hb.mono HB.out.size))
          clear XS hb
          go_wp2
          go_ret
          exact ⟨rfl, HE.out⟩
        | false =>
          exact absurd h (by simp)
set_option maxRecDepth 100000 in
set_option maxHeartbeats 4000000 in
theorem sets_main {W : World} {A0 : Option Addr} {c0 : Nat} {l0 : List S31} (hr0 : Kd.C k31 W A0 l0.length l0) (hc0 : l0.length ≤ c0) {kf : Nat} (hf : souffleurlaw08_few.f kf l0 = some true) (hfew : FewP l0) (k : Int)
    (h16 : l0.length ≤ 16) (hk0 : 0 ≤ k) (hk1 : k ≤ (l0.length : Int)) (hT : Lib.Utf8Tabs 0 1 W) :
    Calls Tryd.prog 5 #[.slice A0 l0.length c0, .int .i64 k] W fun e w' => e = .returned (.bool true) ∧ Below W.heap.size W w' := by
  have XF := Hd.mk (souffleurlaw08_few.calls kf A0 c0 l0 true W hr0 hc0 hf)
  have HTT := Hd.mk hT
  have HR0 := Hd.mk hr0
  have HC0 := Hd.mk hc0
  have HFW := Hd.mk hfew
  have HL16 := Hd.mk h16
  have HK := Hd.mk (And.intro hk0 hk1)
  have e1 : decide (16 < (l0.length : Int)) = false := decide_eq_false (by omega)
  have e1' : decide (16 < l0.length) = false := decide_eq_false (by omega)
  have e2 : decide (k < 0) = false := decide_eq_false (by omega)
  have e3 : decide ((l0.length : Int) < k) = false := decide_eq_false (by omega)
  clear hr0 hc0 hf hT hfew h16 hk0 hk1
  go_enter Tryd.func5, Tryd.ntmps5
  go_wp2_with fail
  go_at_call 6
  with_reducible refine (XF.out).mono ?_
  rintro _ w1 ⟨rfl, hb⟩
  have HB := Hd.mk hb
  clear hb XF
  go_upto_region 4 with (first
    | ((with_reducible refine gate_dst (N := 5) rfl ?_); refine box_event ?hg (N := 5) ?hd (cs := #[.map none]) (t := 29) ?hr ?_; (case hd => rfl); (case hg => rfl); (case hr => first | (go_simp; done) | (go_simp; rfl)); intro g5 hg wg5 hx hb; have Ba := Hd.mk (show Blk wg5 g5 29 #[.map none] from hx); have Ha : Hd (W.heap.size ≤ g5) := ⟨hg ▸ HB.out.size⟩; replace HB := Hd.mk (HB.out.trans (hb.mono HB.out.size)); clear hx hb hg)
    | ((with_reducible refine gate_dst (N := 6) rfl ?_); refine box_event ?hg (N := 6) ?hd (cs := #[.map none]) (t := 29) ?hr ?_; (case hd => rfl); (case hg => rfl); (case hr => first | (go_simp; done) | (go_simp; rfl)); intro g6 hg wg6 hx hb; have Bb := Hd.mk (show Blk wg6 g6 29 #[.map none] from hx); have Hb : Hd (W.heap.size ≤ g6 ∧ g5 ≠ g6) := ⟨hg ▸ HB.out.size, fun e => by have := Ba.out.lt; omega⟩; replace Ba := Hd.mk (Blk.belowW Ba.out hb); replace HB := Hd.mk (HB.out.trans (hb.mono HB.out.size)); clear hx hb hg))
  have hmm := @run_makeMap Tryd.prog
  have HM : Hd (MapStr (wg6.alloc (.map #[] 0)) wg6.heap.size (seenP ([] : List S31))) := ⟨MapStr.new wg6⟩
  have HMM : Hd (W.heap.size ≤ wg6.heap.size) := ⟨HB.out.size⟩
  have HTa : Hd (TS (fun k => k ≠ wg6.heap.size ∧ k ≠ g6 ∧ W.heap.size ≤ k) (wg6.alloc (.map #[] 0)) g5 (tabP [])) := ⟨TS.new (Ba.out.alloc _) ⟨by have := Ba.out.lt; omega, Hb.out.2, Ha.out⟩⟩
  have HM6 : Hd (wg6.heap.size ≠ g6) := ⟨by have := Bb.out.lt; omega⟩
  replace Bb := Hd.mk (Bb.out.alloc (.map #[] 0))
  replace HB := Hd.mk (HB.out.trans ((below_alloc (Below.refl _ _) (.map #[] 0)).mono HB.out.size))
  clear Ba
  go_upto_region 5 with fail
  clear hmm
  generalize wg6.heap.size = M at *
  generalize wg6.alloc (.map #[] 0) = wm at *
  go_wp2
  go_loopg [41] l0.length (fun kq v41 w' => ∃ j : Nat, j + kq = l0.length ∧ v41 = .int .i64 j ∧ ((l0.take j).map (·.f1)).Nodup ∧ Hd (TS (fun k => k ≠ M ∧ k ≠ g6 ∧ W.heap.size ≤ k) w' g5 (tabP (l0.take j))) ∧ Hd (Blk w' g6 29 #[.map none]) ∧ Hd (MapStr w' M (seenP (l0.take j))) ∧ Hd (Below W.heap.size W w'))
  case atStart => exact ⟨0, by omega, rfl, List.nodup_nil, HTa, Bb, HM, HB⟩
  case round =>
    clear HTa Bb HM HB
    obtain ⟨j, hj, rfl, hnd, HTa, Bb, HM, HB⟩ := hrel
    cases gk with
    | zero =>
      have hlt : decide ((j : Int) < (l0.length : Int)) = false := decide_eq_false (by omega)
      have hlt2 : decide (j < l0.length) = false := decide_eq_false (by omega)
      have hlt3 : ¬ j < l0.length := by omega
      obtain rfl : j = l0.length := by omega
      rw [List.take_length] at hnd HTa HM
      clear hj HM
      have HND := Hd.mk hnd
      clear hnd
      obtain ⟨hk0, hk1⟩ := HK.out
      obtain ⟨K, rfl⟩ := Int.eq_ofNat_of_zero_le hk0
      have hK : K ≤ l0.length := by omega
      obtain ⟨A1, hs1, hC1⟩ := seg_from hK HC0.out (A0 := A0)
      have hs2 := seg_to hK HC0.out (A0 := A0)
      have HCd := Hd.mk hC1
      have HKK := Hd.mk hK
      clear hk0 hk1 hC1 hK
      go_upto_region 13 with fail
      rename_i KQ hKQ
      refine regionH (fun _ => True) (by kernel_rfl) (fun wd hb => ?_)
      replace HTa := Hd.mk (HTa.out.below hb)
      replace Bb := Hd.mk (Blk.belowW Bb.out hb)
      replace HB := Hd.mk (HB.out.trans (hb.mono HB.out.size))
      clear hb
      have hHd : (fun _ : World => True) wd := trivial
      refine takeH (i := 1) (v := ?v1) rfl (by kernel_rfl) (by kernel_rfl) (by kernel_rfl) (fun _ _ _ h => h) (Or.inl ⟨by rfl, ?hy1⟩) (by assumption) ?rest1
      case hy1 => (intro w hSw; (try dsimp only at hSw); go_simp; try (with_reducible rfl))
      case rest1 =>
      try simp only [Act.put, List.setIfInBounds_toArray, List.set_cons_zero, List.set_cons_succ]
      refine takeH (i := 2) (v := ?v2) rfl (by kernel_rfl) (by kernel_rfl) (by kernel_rfl) (fun _ _ _ h => h) (Or.inl ⟨by rfl, ?hy2⟩) (by assumption) ?rest2
      case hy2 => (intro w hSw; (try dsimp only at hSw); go_simp; try (with_reducible rfl))
      case rest2 =>
      try simp only [Act.put, List.setIfInBounds_toArray, List.set_cons_zero, List.set_cons_succ]
      refine takeH (i := 3) (v := .slice A1 (l0.drop K).length (c0 - K)) rfl (by kernel_rfl) (by kernel_rfl) (by kernel_rfl) (fun _ _ _ h => h) (Or.inl ⟨by rfl, ?hy3⟩) (by assumption) ?rest3
      case hy3 => (intro w hSw; clear hSw; go_simp; done)
      case rest3 =>
      try simp only [Act.put, List.setIfInBounds_toArray, List.set_cons_zero, List.set_cons_succ]
      refine takeH (i := 5) (v := ?v4) rfl (by kernel_rfl) (by kernel_rfl) (by kernel_rfl) (fun _ _ _ h => h) (Or.inl ⟨by rfl, ?hy4⟩) (by assumption) ?rest4
      case hy4 => (intro w hSw; (try dsimp only at hSw); go_simp; try (with_reducible rfl))
      case rest4 =>
      try simp only [Act.put, List.setIfInBounds_toArray, List.set_cons_zero, List.set_cons_succ]
      refine takeH (i := 6) (v := ?v5) rfl (by kernel_rfl) (by kernel_rfl) (by kernel_rfl) (fun _ _ _ h => h) (Or.inl ⟨by rfl, ?hy5⟩) (by assumption) ?rest5
      case hy5 => (intro w hSw; (try dsimp only at hSw); go_simp; try (with_reducible rfl))
      case rest5 =>
      try simp only [Act.put, List.setIfInBounds_toArray, List.set_cons_zero, List.set_cons_succ]
      refine takeH (i := 7) (v := .slice A0 (l0.take K).length c0) rfl (by kernel_rfl) (by kernel_rfl) (by kernel_rfl) (fun _ _ _ h => h) (Or.inl ⟨by rfl, ?hy6⟩) (by assumption) ?rest6
      case hy6 => (intro w hSw; clear hSw; go_simp; done)
      case rest6 =>
      try simp only [Act.put, List.setIfInBounds_toArray, List.set_cons_zero, List.set_cons_succ]
      refine takeH (i := 10) (v := ?v7) rfl (by kernel_rfl) (by kernel_rfl) (by kernel_rfl) (fun _ _ _ h => h) (Or.inl ⟨by rfl, ?hy7⟩) (by assumption) ?rest7
      case hy7 => (intro w hSw; (try dsimp only at hSw); go_simp; try (with_reducible rfl))
      case rest7 =>
      try simp only [Act.put, List.setIfInBounds_toArray, List.set_cons_zero, List.set_cons_succ]
      refine wpAnyH_ready (rs := [0]) (by kernel_rfl) (by simp) ?_
      refine consH rfl (fun K_ hK => ?_) AllReadyH.nil
      refine Kd.R_lit_step k31 (w0 := wd) wd.heap.size 31 rfl rfl (xs := []) (inner := []) (ok := fun _ => True) (okp := fun _ => True) (by first | rfl | (go_simp; done) | (go_simp; rfl)) (Reps.none _ _) (fun _ _ => trivial) trivial (Below.refl _ _) (Nat.le_refl _) (by decide) ?_
      intro v1 w1 ho hb hg hat
      have HO1 := Hd.mk ho
      have HB1 := Hd.mk hb
      clear ho hb hg hat hHd
      have hHd : (fun _ : World => True) w1 := trivial
      refine hK.out _ _ hHd ?_
      clear hK K_
      try simp only [Act.put, List.setIfInBounds_toArray, List.set_cons_zero, List.set_cons_succ]
      refine wpAnyH_ready (rs := [4]) (by kernel_rfl) (by simp) ?_
      refine consH rfl (fun K_ hK => ?_) AllReadyH.nil
      refine Kd.R_append_rows_step k31 (Rr := k31.K W) (w0 := wd) wd.heap.size rfl (.tmp 60) (.tmp 63) 22 31 (.agg #[.int .i64 0, .string ByteArray.empty, .string ByteArray.empty]) 40 rfl Tryd.underlying22 info_op rfl (by decide) (by omega) v1 [] (l0.drop K) A1 (l0.drop K).length (c0 - K) (fun _ => True) (fun k => some k ≠ (v1 : Value).ownBlock) rfl rfl HO1.out ?hr (fun x cs h => by rw [k31_open h]; exact k31_mkM _ _ _ _) (fun k h => ⟨trivial, h⟩) (fun _ _ => trivial) HB1.out HB1.out.size ?hl ?_
      case hr => exact ReadsRow.imp_ (HCd.out W HR0.out) ((HB.out.trans (HB1.out.mono HB.out.size)).mono (Nat.le_refl _)) (fun _ _ h => h)
      case hl => (have := HL16.out; simp only [List.nil_append, List.length_drop, List.length_take, List.length_nil]; omega)
      intro v2 w2 ho hb hg hat
      have HO2 := Hd.mk ho
      have HB2 := Hd.mk hb
      clear ho hb hg hat hHd
      have hHd : (fun _ : World => True) w2 := trivial
      refine hK.out _ _ hHd ?_
      clear hK K_
      try simp only [Act.put, List.setIfInBounds_toArray, List.set_cons_zero, List.set_cons_succ]
      refine wpAnyH_ready (rs := [8]) (by kernel_rfl) (by simp) ?_
      refine consH rfl (fun K_ hK => ?_) AllReadyH.nil
      refine Kd.R_append_rows_step k31 (Rr := k31.K W) (w0 := wd) wd.heap.size rfl (.tmp 64) (.tmp 67) 22 31 (.agg #[.int .i64 0, .string ByteArray.empty, .string ByteArray.empty]) 40 rfl Tryd.underlying22 info_op rfl (by decide) (by omega) v2 ([] ++ l0.drop K) (l0.take K) A0 (l0.take K).length c0 (fun _ => True) (fun k => some k ≠ (v2 : Value).ownBlock) rfl rfl HO2.out ?hr (fun x cs h => by rw [k31_open h]; exact k31_mkM _ _ _ _) (fun k h => ⟨trivial, h⟩) (fun _ _ => trivial) HB2.out HB2.out.size ?hl ?_
      case hr => exact ReadsRow.imp_ (Kd.C_take HR0.out HKK.out) ((HB.out.trans (HB2.out.mono HB.out.size)).mono (Nat.le_refl _)) (fun _ _ h => h)
      case hl => (have := HL16.out; simp only [List.nil_append, List.length_drop, List.length_take, List.length_nil]; omega)
      intro v3 w3 ho hb hg hat
      have HO3 := Hd.mk ho
      have HB3 := Hd.mk hb
      clear ho hb hg hat hHd
      have hHd : (fun _ : World => True) w3 := trivial
      rw [List.nil_append] at HO3
      have eT : l0.drop K ++ l0.take K = turned l0 K := rfl
      rw [eT] at HO3
      clear eT
      obtain ⟨A3, c3, rfl, hc3, _⟩ := Kd.R_reads HO3.out
      clear hc3
      refine hK.out _ _ hHd ?_
      clear hK K_
      try simp only [Act.put, List.setIfInBounds_toArray, List.set_cons_zero, List.set_cons_succ]
      refine takeH (i := 9) (v := ?v8) rfl (by kernel_rfl) (by kernel_rfl) (by kernel_rfl) (fun _ _ _ h => h) (Or.inl ⟨by rfl, ?hy8⟩) (by assumption) ?rest8
      case hy8 => (intro w hSw; (try dsimp only at hSw); go_simp; try (with_reducible rfl))
      case rest8 =>
      try simp only [Act.put, List.setIfInBounds_toArray, List.set_cons_zero, List.set_cons_succ]
      refine wpAnyH_done (by kernel_rfl) ?_ _
      refine hKQ _ _ ?_
      clear hHd
      have HLn := Hd.mk (turned_length l0 K)
      have HLm : Hd (∀ x ∈ turned l0 K, szOf x ≤ 6000) := ⟨fun x hx => HFW.out.2 x ((turned_perm l0 K).mem_iff.1 hx)⟩
      have HLd : Hd (((turned l0 K).map (·.f1)).Nodup) := ⟨((turned_perm l0 K).map _).nodup_iff.2 HND.out⟩
      have HTP := Hd.mk (tab_perm l0 K)
      have HTb : Hd (TS (fun k => k = g6 ∨ w3.heap.size ≤ k) w3 g6 (tabP [])) := ⟨TS.new (Blk.belowW Bb.out HB3.out) (.inl rfl)⟩
      have HTc : Hd (TS (fun k => k ≠ g6 ∧ k < w3.heap.size) w3 g5 (tabP l0)) := ⟨((HTa.out.below HB3.out).bound).mono (fun k hk => ⟨hk.1.2.1, hk.2⟩)⟩
      have HRR : Hd (k31.R 31 w3 wd.heap.size (fun k => k ≠ g6 ∧ k < w3.heap.size) (.slice A3 (turned l0 K).length c3) (turned l0 K)) := ⟨Kd.R_mono (Kd.R_bound HO3.out) (fun k hk => ⟨fun e => by have := Bb.out.lt; have := hk.2.1; omega, hk.2.2.1⟩)⟩
      have HB4 := Hd.mk (HB.out.trans (HB3.out.mono HB.out.size))
      have HG6 := Hd.mk Hb.out.1
      have HM3 := Hd.mk HB4.out.size
      clear HTa Bb HB HO3 HB3 HO2 HB2 HO1 HB1 hs1 hs2 HCd
      generalize turned l0 K = L at *
      generalize (l0.drop K).length = nd
      generalize (l0.take K).length = nt
      generalize wd.heap.size = nb at *
      go_wp2
      go_loopg [70] L.length (fun kq v70 w' => ∃ j : Nat, j + kq = L.length ∧ v70 = .int .i64 j ∧ Hd (TS (fun k => k = g6 ∨ w3.heap.size ≤ k) w' g6 (tabP (L.take j))) ∧ Hd (TS (fun k => k ≠ g6 ∧ k < w3.heap.size) w' g5 (tabP l0)) ∧ Hd (k31.R 31 w' nb (fun k => k ≠ g6 ∧ k < w3.heap.size) (.slice A3 L.length c3) L) ∧ Hd (Below W.heap.size W w') ∧ Hd (w3.heap.size ≤ w'.heap.size))
      case atStart => exact ⟨0, by omega, rfl, HTb, HTc, HRR, HB4, ⟨Nat.le_refl _⟩⟩
      case round =>
        clear HTb HTc HRR HB4
        obtain ⟨j, hj, rfl, HTb, HTc, HRR, HB, HZ⟩ := hrel
        cases gk with
        | zero =>
          have hlt : decide ((j : Int) < (L.length : Int)) = false := decide_eq_false (by omega)
          have hlt2 : decide (j < L.length) = false := decide_eq_false (by omega)
          have hlt3 : ¬ j < L.length := by omega
          have hL16 : (L.length : Int) ≤ 16 := by have := HL16.out; have := HLn.out; omega
          obtain rfl : j = L.length := by omega
          rw [List.take_length] at HTb
          clear hj HRR HZ
          have HN1 : Hd (namesP (tabP L) = namesP (tabP l0)) := ⟨(namesP_perm HTP.out).symm⟩
          have HN2 : Hd ((tabP L).length = (tabP l0).length) := ⟨HTP.out.length_eq.symm⟩
          have HGP : Hd (∀ s, getP s (tabP L) = getP s (tabP l0)) := ⟨fun s => (getP_perm HTP.out HTc.out.1.2.2 s).symm⟩
          have HNL := Hd.mk (namesP_length (tabP l0))
          have hn16 : ((tabP l0).length : Int) ≤ 16 := by have := HTc.out.1.2.1; omega
          go_wp2_with fail
          go_at_call 13
          have XS := names_ts HTc.out
          with_reducible refine XS.mono ?_
          rintro _ w6 ⟨⟨vx, rfl, hrx⟩, ht, hb⟩
          have HTc6 := Hd.mk ht
          have HTb6 := Hd.mk (HTb.out.below hb)
          have HB6 := Hd.mk (HB.out.trans (hb.mono HB.out.size))
          have HX6 := Hd.mk hrx
          clear XS ht hb hrx HTc HTb HB
          go_wp2_with fail
          go_at_call 13
          have XS := names_ts HTb6.out
          rw [HN1.out, HN2.out] at XS
          with_reducible refine XS.mono ?_
          rintro _ w7 ⟨⟨vy, rfl, hry⟩, ht, hb⟩
          have HTb7 := Hd.mk ht
          have HTc7 := Hd.mk (HTc6.out.below hb)
          have HB7 := Hd.mk (HB6.out.trans (hb.mono HB6.out.size))
          have HX7 := Hd.mk (own_below HX6.out hb)
          have HY7 := Hd.mk hry
          clear XS ht hb hry HTc6 HTb6 HB6 HX6
          obtain ⟨Ax, cx, rfl⟩ := own_slice HX7.out
          obtain ⟨Ay, cy, rfl⟩ := own_slice HY7.out
          generalize namesP (tabP l0) = N at *
          generalize (tabP l0).length = n at *
          generalize wr.heap.size = nx at *
          generalize w6.heap.size = ny at *
          go_wp2
          go_loopg [89] n (fun kq v89 w' => ∃ j : Nat, j + kq = n ∧ v89 = .int .i64 j ∧ Hd (TS (fun k => k = g6 ∨ w3.heap.size ≤ k) w' g6 (tabP L)) ∧ Hd (TS (fun k => k ≠ g6 ∧ k < w3.heap.size) w' g5 (tabP l0)) ∧ Hd (w'.ownsRow nx 9 1 (.slice Ax n cx) n (N.map encStr)) ∧ Hd (w'.ownsRow ny 9 1 (.slice Ay n cy) n (N.map encStr)) ∧ Hd (Below W.heap.size W w'))
          case atStart => exact ⟨0, by omega, rfl, HTb7, HTc7, HX7, HY7, HB7⟩
          case round =>
            clear HTb7 HTc7 HX7 HY7 HB7
            obtain ⟨j, hj, rfl, HTb, HTc, HX, HY, HB⟩ := hrel
            cases gk with
            | zero =>
              have hmt : decide ((j : Int) < (n : Int)) = false := decide_eq_false (by omega)
              have hmt2 : decide (j < n) = false := decide_eq_false (by omega)
              have hmt3 : ¬ j < n := by omega
              clear hj
              go_wp2_with fail
              go_at_call 7
              have XS := alive_calls _ (Utf8Tabs_below HTT.out HB.out)
              with_reducible refine XS.mono ?_
              rintro _ we ⟨rfl, hb⟩
              have HE := Hd.mk (HB.out.trans (hb.mono HB.out.size))
              clear XS hb
              go_wp2
              go_ret
              exact ⟨rfl, HE.out⟩
            | succ d =>
              have hmt : decide ((j : Int) < (n : Int)) = true := decide_eq_true (by omega)
              have hjn : j < n := by omega
              obtain ⟨gx, rfl, cxj⟩ := own_name HX.out hjn HNL.out
              obtain ⟨gy, rfl, cyj⟩ := own_name HY.out hjn HNL.out
              unfold encStr at cxj cyj
              generalize (⟨(N[j]'(by have := HNL.out; omega)).toArray⟩ : ByteArray) = s at cxj cyj
              have HJ := Hd.mk hj
              clear hj
              have hn0 : (0 : Int) ≤ (j : Int) := Int.natCast_nonneg j
              go_wp2_with fail
              go_at_call 14
              have XS := get_ts HTc.out s
              with_reducible refine XS.mono ?_
              rintro _ w8 ⟨rfl, _, hb⟩
              replace HTb := Hd.mk (HTb.out.below hb)
              replace HTc := Hd.mk (HTc.out.below hb)
              replace HX := Hd.mk (own_below HX.out hb)
              replace HY := Hd.mk (own_below HY.out hb)
              replace HB := Hd.mk (HB.out.trans (hb.mono HB.out.size))
              replace cxj := (hb.cell (World.block_lt_of_cell? _ _ cxj)).trans cxj
              replace cyj := (hb.cell (World.block_lt_of_cell? _ _ cyj)).trans cyj
              clear XS hb
              go_wp2_with fail
              go_at_call 14
              have XS := get_ts HTb.out s
              rw [HGP.out s] at XS
              with_reducible refine XS.mono ?_
              rintro _ w9 ⟨rfl, _, hb⟩
              replace HTb := Hd.mk (HTb.out.below hb)
              replace HTc := Hd.mk (HTc.out.below hb)
              replace HX := Hd.mk (own_below HX.out hb)
              replace HY := Hd.mk (own_below HY.out hb)
              replace HB := Hd.mk (HB.out.trans (hb.mono HB.out.size))
              replace cxj := (hb.cell (World.block_lt_of_cell? _ _ cxj)).trans cxj
              replace cyj := (hb.cell (World.block_lt_of_cell? _ _ cyj)).trans cyj
              clear XS hb
              generalize (getP s (tabP l0)).1 = p
              generalize (getP s (tabP l0)).2 = b
              go_upto_region 26 with fail
              rename_i KQ hKQ
              refine regionH (fun w' : World => w'.cell? ⟨gx, j, none⟩ = some (.string s) ∧ w'.cell? ⟨gy, j, none⟩ = some (.string s)) (by kernel_rfl) (fun wd hb => ?_)
              replace HTb := Hd.mk (HTb.out.below hb)
              replace HTc := Hd.mk (HTc.out.below hb)
              replace HX := Hd.mk (own_below HX.out hb)
              replace HY := Hd.mk (own_below HY.out hb)
              replace HB := Hd.mk (HB.out.trans (hb.mono HB.out.size))
              replace cxj := (hb.cell (World.block_lt_of_cell? _ _ cxj)).trans cxj
              replace cyj := (hb.cell (World.block_lt_of_cell? _ _ cyj)).trans cyj
              clear hb
              have hHd : (fun w' : World => w'.cell? ⟨gx, j, none⟩ = some (.string s) ∧ w'.cell? ⟨gy, j, none⟩ = some (.string s)) wd := ⟨cxj, cyj⟩
              refine takeH (i := 0) (v := ?v9) rfl (by kernel_rfl) (by kernel_rfl) (by kernel_rfl) (fun _ _ _ h => h) (Or.inl ⟨by rfl, ?hy9⟩) (by assumption) ?rest9
              case hy9 => (intro w hSw; (try dsimp only at hSw); go_simp; try (with_reducible rfl))
              case rest9 =>
              try simp only [Act.put, List.setIfInBounds_toArray, List.set_cons_zero, List.set_cons_succ]
              refine takeH (i := 1) (v := ?v10) rfl (by kernel_rfl) (by kernel_rfl) (by kernel_rfl) (fun _ _ _ h => h) (Or.inl ⟨by rfl, ?hy10⟩) (by assumption) ?rest10
              case hy10 => (intro w hSw; (try dsimp only at hSw); go_simp; try (with_reducible rfl))
              case rest10 =>
              try simp only [Act.put, List.setIfInBounds_toArray, List.set_cons_zero, List.set_cons_succ]
              refine takeH (i := 2) (v := ?v11) rfl (by kernel_rfl) (by kernel_rfl) (by kernel_rfl) (fun _ _ _ h => h) (Or.inl ⟨by rfl, ?hy11⟩) (by assumption) ?rest11
              case hy11 => (intro w hSw; (try dsimp only at hSw); go_simp; try (with_reducible rfl))
              case rest11 =>
              try simp only [Act.put, List.setIfInBounds_toArray, List.set_cons_zero, List.set_cons_succ]
              refine takeH (i := 3) (v := ?v12) rfl (by kernel_rfl) (by kernel_rfl) (by kernel_rfl) (fun _ _ _ h => h) (Or.inl ⟨by rfl, ?hy12⟩) (by assumption) ?rest12
              case hy12 => (intro w hSw; (try dsimp only at hSw); go_simp; try (with_reducible rfl))
              case rest12 =>
              try simp only [Act.put, List.setIfInBounds_toArray, List.set_cons_zero, List.set_cons_succ]
              refine takeH (i := 4) (v := ?v13) rfl (by kernel_rfl) (by kernel_rfl) (by kernel_rfl) (fun _ _ _ h => h) (Or.inl ⟨by rfl, ?hy13⟩) (by assumption) ?rest13
              case hy13 => (intro w hSw; (try dsimp only at hSw); go_simp; try (with_reducible rfl))
              case rest13 =>
              try simp only [Act.put, List.setIfInBounds_toArray, List.set_cons_zero, List.set_cons_succ]
              refine takeH (i := 5) (v := ?v14) rfl (by kernel_rfl) (by kernel_rfl) (by kernel_rfl) (fun _ _ _ h => h) (Or.inl ⟨by rfl, ?hy14⟩) (by assumption) ?rest14
              case hy14 => (intro w hSw; (try dsimp only at hSw); go_simp; try (with_reducible rfl))
              case rest14 =>
              try simp only [Act.put, List.setIfInBounds_toArray, List.set_cons_zero, List.set_cons_succ]
              refine takeH (i := 6) (v := ?v15) rfl (by kernel_rfl) (by kernel_rfl) (by kernel_rfl) (fun _ _ _ h => h) (Or.inl ⟨by rfl, ?hy15⟩) (by assumption) ?rest15
              case hy15 => (intro w hSw; (try dsimp only at hSw); go_simp; try (with_reducible rfl))
              case rest15 =>
              try simp only [Act.put, List.setIfInBounds_toArray, List.set_cons_zero, List.set_cons_succ]
              refine takeH (i := 7) (v := ?v16) rfl (by kernel_rfl) (by kernel_rfl) (by kernel_rfl) (fun _ _ _ h => h) (Or.inl ⟨by rfl, ?hy16⟩) (by assumption) ?rest16
              case hy16 => (intro w hSw; (try dsimp only at hSw); go_simp; try (with_reducible rfl))
              case rest16 =>
              try simp only [Act.put, List.setIfInBounds_toArray, List.set_cons_zero, List.set_cons_succ]
              refine takeH (i := 8) (v := ?v17) rfl (by kernel_rfl) (by kernel_rfl) (by kernel_rfl) (fun _ _ _ h => h) (Or.inl ⟨by rfl, ?hy17⟩) (by assumption) ?rest17
              case hy17 => (intro w hSw; (try dsimp only at hSw); go_simp; try (with_reducible rfl))
              case rest17 =>
              try simp only [Act.put, List.setIfInBounds_toArray, List.set_cons_zero, List.set_cons_succ]
              refine takeH (i := 9) (v := ?v18) rfl (by kernel_rfl) (by kernel_rfl) (by kernel_rfl) (fun _ _ _ h => h) (Or.inl ⟨by rfl, ?hy18⟩) (by assumption) ?rest18
              case hy18 => (intro w hSw; (try dsimp only at hSw); go_simp; try (with_reducible rfl))
              case rest18 =>
              try simp only [Act.put, List.setIfInBounds_toArray, List.set_cons_zero, List.set_cons_succ]
              refine takeH (i := 10) (v := ?v19) rfl (by kernel_rfl) (by kernel_rfl) (by kernel_rfl) (fun _ _ _ h => h) (Or.inl ⟨by rfl, ?hy19⟩) (by assumption) ?rest19
              case hy19 => (intro w hSw; (try dsimp only at hSw); go_simp; try (with_reducible rfl))
              case rest19 =>
              try simp only [Act.put, List.setIfInBounds_toArray, List.set_cons_zero, List.set_cons_succ]
              refine takeH (i := 11) (v := ?v20) rfl (by kernel_rfl) (by kernel_rfl) (by kernel_rfl) (fun _ _ _ h => h) (Or.inl ⟨by rfl, ?hy20⟩) (by assumption) ?rest20
              case hy20 => (intro w hSw; (try dsimp only at hSw); go_simp; try (with_reducible rfl))
              case rest20 =>
              try simp only [Act.put, List.setIfInBounds_toArray, List.set_cons_zero, List.set_cons_succ]
              refine takeH (i := 12) (v := ?v21) rfl (by kernel_rfl) (by kernel_rfl) (by kernel_rfl) (fun _ _ _ h => h) (Or.inl ⟨by rfl, ?hy21⟩) (by assumption) ?rest21
              case hy21 => (intro w hSw; (try dsimp only at hSw); go_simp; try (with_reducible rfl))
              case rest21 =>
              try simp only [Act.put, List.setIfInBounds_toArray, List.set_cons_zero, List.set_cons_succ]
              refine takeH (i := 13) (v := ?v22) rfl (by kernel_rfl) (by kernel_rfl) (by kernel_rfl) (fun _ _ _ h => h) (Or.inl ⟨by rfl, ?hy22⟩) (by assumption) ?rest22
              case hy22 => (intro w hSw; (try dsimp only at hSw); go_simp; try (with_reducible rfl))
              case rest22 =>
              try simp only [Act.put, List.setIfInBounds_toArray, List.set_cons_zero, List.set_cons_succ]
              refine wpAnyH_done (by kernel_rfl) ?_ _
              refine hKQ _ _ ?_
              clear hHd cxj cyj
              have hj16 : j < 16 := by omega
              go_wp2
              all_goals
                go_roundg d
                case measure => omega
                case rel => exact ⟨j + 1, by have := HJ.out; omega, by go_num, HTb, HTc, HX, HY, HB⟩
        | succ d =>
          have hlt : decide ((j : Int) < (L.length : Int)) = true := decide_eq_true (by omega)
          have hjl : j < L.length := by omega
          obtain ⟨ad, e0, x0, x1, x2⟩ := at_T31 (Kd.R_reads' HRR.out).2.2 (j : Int) (by omega) (by omega)
          rw [rd_get hjl] at x0 x1 x2
          rw [Int.toNat_natCast] at x0 x1 x2
          subst e0
          have hx6 := HLm.out _ (List.getElem_mem hjl)
          have HTK := Hd.mk (take_step hjl)
          have HIN := Hd.mk (take_fresh HLd.out hjl)
          generalize L[j] = x at x0 x1 x2 hx6 HTK HIN
          have HX1 : Hd (x.f1.size ≤ 4294967296) := ⟨by unfold szOf at hx6; omega⟩
          have HX2 : Hd (x.f2.size ≤ 4294967296) := ⟨by unfold szOf at hx6; omega⟩
          have hj16 : j < 16 := by have := HL16.out; have := HLn.out; omega
          have hL16 : (L.length : Int) ≤ 16 := by have := HL16.out; have := HLn.out; omega
          clear hx6
          have hbn := below_alloc (Below.refl wr.heap.size wr) (.cells #[.int .i64 x.f0, .string x.f1, .string x.f2] 31)
          have HTn := Hd.mk (HTb.out.below hbn)
          have HCn := Hd.mk (HTc.out.below hbn)
          have HRn := Hd.mk (Kd.R_below HRR.out hbn)
          have HBn := Hd.mk (HB.out.trans (hbn.mono HB.out.size))
          have HZn := Hd.mk (Nat.le_trans HZ.out hbn.size)
          have HSP := Hd.mk (tabP_step HIN.out (by rw [List.length_take]; omega))
          rw [← HTK.out] at HSP
          have HJ := Hd.mk hj
          clear HTb HTc HRR HB HZ hbn hj HTK HIN
          go_wp2_with fail
          go_at_call 8
          have XS := set_ts HTn.out (fun k hk => .inr (Nat.le_trans HZn.out hk)) x.f1 x.f2 HX1.out HX2.out (Utf8Tabs_below HTT.out HBn.out)
          rw [HSP.out] at XS
          with_reducible refine XS.mono ?_
          rintro _ w5 ⟨rfl, ht, ho, _⟩
          have HT5 := Hd.mk ht
          have HC5 := Hd.mk (HCn.out.only ho (fun k hk h => by rcases h with h | h <;> omega))
          have HR5 := Hd.mk (Kd.R_step HRn.out (fun k hk hlt => ho.block k hlt (fun h => by rcases h with h | h <;> omega)))
          have HB5 := Hd.mk (HBn.out.trans (ho.to_below (fun g h => by rcases h with h | h; (· exact h ▸ HG6.out); (· have := HM3.out; omega)) HBn.out.size))
          have HZ5 := Hd.mk (Nat.le_trans HZn.out ho.size)
          clear XS ht ho HTn HCn HRn HBn HZn x0 x1 x2
          go_wp2
          all_goals
            go_roundg d
            case measure => omega
            case rel => exact ⟨j + 1, by have := HJ.out; omega, by go_num, HT5, HC5, HR5, HB5, HZ5⟩
    | succ d =>
      have hlt : decide ((j : Int) < (l0.length : Int)) = true := decide_eq_true (by omega)
      have hjl : j < l0.length := by omega
      obtain ⟨ad, e0, x0, x1, x2⟩ := at_T31 HR0.out (j : Int) (by omega) (by omega)
      rw [rd_get hjl] at x0 x1 x2
      rw [Int.toNat_natCast] at x0 x1 x2
      subst e0
      have hx6 := HFW.out.2 _ (List.getElem_mem hjl)
      have HTK := Hd.mk (take_step hjl)
      generalize l0[j] = x at x0 x1 x2 hx6 HTK
      replace x0 := (HB.out.cell (World.block_lt_of_cell? W _ x0)).trans x0
      replace x1 := (HB.out.cell (World.block_lt_of_cell? W _ x1)).trans x1
      replace x2 := (HB.out.cell (World.block_lt_of_cell? W _ x2)).trans x2
      have HX1 : Hd (x.f1.size ≤ 4294967296) := ⟨by unfold szOf at hx6; omega⟩
      have HX2 : Hd (x.f2.size ≤ 4294967296) := ⟨by unfold szOf at hx6; omega⟩
      have hj16 : j < 16 := by have := HL16.out; omega
      clear hx6
      have hbn := below_alloc (Below.refl wr.heap.size wr) (.cells #[.int .i64 x.f0, .string x.f1, .string x.f2] 31)
      have HTn := Hd.mk (HTa.out.below hbn)
      have Bbn := Hd.mk (Blk.belowW Bb.out hbn)
      have HMn := Hd.mk (MapStr.to HM.out (hbn.block M (MapStr.lt HM.out)))
      have HBn := Hd.mk (HB.out.trans (hbn.mono HB.out.size))
      clear HTa Bb HM HB hbn
      have HJ := Hd.mk hj
      have XLK := HMn.out.look1 (P := Tryd.prog) Tryd.underlying42 Tryd.underlying9 x.f1 Tryd.zeroValue3
      rcases seen_fnd (l := l0.take j) (s := x.f1) with ⟨hin, hfn⟩ | ⟨hin, hfn⟩
      · rw [hfn] at XLK
        dsimp only [Option.getD_some] at XLK
        clear hfn hin
        have HB := HBn
        go_wp2_with fail
        go_at_call 7
        have XS := alive_calls _ (Utf8Tabs_below HTT.out HB.out)
        with_reducible refine XS.mono ?_
        rintro _ we ⟨rfl, hb⟩
        have HE := Hd.mk (HB.out.trans (hb.mono HB.out.size))
        clear XS hb
        go_wp2
        go_ret
        exact ⟨rfl, HE.out⟩
      · rw [hfn] at XLK
        dsimp only [Option.getD_none] at XLK
        clear hfn
        have HIN := Hd.mk hin
        clear hin
        have Bxn := Hd.mk (show Blk (wr.alloc (.cells #[.int .i64 x.f0, .string x.f1, .string x.f2] 31)) wr.heap.size 31 #[.int .i64 x.f0, .string x.f1, .string x.f2] from heap_alloc_new wr _)
        have HMx : Hd (wr.heap.size ≠ M) := ⟨fun e => MapStr.ne_blk HMn.out Bxn.out e.symm⟩
        go_upto_region 11 with (with_reducible refine wpList_mapUpdate_str HMn.out rfl (.tmp 51) (.tmp 53) (.const (.int .i64 1)) rfl Tryd.underlying42 Tryd.underlying9 x.f1 (.int .i64 1) rfl rfl rfl ?_; intro w4 hm4 hg4; have HM4 := Hd.mk hm4; have HO4 := Hd.mk ((Only.refl (fun k => k = M) _).grown hg4 (fun g e => .inl (by cases e; rfl))); clear hm4 hg4)
        rw [seen_snoc _ _ HIN.out, ← HTK.out] at HM4
        have Bx4 := Hd.mk (Bxn.out.to (HO4.out.block _ Bxn.out.lt HMx.out))
        have Bb4 := Hd.mk (Bbn.out.to (HO4.out.block _ Bbn.out.lt (fun e => HM6.out e.symm)))
        have HT4 := Hd.mk (HTn.out.only HO4.out (fun k hk => hk.1))
        have HB4 := Hd.mk (HBn.out.trans (HO4.out.to_below (fun g e => e ▸ HMM.out) HBn.out.size))
        have y1 := Bx4.out.cell 1 (v := .string x.f1) rfl
        have y2 := Bx4.out.cell 2 (v := .string x.f2) rfl
        have hnd2 := take_nodup hnd HIN.out
        rw [← HTK.out] at hnd2
        have HND := Hd.mk hnd2
        have HSP := Hd.mk (tabP_step HIN.out (by rw [List.length_take]; omega))
        rw [← HTK.out] at HSP
        clear HTn Bbn HMn HBn Bxn XLK hnd hnd2 HTK HIN x0 x1 x2
        have HH1 := Hd.mk (MapStr.lt HM4.out)
        have HH2 := Hd.mk Bb4.out.lt
        have HH3 := Hd.mk HB4.out.size
        go_wp2_with fail
        go_at_call 8
        have XS := set_ts HT4.out (fun k hk => ⟨fun e => by have := HH1.out; omega, fun e => by have := HH2.out; omega, Nat.le_trans HH3.out hk⟩) x.f1 x.f2 HX1.out HX2.out (Utf8Tabs_below HTT.out HB4.out)
        rw [HSP.out] at XS
        with_reducible refine XS.mono ?_
        rintro _ w5 ⟨rfl, ht, ho, hkb⟩
        have HT5 := Hd.mk ht
        have HM5 := Hd.mk (MapStr.to HM4.out (ho.block M HH1.out (fun h => h.1 rfl)))
        have Bb5 := Hd.mk (hkb _ _ _ Bb4.out Hb.out.2)
        have HB5 := Hd.mk (HB4.out.trans (ho.to_below (fun g h => h.2.2) HH3.out))
        clear XS ht ho hkb HM4 Bb4 HT4 HB4 Bx4 y1 y2 HO4 hj
        go_wp2
        all_goals
          go_roundg d
          case measure => omega
          case rel => exact ⟨j + 1, by have := HJ.out; omega, by go_num, HND.out, HT5, Bb5, HM5, HB5⟩
theorem abbrSets_walk {W : World} {A0 : Option Addr} {c0 : Nat} {l0 : List S31} (k : Int) (hc0 : l0.length ≤ c0) (hr0 : Kd.C k31 W A0 l0.length l0) (hs : l0.length * Tryd.prog.bytesOf 31 ≤ reachBytes ∧ ∀ x ∈ l0, SizedS x)
    (hT : Lib.Utf8Tabs 0 1 W) :
    Calls Tryd.prog 5 #[.slice A0 l0.length c0, .int .i64 k] W fun e w' => e = .returned (.bool true) ∧ Below W.heap.size W w' := by
  obtain ⟨kf, r, hf, hr⟩ := few_few hr0 hs
  have early := fun h => sets_early hr0 hc0 hf k rfl (decide_eq_decide.2 ⟨fun h => by omega, fun h => by omega⟩) rfl rfl h hT
  cases r with
  | false => exact early (.inl rfl)
  | true =>
    by_cases h1 : l0.length ≤ 16
    · by_cases h2 : 0 ≤ k
      · by_cases h3 : k ≤ (l0.length : Int)
        · exact sets_main hr0 hc0 hf (hr rfl) k h1 h2 h3 hT
        · exact early (.inr (.inr (.inr (decide_eq_true (by omega)))))
      · exact early (.inr (.inr (.inl (decide_eq_true (by omega)))))
    · exact early (.inr (.inl (decide_eq_true (by omega))))
end Go.Proofs.YtbhiljaipikklaaDoorL
