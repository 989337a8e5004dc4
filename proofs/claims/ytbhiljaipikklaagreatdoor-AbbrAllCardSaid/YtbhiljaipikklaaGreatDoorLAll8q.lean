/- Parts of the proof of the law that the last file states; declarations that nothing mentions are left out by a program. No conditions. -/
import Derived.Test.YtbhiljaipikklaaGreatDoorLRefDoesq
set_option linter.unusedVariables false
set_option linter.unusedSimpArgs false
namespace Go.Proofs.YtbhiljaipikklaaGreatDoorL
open Go Go.RowKit Go.MapKept Go.Proofs.YtbhiljaipikklaaGreatDoorW.PrintWords Go.Proofs.YtbhiljaipikklaaGreatDoor.K
theorem Rel.at_ {T : List (ByteArray × ByteArray)} {l : List RP} (h : Rel T l) (hT : WellT T) {k : Nat} (hk : k < l.length) : getP l[k].f0 T = (l[k].f1, true) := by
  have h1 : fnd l[k].f0 T = some l[k].f1 := fnd_of_mem hT.2.2 (h.1.subset (List.mem_map.2 ⟨l[k], List.getElem_mem hk, rfl⟩))
  unfold getP
  rw [h1]
theorem names_at {T : List (ByteArray × ByteArray)} {l : List RP} (h : Rel T l) {k : Nat} (hk : k < l.length) : encStr ((namesP T)[k]'(by rw [h.names, List.length_map]; exact hk)) = .string l[k].f0 := by
  have e : (namesP T)[k]'(by rw [h.names, List.length_map]; exact hk) = l[k].f0.data.toList := by
    have : (namesP T)[k]? = some l[k].f0.data.toList := by rw [h.names, List.getElem?_map, List.getElem?_eq_getElem hk]; rfl
    rw [List.getElem?_eq_getElem (by rw [h.names, List.length_map]; exact hk)] at this
    exact Option.some.inj this
  rw [e]
theorem own_name8 {w : World} {base n c : Nat} {A : Option Addr} {N : List (List UInt8)} (h : w.ownsRow base 9 1 (.slice A n c) n (N.map encStr)) {j : Nat} (hj : j < n) (hN : N.length = n) : ∃ g, A = some ⟨g, 0, none⟩ ∧ w.cell? ⟨g, j, none⟩ = some (encStr (N[j]'(by omega))) := by
  obtain ⟨g, cap, hg, _⟩ := World.ownsRow.form h (by omega)
  obtain ⟨rfl, _, rfl⟩ := Value.slice.inj hg
  refine ⟨g, rfl, ?_⟩
  rw [World.ownsRow.cellAt h j (by omega), List.getElem?_map, List.getElem?_eq_getElem (by omega)]
  rfl
theorem own_slice8 {w : World} {base e size n : Nat} {v : Value} {xs : List Value} (h : w.ownsRow base e size v n xs) : ∃ A c, v = .slice A n c := by
  rcases h.2 with ⟨rfl, h0⟩ | ⟨g, cap, cur, rfl, _⟩
  · exact ⟨none, 0, by rw [h0]⟩
  · exact ⟨_, _, rfl⟩
theorem own_below8 {w w' : World} {base e size n : Nat} {v : Value} {xs : List Value} (h : w.ownsRow base e size v n xs) (hb : Below w.heap.size w w') : w'.ownsRow base e size v n xs :=
  h.kept (row := none) ⟨hb.os, hb.tape, hb.output, hb.size, fun k hk _ => hb.block k hk⟩ (Classical.em _)
set_option maxRecDepth 100000 in
set_option maxHeartbeats 4000000 in
theorem all_out {W : World} {A0 : Option Addr} {c0 : Nat} {l0 : List S30} (hr0 : Kd.C k30 W A0 l0.length l0) (hc0 : l0.length ≤ c0) {kf : Nat} (hf : souffleurlaw08_few.f kf l0 = some false) (hT : Lib.Utf8Tabs 0 1 W) :
    Calls Tryz.prog 3 #[.slice A0 l0.length c0] W fun e w' => e = .returned (.bool true) ∧ Below W.heap.size W w' := by
  have XF := Hd.mk (souffleurlaw08_few.calls kf A0 c0 l0 false W hr0 hc0 hf)
  have HR0 := Hd.mk hr0
  have HC0 := Hd.mk hc0
  have HTT := Hd.mk hT
  clear hr0 hc0 hf hT
  go_enter Tryz.func3, Tryz.ntmps3
  go_wp2_with fail
  go_at_call 6
  with_reducible refine (XF.out).mono ?_
  rintro _ w1 ⟨rfl, hb⟩
  have HB := Hd.mk hb
  clear hb XF
  go_wp2_with fail
  go_at_call 7
  have XS := alive_calls _ (Utf8Tabs_below HTT.out HB.out)
  with_reducible refine XS.mono ?_
  rintro _ we ⟨rfl, hb⟩
  have HE := Hd.mk (HB.out.trans (hb.mono HB.out.size))
  clear XS hb
  go_wp2
  go_ret
  exact ⟨rfl, HE.out⟩
set_option maxRecDepth 100000 in
set_option maxHeartbeats 4000000 in
theorem all_main {W : World} {A0 : Option Addr} {c0 : Nat} {l0 : List S30} (hr0 : Kd.C k30 W A0 l0.length l0) (hc0 : l0.length ≤ c0) {kf : Nat} (hf : souffleurlaw08_few.f kf l0 = some true) (hfew : FewP l0) (hT : Lib.Utf8Tabs 0 1 W) :
    Calls Tryz.prog 3 #[.slice A0 l0.length c0] W fun e w' => e = .returned (.bool true) ∧ Below W.heap.size W w' := by
  have XF := Hd.mk (souffleurlaw08_few.calls kf A0 c0 l0 true W hr0 hc0 hf)
  have HR0 := Hd.mk hr0
  have HC0 := Hd.mk hc0
  have HTT := Hd.mk hT
  have HFW := Hd.mk hfew
  clear hfew
  clear hr0 hc0 hf hT
  go_enter Tryz.func3, Tryz.ntmps3
  go_wp2_with fail
  go_at_call 6
  with_reducible refine (XF.out).mono ?_
  rintro _ w1 ⟨rfl, hb⟩
  have HB := Hd.mk hb
  clear hb XF
  go_upto_region 4 with (first
    | ((with_reducible refine gate_dst (N := 3) rfl ?_); refine box_event ?hg (N := 3) ?hd (cs := #[.map none]) (t := 27) ?hr ?_; (case hd => rfl); (case hg => rfl); (case hr => first | (go_simp; done) | (go_simp; rfl)); intro g3 hg wg3 hx hb; have HP : Hd (Pr W.heap.size wg3 g3 (.slice none 0 0) [] []) := ⟨Pr.start (show Blk wg3 g3 27 #[.map none] from hx) (hg ▸ HB.out.size)⟩; replace HB := Hd.mk (HB.out.trans (hb.mono HB.out.size)); clear hx hb hg))
  go_wp2
  go_loopg [4, 20] l0.length (fun kq v4 v20 w' => ∃ (j : Nat) (tt : List (ByteArray × ByteArray)) (l : List RP), j + kq = l0.length ∧ v20 = .int .i64 (j : Int) ∧ Hd (Pr W.heap.size w' g3 v4 tt l) ∧ Hd (Below W.heap.size W w'))
  case atStart => exact ⟨0, _, _, by omega, rfl, HP, HB⟩
  case round =>
    clear HP HB
    obtain ⟨j, tt, l, hj, rfl, HP, HB⟩ := hrel
    cases gk with
    | zero =>
      have hlt : decide ((j : Int) < (l0.length : Int)) = false := decide_eq_false (by omega)
      have hlt2 : decide (j < l0.length) = false := decide_eq_false (by omega)
      have hlt3 : ¬ j < l0.length := by omega
      clear hj
      go_wp2_with fail
      go_at_call 7
      have XS := alive_calls _ (Utf8Tabs_below HTT.out HB.out)
      with_reducible refine XS.mono ?_
      rintro _ we ⟨rfl, hb⟩
      have HE := Hd.mk (HB.out.trans (hb.mono HB.out.size))
      clear XS hb
      go_wp2
      go_ret
      exact ⟨rfl, HE.out⟩
    | succ d =>
      have hlt : decide ((j : Int) < (l0.length : Int)) = true := decide_eq_true (by omega)
      have hjl : j < l0.length := by omega
      obtain ⟨ad, e0, x0, x1, x2⟩ := at_T30 HR0.out (j : Int) (by omega) (by omega)
      rw [rd_get hjl] at x0 x1 x2
      rw [Int.toNat_natCast] at x0 x1 x2
      subst e0
      have hx6 := HFW.out.2 _ (List.getElem_mem hjl)
      generalize l0[j] = x at x0 x1 x2 hx6
      replace x0 := (HB.out.cell (World.block_lt_of_cell? W _ x0)).trans x0
      replace x1 := (HB.out.cell (World.block_lt_of_cell? W _ x1)).trans x1
      replace x2 := (HB.out.cell (World.block_lt_of_cell? W _ x2)).trans x2
      have HX1 : Hd (x.f1.size ≤ 4294967296) := ⟨by unfold szOf at hx6; omega⟩
      have HX2 : Hd (x.f2.size ≤ 4294967296) := ⟨by unfold szOf at hx6; omega⟩
      have hj100 : j ≤ 100 := by have := HFW.out.1; omega
      clear hx6
      have HPn := Hd.mk (HP.out.below (below_alloc (Below.refl _ _) (.cells #[.int .i64 x.f0, .string x.f1, .string x.f2] 30)))
      have HBn := Hd.mk (HB.out.trans ((below_alloc (Below.refl _ _) (.cells #[.int .i64 x.f0, .string x.f1, .string x.f2] 30)).mono HB.out.size))
      clear HP HB
      have HJ := Hd.mk hj
      clear hj
      go_wp2_with fail
      go_at_call 8
      have XS := does_calls HPn.out HBn.out.size x HX1.out HX2.out (Utf8Tabs_below HTT.out HBn.out)
      unfold opV at XS
      with_reducible refine XS.mono ?_
      clear XS
      rintro _ ws ⟨v', tt', l', rfl, hp, _, hb⟩
      obtain ⟨A', c', rfl, _, _⟩ := hp.value
      have HP := Hd.mk hp
      have HB := Hd.mk (HBn.out.trans hb)
      have HW := Hd.mk hp.well
      clear hp hb HPn HBn x0 x1 x2
      go_upto_region 10 with fail
      obtain ⟨PP, hts⟩ := HP.out.ts
      have XN := Hd.mk (names_ts hts)
      clear hts
      go_wp2_with fail
      go_at_call 9
      with_reducible refine (XN.out).mono ?_
      rintro _ wn ⟨⟨vn, rfl, hn⟩, _, hb⟩
      replace HP := Hd.mk (HP.out.below hb)
      replace HB := Hd.mk (HB.out.trans (hb.mono HB.out.size))
      obtain ⟨An, cn, rfl⟩ := own_slice8 hn
      rw [← HW.out.2.1.length] at hn ⊢
      have HN := Hd.mk hn
      clear hb hn XN
      have hz16 : (l'.length : Int) ≤ 16 := by have := HW.out.2.2; omega
      go_wp2
      go_loopg [43] l'.length (fun kq v43 w' => ∃ k : Nat, k + kq = l'.length ∧ v43 = .int .i64 (k : Int) ∧ Hd (Pr W.heap.size w' g3 (.slice A' l'.length c') tt' l') ∧ Hd (w'.ownsRow ws.heap.size 9 1 (.slice An l'.length cn) l'.length ((namesP tt').map encStr)) ∧ Hd (Below W.heap.size W w'))
      case atStart => exact ⟨0, by omega, rfl, HP, HN, HB⟩
      case round =>
        clear HP HN HB
        obtain ⟨k, hk, rfl, HP, HN, HB⟩ := hrel
        cases gk with
        | zero =>
          have ilt : decide ((k : Int) < (l'.length : Int)) = false := decide_eq_false (by omega)
          have ilt2 : decide (k < l'.length) = false := decide_eq_false (by omega)
          have ilt3 : ¬ k < l'.length := by omega
          clear hk
          go_wp2
          go_roundg d
          case measure => omega
          case rel => exact ⟨j + 1, tt', l', by have := HJ.out; omega, by go_num, HP, HB⟩
        | succ e =>
          have ilt : decide ((k : Int) < (l'.length : Int)) = true := decide_eq_true (by omega)
          have hkl : k < l'.length := by omega
          have ilt2 : decide (k < l'.length) = true := decide_eq_true hkl
          have hk0 : (0 : Int) ≤ (k : Int) := Int.natCast_nonneg k
          have HK := Hd.mk hk
          clear hk
          obtain ⟨gn, rfl, hnc⟩ := own_name8 HN.out hkl (by rw [HW.out.2.1.names, List.length_map])
          rw [names_at HW.out.2.1 hkl] at hnc
          have hgp := HW.out.2.1.at_ HW.out.1 hkl
          obtain ⟨A2, c2, e2, _, hC⟩ := HP.out.value
          obtain ⟨rfl, _, rfl⟩ := Value.slice.inj e2
          obtain ⟨ad2, e1, y0, y1⟩ := Go.Proofs.YtbhiljaipikklaaGreatDoor.R.at_T37 hC (k : Int) (by omega) (by omega)
          rw [rdP hkl, Int.toNat_natCast] at y0 y1
          subst e1
          generalize l'[k] = y at hnc hgp y0 y1
          obtain ⟨y0', y1'⟩ := y
          dsimp only at hnc hgp y0 y1
          have HPn := Hd.mk (HP.out.below (below_alloc (Below.refl _ _) (.cells #[.string y0', .string y1'] 37)))
          have HNn := Hd.mk (own_below8 HN.out (below_alloc (Below.refl _ _) (.cells #[.string y0', .string y1'] 37)))
          have HBn := Hd.mk (HB.out.trans ((below_alloc (Below.refl _ _) (.cells #[.string y0', .string y1'] 37)).mono HB.out.size))
          have BX := Hd.mk (Blk.new wr 37 #[.string y0', .string y1'])
          have HNC := Hd.mk hnc
          clear HP HN HB hC
          obtain ⟨PP2, hts2⟩ := HPn.out.ts
          have XGt := Hd.mk (get_ts hts2 y0')
          rw [hgp] at XGt
          clear hts2 hgp
          go_wp2_with fail
          go_at_call 10
          with_reducible refine (XGt.out).mono ?_
          rintro _ wq ⟨rfl, _, hb⟩
          have HPq := Hd.mk (HPn.out.below hb)
          have HNq := Hd.mk (own_below8 HNn.out hb)
          have HBq := Hd.mk (HBn.out.trans (hb.mono HBn.out.size))
          have BXq := Hd.mk (Blk.belowW BX.out hb)
          have z0 := BXq.out.cell 0 rfl
          have z1 := BXq.out.cell 1 rfl
          have hnq : wq.cell? ⟨gn, k, none⟩ = some (.string y0') := (hb.cell (World.block_lt_of_cell? _ _ ((below_alloc (Below.refl _ _) _).cell (World.block_lt_of_cell? _ _ HNC.out) |>.trans HNC.out))).trans ((below_alloc (Below.refl _ _) _).cell (World.block_lt_of_cell? _ _ HNC.out) |>.trans HNC.out)
          clear hb XGt HPn HNn HBn BX hnc
          have HNQ := Hd.mk hnq
          generalize wr.heap.size = g11 at *
          go_upto_region 17 with fail
          rename_i KQ hKQ
          refine regionH (fun w' : World => w'.cell? ⟨gn, k, none⟩ = some (.string y0') ∧ w'.cell? ⟨g11, 0, none⟩ = some (.string y0') ∧ w'.cell? ⟨g11, 1, none⟩ = some (.string y1')) (by kernel_rfl) (fun wd hb => ?_)
          replace HPq := Hd.mk (HPq.out.below hb)
          replace HNq := Hd.mk (own_below8 HNq.out hb)
          replace HBq := Hd.mk (HBq.out.trans (hb.mono HBq.out.size))
          replace BXq := Hd.mk (Blk.belowW BXq.out hb)
          have hHd : (fun w' : World => w'.cell? ⟨gn, k, none⟩ = some (.string y0') ∧ w'.cell? ⟨g11, 0, none⟩ = some (.string y0') ∧ w'.cell? ⟨g11, 1, none⟩ = some (.string y1')) wd := ⟨(hb.cell (World.block_lt_of_cell? _ _ HNQ.out)).trans HNQ.out, BXq.out.cell 0 rfl, BXq.out.cell 1 rfl⟩
          clear hb z0 z1 hnq HNQ
          refine takeH (i := 0) (v := ?v1) rfl (by kernel_rfl) (by kernel_rfl) (by kernel_rfl) (fun _ _ _ h => h) (Or.inl ⟨by rfl, ?hy1⟩) (by assumption) ?rest1
          case hy1 => (intro w hSw; (try dsimp only at hSw); go_simp; try (with_reducible rfl))
          case rest1 =>
          try simp only [Act.put, List.setIfInBounds_toArray, List.set_cons_zero, List.set_cons_succ]
          refine takeH (i := 1) (v := ?v2) rfl (by kernel_rfl) (by kernel_rfl) (by kernel_rfl) (fun _ _ _ h => h) (Or.inl ⟨by rfl, ?hy2⟩) (by assumption) ?rest2
          case hy2 => (intro w hSw; (try dsimp only at hSw); go_simp; try (with_reducible rfl))
          case rest2 =>
          try simp only [Act.put, List.setIfInBounds_toArray, List.set_cons_zero, List.set_cons_succ]
          refine takeH (i := 2) (v := ?v3) rfl (by kernel_rfl) (by kernel_rfl) (by kernel_rfl) (fun _ _ _ h => h) (Or.inl ⟨by rfl, ?hy3⟩) (by assumption) ?rest3
          case hy3 => (intro w hSw; (try dsimp only at hSw); go_simp; try (with_reducible rfl))
          case rest3 =>
          try simp only [Act.put, List.setIfInBounds_toArray, List.set_cons_zero, List.set_cons_succ]
          refine takeH (i := 3) (v := ?v4) rfl (by kernel_rfl) (by kernel_rfl) (by kernel_rfl) (fun _ _ _ h => h) (Or.inl ⟨by rfl, ?hy4⟩) (by assumption) ?rest4
          case hy4 => (intro w hSw; (try dsimp only at hSw); go_simp; try (with_reducible rfl))
          case rest4 =>
          try simp only [Act.put, List.setIfInBounds_toArray, List.set_cons_zero, List.set_cons_succ]
          refine takeH (i := 4) (v := ?v5) rfl (by kernel_rfl) (by kernel_rfl) (by kernel_rfl) (fun _ _ _ h => h) (Or.inl ⟨by rfl, ?hy5⟩) (by assumption) ?rest5
          case hy5 => (intro w hSw; (try dsimp only at hSw); go_simp; try (with_reducible rfl))
          case rest5 =>
          try simp only [Act.put, List.setIfInBounds_toArray, List.set_cons_zero, List.set_cons_succ]
          refine takeH (i := 5) (v := ?v6) rfl (by kernel_rfl) (by kernel_rfl) (by kernel_rfl) (fun _ _ _ h => h) (Or.inl ⟨by rfl, ?hy6⟩) (by assumption) ?rest6
          case hy6 => (intro w hSw; (try dsimp only at hSw); go_simp; try (with_reducible rfl))
          case rest6 =>
          try simp only [Act.put, List.setIfInBounds_toArray, List.set_cons_zero, List.set_cons_succ]
          refine takeH (i := 6) (v := ?v7) rfl (by kernel_rfl) (by kernel_rfl) (by kernel_rfl) (fun _ _ _ h => h) (Or.inl ⟨by rfl, ?hy7⟩) (by assumption) ?rest7
          case hy7 => (intro w hSw; (try dsimp only at hSw); go_simp; try (with_reducible rfl))
          case rest7 =>
          try simp only [Act.put, List.setIfInBounds_toArray, List.set_cons_zero, List.set_cons_succ]
          refine takeH (i := 7) (v := ?v8) rfl (by kernel_rfl) (by kernel_rfl) (by kernel_rfl) (fun _ _ _ h => h) (Or.inl ⟨by rfl, ?hy8⟩) (by assumption) ?rest8
          case hy8 => (intro w hSw; (try dsimp only at hSw); go_simp; try (with_reducible rfl))
          case rest8 =>
          try simp only [Act.put, List.setIfInBounds_toArray, List.set_cons_zero, List.set_cons_succ]
          refine takeH (i := 8) (v := ?v9) rfl (by kernel_rfl) (by kernel_rfl) (by kernel_rfl) (fun _ _ _ h => h) (Or.inl ⟨by rfl, ?hy9⟩) (by assumption) ?rest9
          case hy9 => (intro w hSw; (try dsimp only at hSw); go_simp; try (with_reducible rfl))
          case rest9 =>
          try simp only [Act.put, List.setIfInBounds_toArray, List.set_cons_zero, List.set_cons_succ]
          refine takeH (i := 9) (v := ?v10) rfl (by kernel_rfl) (by kernel_rfl) (by kernel_rfl) (fun _ _ _ h => h) (Or.inl ⟨by rfl, ?hy10⟩) (by assumption) ?rest10
          case hy10 => (intro w hSw; (try dsimp only at hSw); go_simp; try (with_reducible rfl))
          case rest10 =>
          try simp only [Act.put, List.setIfInBounds_toArray, List.set_cons_zero, List.set_cons_succ]
          refine takeH (i := 10) (v := ?v11) rfl (by kernel_rfl) (by kernel_rfl) (by kernel_rfl) (fun _ _ _ h => h) (Or.inl ⟨by rfl, ?hy11⟩) (by assumption) ?rest11
          case hy11 => (intro w hSw; (try dsimp only at hSw); go_simp; try (with_reducible rfl))
          case rest11 =>
          try simp only [Act.put, List.setIfInBounds_toArray, List.set_cons_zero, List.set_cons_succ]
          refine takeH (i := 11) (v := ?v12) rfl (by kernel_rfl) (by kernel_rfl) (by kernel_rfl) (fun _ _ _ h => h) (Or.inl ⟨by rfl, ?hy12⟩) (by assumption) ?rest12
          case hy12 => (intro w hSw; (try dsimp only at hSw); go_simp; try (with_reducible rfl))
          case rest12 =>
          try simp only [Act.put, List.setIfInBounds_toArray, List.set_cons_zero, List.set_cons_succ]
          refine takeH (i := 12) (v := ?v13) rfl (by kernel_rfl) (by kernel_rfl) (by kernel_rfl) (fun _ _ _ h => h) (Or.inl ⟨by rfl, ?hy13⟩) (by assumption) ?rest13
          case hy13 => (intro w hSw; (try dsimp only at hSw); go_simp; try (with_reducible rfl))
          case rest13 =>
          try simp only [Act.put, List.setIfInBounds_toArray, List.set_cons_zero, List.set_cons_succ]
          refine takeH (i := 13) (v := ?v14) rfl (by kernel_rfl) (by kernel_rfl) (by kernel_rfl) (fun _ _ _ h => h) (Or.inl ⟨by rfl, ?hy14⟩) (by assumption) ?rest14
          case hy14 => (intro w hSw; (try dsimp only at hSw); go_simp; try (with_reducible rfl))
          case rest14 =>
          try simp only [Act.put, List.setIfInBounds_toArray, List.set_cons_zero, List.set_cons_succ]
          refine takeH (i := 14) (v := ?v15) rfl (by kernel_rfl) (by kernel_rfl) (by kernel_rfl) (fun _ _ _ h => h) (Or.inl ⟨by rfl, ?hy15⟩) (by assumption) ?rest15
          case hy15 => (intro w hSw; (try dsimp only at hSw); go_simp; try (with_reducible rfl))
          case rest15 =>
          try simp only [Act.put, List.setIfInBounds_toArray, List.set_cons_zero, List.set_cons_succ]
          refine takeH (i := 15) (v := ?v16) rfl (by kernel_rfl) (by kernel_rfl) (by kernel_rfl) (fun _ _ _ h => h) (Or.inl ⟨by rfl, ?hy16⟩) (by assumption) ?rest16
          case hy16 => (intro w hSw; (try dsimp only at hSw); go_simp; try (with_reducible rfl))
          case rest16 =>
          try simp only [Act.put, List.setIfInBounds_toArray, List.set_cons_zero, List.set_cons_succ]
          refine takeH (i := 16) (v := ?v17) rfl (by kernel_rfl) (by kernel_rfl) (by kernel_rfl) (fun _ _ _ h => h) (Or.inl ⟨by rfl, ?hy17⟩) (by assumption) ?rest17
          case hy17 => (intro w hSw; (try dsimp only at hSw); go_simp; try (with_reducible rfl))
          case rest17 =>
          try simp only [Act.put, List.setIfInBounds_toArray, List.set_cons_zero, List.set_cons_succ]
          refine wpAnyH_done (by kernel_rfl) ?_ _
          refine hKQ _ _ ?_
          clear hHd
          go_wp2
          go_roundg e
          case measure => omega
          case rel => exact ⟨k + 1, by have := HK.out; omega, by go_num, HPq, HNq, HBq⟩
theorem abbrAll_walk {W : World} {A0 : Option Addr} {c0 : Nat} {l0 : List S30} (hc0 : l0.length ≤ c0) (hr0 : Kd.C k30 W A0 l0.length l0) (hs : l0.length * Tryz.prog.bytesOf 30 ≤ reachBytes ∧ ∀ x ∈ l0, SizedS x) (hT : Lib.Utf8Tabs 0 1 W) :
    Calls Tryz.prog 3 #[.slice A0 l0.length c0] W fun e w' => e = .returned (.bool true) ∧ Below W.heap.size W w' := by
  obtain ⟨kf, r, hf, hr⟩ := few_few hr0 hs
  cases r with
  | false => exact all_out hr0 hc0 hf hT
  | true => exact all_main hr0 hc0 hf (hr rfl) hT
end Go.Proofs.YtbhiljaipikklaaGreatDoorL

