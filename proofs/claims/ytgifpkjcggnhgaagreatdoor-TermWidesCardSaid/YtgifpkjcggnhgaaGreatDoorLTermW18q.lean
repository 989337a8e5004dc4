/- Parts of the proof of the law that the last file states; declarations that nothing mentions are left out by a program. No conditions. -/
import Derived.Test.YtgifpkjcggnhgaaGreatDoorLTermW17q
set_option linter.unusedVariables false
set_option linter.unusedSimpArgs false
namespace Go.Proofs.YtgifpkjcggnhgaaGreatDoorL
open Go Go.RowKit Go.Proofs.YtgifpkjcggnhgaaGreatDoorW.PrintWords
def Pb (P : Nat → Prop) (w w1 : World) (k : Nat) : Prop := (P k ∧ k < w.heap.size) ∨ w1.heap.size ≤ k
theorem TermAt.pb {P : Nat → Prop} {w w1 : World} {T : Nat} {s : Tm} (h : TermAt P w T s) (hb : Below w.heap.size w w1) : TermAt (Pb P w w1) w1 T s := (h.bound.below hb).mono (fun k hk => .inl hk)
theorem Pb.to {P : Nat → Prop} {w w1 : World} (hP : ∀ k, w.heap.size ≤ k → P k) (hs : w.heap.size ≤ w1.heap.size) {k : Nat} (h : Pb P w w1 k) : P k := by
  rcases h with h | h
  · exact h.1
  · exact hP k (by omega)
theorem run_cells {w : World} {base n : Nat} {v : Value} {l : List Nat} (h : w.ownsRow base 21 1 v n (runeCells l)) (hn : n = l.length) : ∃ A c, v = .slice A l.length c ∧ ∃ g : Nat, (0 < l.length → A = some ⟨g, 0, none⟩ ∧ base ≤ g ∧ g < w.heap.size) ∧ ∀ i (hi : i < l.length), w.cell? ⟨g, 0 + i, none⟩ = some (.int .i32 (l[i] : Int)) := by
  subst hn
  rcases h.2 with ⟨rfl, h0⟩ | ⟨g, cap, cur, rfl, hb, hh, hnc, hcm, hcs, ht⟩
  · exact ⟨none, 0, by rw [h0], 0, fun hp => by omega, fun i hi => by omega⟩
  · refine ⟨some ⟨g, 0, none⟩, cap, rfl, g, fun _ => ⟨rfl, hb, (Array.getElem?_eq_some_iff.1 hh).1⟩, fun i hi => ?_⟩
    have := h.cells (g := g) rfl i (.int .i32 (l[i] : Int)) (by unfold runeCells; rw [List.getElem?_map, List.getElem?_eq_getElem hi]; rfl)
    rw [Addr.add_lit_] at this
    exact this
set_option maxRecDepth 100000 in
set_option maxHeartbeats 4000000 in
theorem byte_flush {P : Nat → Prop} {w : World} {T M : Nat} {s : Tm} (h : TermAt P w T s) (hok : OKT M s) (hwt : Waits s) (hM : M + 64 ≤ 900000) (hP : ∀ k, w.heap.size ≤ k → P k) (hT : TabsT w) (hO : OutT P) (x : UInt8) (hi : (s.inn = 0 ∧ x.toNat < 128) ∨ x.toNat = 27) :
    Calls Tryz.prog 29 #[.pointer (some ⟨T, 0, none⟩), .int .u8 (x.toNat : Int)] w fun e w' => e = .returned (.tuple #[]) ∧ TermAt P w' T (s.byte x) ∧ Only P w w' := by
  have HS : Hd (s.byte x = Tm.plain { s.signs (runesL s.b) with b := [] } x.toNat) := ⟨by unfold Tm.byte; rw [if_neg (by omega), if_pos (by omega)]⟩
  rw [HS.out]
  have hbl := hok.b
  have hrl := runesL_le s.b
  have HKS := Hd.mk (OKT.signs (runesL s.b) _ _ hok)
  have HK2 : Hd (OKT (M + 4 * (runesL s.b).length) { s.signs (runesL s.b) with b := [] }) := ⟨HKS.out.setB (l := []) (by simp)⟩
  have HSB : Hd (OKT M s) := ⟨hok⟩
  have H0 := Hd.mk h
  have HP := Hd.mk hP
  obtain ⟨lv, gv, bv, L, G, h1⟩ := h
  have t8 := h1.all.1.2.2.2.2.2.2.2.2.1
  have t10 := h1.all.1.2.2.2.2.2.2.2.2.2.2
  have hcv := q_text h1.qb
  obtain ⟨A, c, rfl, hcap, _, _⟩ := q_bytes h1.qb
  have XR := Hd.mk (runes_calls ⟨s.b.toArray⟩ (by show s.b.toArray.size ≤ _; rw [List.size_toArray]; omega) w hcv)
  rw [show (⟨s.b.toArray⟩ : ByteArray).data.toList = s.b from rfl] at XR
  have hi2 : (s.inn : Int) = 0 ∨ (¬ (s.inn : Int) = 0 ∧ x.toNat = 27) := by omega
  have hx128 : x.toNat < 128 := by omega
  have HIN := Hd.mk hi2
  clear hP hT hO hwt hcv h1 hok hi hi2 hcap
  have HMM := Hd.mk hM
  clear hM
  generalize x.toNat = x at *
  obtain ⟨rs, hrs⟩ : ∃ rs, runesL s.b = rs := ⟨_, rfl⟩
  rw [hrs] at XR HKS HK2 hrl
  rw [hrs]
  clear hrs
  have HRL : Hd (rs.length ≤ 4) := ⟨by omega⟩
  rcases HIN.out with hz | ⟨hz, h27⟩
  · rw [hz] at t8
    have jg128 : decide ((128 : Int) ≤ (x : Int)) = false := by simp; omega
    have ig128 : decide (128 ≤ x) = false := by simp; omega
    clear hz HIN hbl hrl
    go_enter Tryz.func29, Tryz.ntmps29
    go_wp2_with fail
    go_at_call 38
    with_reducible refine XR.out.mono ?_
    rintro _ w1 ⟨v, rfl, hown, hb⟩
    obtain ⟨A1, c1, rfl, g1, hg1, hc1⟩ := run_cells hown rfl
    have HT1 := Hd.mk (H0.out.pb hb)
    have XS := Hd.mk (signs_calls HT1.out HSB.out rs (by have h1 := HRL.out; have h2 := HMM.out; omega) (fun k hk => .inr hk) (c := c1) (g := g1) (o := 0) (fun hp => ⟨(hg1 hp).1, fun hn => by
      have h2 := (hg1 hp).2
      rcases hn with hn | hn
      · omega
      · omega⟩) hc1)
    have HB1 := Hd.mk hb
    clear hown hb hg1 hc1 XR HT1 t8 t10
    go_wp2_with fail
    go_at_call 37
    with_reducible refine XS.out.mono ?_
    rintro _ w2 ⟨rfl, ht, ho⟩
    have HT2 := Hd.mk (ht.mono (fun k hk => hk.to HP.out HB1.out.size))
    have HO2 := Hd.mk ((Only.of_below (F := P) HB1.out).trans (ho.mono (fun k _ hk => hk.to HP.out HB1.out.size)) (fun _ _ h => h))
    clear ht ho XS HB1
    obtain ⟨lv2, gv2, bv2, L2, G2, h2⟩ := HT2.out
    have H3 := Hd.mk (h2.setB (w1 := w2) (v := .slice none 0 0) (l := []) (fun _ _ _ => rfl) (Kd.Q_nil _ _ _ _ _)).at_
    have HO3 := Hd.mk (HO2.out.setCell (p := ⟨T, 10, none⟩) (.inl h2.pt) (.slice none 0 0))
    have t10 := h2.all.1.2.2.2.2.2.2.2.2.2.2
    have tf := h2.all.2
    have XP := Hd.mk (plain_calls H3.out HK2.out (by have h1 := HRL.out; have h2 := HMM.out; omega) (fun k hk => HP.out k (by have := HO2.out.size; simp at hk; omega)) x hx128)
    clear h2 HT2 HO2 H3
    go_wp2_with fail
    go_at_call 39
    with_reducible refine XP.out.mono ?_
    rintro _ w4 ⟨rfl, ht, ho⟩
    have HT4 := Hd.mk ht
    have HO4 := Hd.mk (HO3.out.trans ho (fun _ _ h => h))
    clear ht ho XP HO3
    go_wp2_with fail
    go_end0
    exact ⟨rfl, HT4.out, HO4.out⟩
  · subst h27
    have z1 : ((s.inn : Int) == 0) = false := by simp; omega
    have z2 : decide ((s.inn : Int) = 0) = false := by simp; omega
    have z3 : decide (s.inn = 0) = false := by simp; omega
    clear hz HIN hbl hrl
    go_enter Tryz.func29, Tryz.ntmps29
    go_wp2_with fail
    go_at_call 38
    with_reducible refine XR.out.mono ?_
    rintro _ w1 ⟨v, rfl, hown, hb⟩
    obtain ⟨A1, c1, rfl, g1, hg1, hc1⟩ := run_cells hown rfl
    have HT1 := Hd.mk (H0.out.pb hb)
    have XS := Hd.mk (signs_calls HT1.out HSB.out rs (by have h1 := HRL.out; have h2 := HMM.out; omega) (fun k hk => .inr hk) (c := c1) (g := g1) (o := 0) (fun hp => ⟨(hg1 hp).1, fun hn => by
      have h2 := (hg1 hp).2
      rcases hn with hn | hn
      · omega
      · omega⟩) hc1)
    have HB1 := Hd.mk hb
    clear hown hb hg1 hc1 XR HT1 t8 t10
    go_wp2_with fail
    go_at_call 37
    with_reducible refine XS.out.mono ?_
    rintro _ w2 ⟨rfl, ht, ho⟩
    have HT2 := Hd.mk (ht.mono (fun k hk => hk.to HP.out HB1.out.size))
    have HO2 := Hd.mk ((Only.of_below (F := P) HB1.out).trans (ho.mono (fun k _ hk => hk.to HP.out HB1.out.size)) (fun _ _ h => h))
    clear ht ho XS HB1
    obtain ⟨lv2, gv2, bv2, L2, G2, h2⟩ := HT2.out
    have H3 := Hd.mk (h2.setB (w1 := w2) (v := .slice none 0 0) (l := []) (fun _ _ _ => rfl) (Kd.Q_nil _ _ _ _ _)).at_
    have HO3 := Hd.mk (HO2.out.setCell (p := ⟨T, 10, none⟩) (.inl h2.pt) (.slice none 0 0))
    have t10 := h2.all.1.2.2.2.2.2.2.2.2.2.2
    have tf := h2.all.2
    have XP := Hd.mk (plain_calls H3.out HK2.out (by have h1 := HRL.out; have h2 := HMM.out; omega) (fun k hk => HP.out k (by have := HO2.out.size; simp at hk; omega)) 27 (by omega))
    rw [show ((27 : Nat) : Int) = 27 from rfl] at XP
    clear h2 HT2 HO2 H3
    go_wp2_with fail
    go_at_call 39
    with_reducible refine XP.out.mono ?_
    rintro _ w4 ⟨rfl, ht, ho⟩
    have HT4 := Hd.mk ht
    have HO4 := Hd.mk (HO3.out.trans ho (fun _ _ h => h))
    clear ht ho XP HO3
    go_wp2_with fail
    go_end0
    exact ⟨rfl, HT4.out, HO4.out⟩
theorem infoU8z : (Tryz.prog.info? 5).map (fun i => (i.zero, i.size, i.bytes)) = some (some (.int .u8 0), (Kd.int .u8).sz, 1) := by kernel_rfl
theorem nb_append (l : List UInt8) (x : UInt8) : nbL l ++ [(x.toNat : Int)] = nbL (l ++ [x]) := by unfold nbL; rw [List.map_append]; rfl
theorem nb_drop (l : List UInt8) (n : Nat) : (nbL l).drop n = nbL (l.drop n) := by unfold nbL; rw [List.map_drop]
theorem drain_stop {n : Nat} {t : Tm} (h : wholeL t.b = false) : drainT (n + 1) t = t := by unfold drainT; rw [if_neg (by rw [h]; simp)]
theorem drain_step {n : Nat} {t : Tm} (h : wholeL t.b = true) : drainT (n + 1) t = drainT n { t.sign ((Lib.decodeL (t.b.take 4)).1 : Int) with b := t.b.drop (Lib.decodeL (t.b.take 4)).2 } := by rw [drainT, if_pos h]
set_option maxRecDepth 100000 in
set_option maxHeartbeats 4000000 in
theorem byte_high {P : Nat → Prop} {w : World} {T M : Nat} {s : Tm} (h : TermAt P w T s) (hok : OKT M s) (hwt : Waits s) (hM : M + 64 ≤ 900000) (hP : ∀ k, w.heap.size ≤ k → P k) (hT : TabsT w) (hO : OutT P) (x : UInt8) (hi : s.inn = 0) (hx : 128 ≤ x.toNat) :
    Calls Tryz.prog 29 #[.pointer (some ⟨T, 0, none⟩), .int .u8 (x.toNat : Int)] w fun e w' => e = .returned (.tuple #[]) ∧ TermAt P w' T (s.byte x) ∧ Only P w w' := by
  obtain ⟨R, hR⟩ : ∃ R, drainT (s.b.length + 2) { s with b := s.b ++ [x] } = R := ⟨_, rfl⟩
  have HS : Hd (s.byte x = R) := ⟨by unfold Tm.byte; rw [if_pos ⟨hi, hx⟩]; exact hR⟩
  rw [HS.out]
  have HR := Hd.mk hR
  have hbl := whole_false hwt
  have HP := Hd.mk hP
  have HMM := Hd.mk hM
  have HK0 := Hd.mk (hok.setB (l := s.b ++ [x]) (by rw [List.length_append, List.length_singleton]; omega))
  obtain ⟨lv, gv, bv, L, G, h1⟩ := h
  have t8 := h1.all.1.2.2.2.2.2.2.2.2.1
  have t10 := h1.all.1.2.2.2.2.2.2.2.2.2.2
  rw [hi] at t8
  have hnb := nb_append s.b x
  have H1 := Hd.mk h1
  have HA := Hd.mk h1.apart
  have HBL : Hd (s.b.length ≤ 3) := ⟨hbl⟩
  clear hR h1 hok hwt hM hP hT hO hi HS
  obtain ⟨xn, hxn⟩ : ∃ xn, x.toNat = xn := ⟨_, rfl⟩
  rw [hxn] at hx hnb ⊢
  have HXN := Hd.mk hxn
  clear hxn
  have jg128 : decide ((128 : Int) ≤ (xn : Int)) = true := by simp; omega
  have ig128 : decide (128 ≤ xn) = true := by simp; omega
  clear hx
  go_enter Tryz.func29, Tryz.ntmps29
  go_wp2_with (at_builtin; refine Kd.Q_append (Kd.int .u8) (w0 := w) (W := w) 0 rfl (.tmp 45) (.tmp 47) 34 5 (.int .u8 0) 1 rfl Tryz.underlying34 infoU8z rfl (by decide) (by omega) bv (nbL s.b) (xn : Int) [.int .u8 (xn : Int)] P (fun _ => False) rfl rfl rfl (fun _ hk => hk.elim) (fun k hk => HP.out k hk) H1.out.qb (Below.refl _ _) (Nat.zero_le _) (by rw [nb_len]; have := HBL.out; omega) ?_; intro v1 w1 hq_ hb_ hg_ ha_; rw [hnb] at hq_; obtain ⟨A1, c1, rfl, hcap1⟩ := Kd.Q_slice hq_; have t10' := cell_grown hg_ t10 (fun e => HA.out.2.2.1 e.symm); have tf' : w1.frozen? ⟨T, 10, none⟩ = false := (H1.out.b.to (hg_.block T H1.out.b.lt (fun e => HA.out.2.2.1 e.symm))).frozen 10)
  have HQ := Hd.mk hq_
  have HOg : Hd (Only P w w1) := ⟨(Only.refl P w).grown hg_ (fun g e => by
    have := H1.out.qb.1 g e
    exact .inl this)⟩
  have HT2 := Hd.mk (H1.out.setB (w1 := w1) (fun k hk hne => hg_.block k hk (fun e => hne e.symm)) hq_).at_
  have HO2 := Hd.mk (HOg.out.setCell (p := ⟨T, 10, none⟩) (.inl H1.out.pt) (.slice A1 (nbL (s.b ++ [x])).length c1))
  have HBL2 : Hd ((s.b ++ [x]).length < s.b.length + 2) := ⟨by rw [List.length_append, List.length_singleton]; omega⟩
  clear hq_ hb_ hg_ ha_ t10' tf' t8 t10 HOg HQ hcap1 hnb HA H1
  go_loopg [] (s.b.length + 2) (fun gk wx => ∃ (t : Tm) (m : Nat), Hd (t.b.length < gk ∧ m + 4 * gk ≤ M + 64) ∧ Hd (drainT gk t = R) ∧ Hd (OKT m t) ∧ Hd (TermAt P wx T t) ∧ Hd (Only P w wx))
  case atStart => exact ⟨_, M, ⟨HBL2.out, by have := HBL.out; omega⟩, HR, HK0, HT2, HO2⟩
  case round =>
    clear HBL2 HR HK0 HT2 HO2
    obtain ⟨t, m, HJ, HR, HK0, HT2, HO2⟩ := hrel
    obtain ⟨d, rfl⟩ : ∃ d, gk = d + 1 := ⟨gk - 1, by have := HJ.out; omega⟩
    have hb4 := HK0.out.b
    obtain ⟨lv2, gv2, bv2, L2, G2, h2⟩ := HT2.out
    obtain ⟨A2, c2, rfl, hcap2, hC2, hne⟩ := q_bytes h2.qb
    have t10 := h2.all.1.2.2.2.2.2.2.2.2.2.2
    have XW := Hd.mk (whole_calls t.b (by omega) wr hC2 hcap2)
    have HCP := Hd.mk hcap2
    clear h2 hC2 hcap2
    cases hw : wholeL t.b with
    | false =>
      have HE : Hd (t = R) := ⟨by rw [← HR.out, drain_stop hw]⟩
      rw [hw] at XW
      clear hne hw hb4 HCP
      go_wp2_with fail
      go_at_call 34
      with_reducible refine XW.out.mono ?_
      rintro _ w3 ⟨rfl, hb⟩
      have HT3 := Hd.mk (HT2.out.below hb)
      have HO3 := Hd.mk (HO2.out.below hb)
      clear hb HT2 HO2 XW
      go_wp2_with fail
      go_end0
      exact ⟨rfl, by rw [← HE.out]; exact HT3.out, HO3.out⟩
    | true =>
      rw [hw] at XW
      have hne2 : t.b ≠ [] := by
        intro e
        rw [e] at hw
        cases hw
      have hpos := List.length_pos_iff.2 hne2
      have hlen1 : (1 : Int) ≤ (t.b.length : Int) := by omega
      obtain ⟨g, o, rfl, hPg, hcell⟩ := hne hne2
      have HCL := Hd.mk hcell
      have HR2 := Hd.mk (drain_step (n := d) hw)
      clear hne hw hcell hPg
      have hwd := Lib.decodeL_width (t.b.take 4)
      have hwn : (Lib.decodeL (t.b.take 4)).2 ≤ t.b.length := by
        have := Lib.decodeL_le (t.b.take 4) (by intro h; have h2 := congrArg List.length h; rw [List.length_take, List.length_nil] at h2; omega)
        have h2 := List.length_take (i := 4) (l := t.b)
        omega
      have XN := Hd.mk (fun w9 (hb : Below wr.heap.size wr w9) => next_calls t.b (g := g) (o := o) (c := c2) ⟨by omega, by omega⟩ HCP.out w9 (fun i hi => cell_move (HCL.out i hi) (hb.block _ (Lib.lt_of_cell (HCL.out i hi)))))
      have XS := Hd.mk (fun w9 (hb : Below wr.heap.size wr w9) => sign_calls (HT2.out.below hb) HK0.out (by have h1 := HJ.out; have h2 := HMM.out; omega) (fun k hk => HP.out k (Nat.le_trans HO2.out.size (Nat.le_trans hb.size hk))) ((Lib.decodeL (t.b.take 4)).1 : Int))
      have HK3 := Hd.mk (HK0.out.sign ((Lib.decodeL (t.b.take 4)).1 : Int))
      have HSK := Hd.mk (sign_keeps t ((Lib.decodeL (t.b.take 4)).1 : Int))
      obtain ⟨r, hr⟩ : ∃ r, (Lib.decodeL (t.b.take 4)).1 = r := ⟨_, rfl⟩
      obtain ⟨k, hk⟩ : ∃ k, (Lib.decodeL (t.b.take 4)).2 = k := ⟨_, rfl⟩
      rw [hk] at hwd hwn
      rw [hr] at XS HK3 HSK
      rw [hr, hk] at XN HR2
      clear hr hk HCL hne2 hpos
      obtain ⟨nb, hnb⟩ : ∃ nb, t.b.length = nb := ⟨_, rfl⟩
      have HNB := Hd.mk hnb
      rw [hnb] at t10 XN XW hwn hlen1 hb4 HCP
      clear hnb
      have hk0 : (0 : Int) ≤ (k : Int) := Int.natCast_nonneg _
      have hkn : (k : Int) ≤ (nb : Int) := by omega
      have hcn := HCP.out
      have hb5 : (nb : Int) ≤ 4 := by omega
      go_wp2_with fail
      go_at_call 34
      with_reducible refine XW.out.mono ?_
      rintro _ w3 ⟨rfl, hb⟩
      have t10' := cell_move t10 (hb.block _ (Lib.lt_of_cell t10))
      have HB3 := Hd.mk hb
      have XN2 := Hd.mk (XN.out _ hb)
      clear hb XW XN t10
      go_wp2_with fail
      go_at_call 35
      with_reducible refine XN2.out.mono ?_
      rintro _ w4 ⟨rfl, hb⟩
      have HB4 := Hd.mk (HB3.out.trans (hb.mono HB3.out.size))
      have XS2 := Hd.mk (XS.out _ HB4.out)
      clear hb XN2 XS HB3 t10'
      go_wp2_with fail
      go_at_call 36
      with_reducible refine XS2.out.mono ?_
      rintro _ w5 ⟨rfl, ht, ho⟩
      have HT5 := Hd.mk ht
      have HO5 := Hd.mk ((HO2.out.below HB4.out).trans ho (fun _ _ h => h))
      clear ht ho XS2 HB4 HO2 HT2
      obtain ⟨lv3, gv3, bv3, L3, G3, h3⟩ := HT5.out
      obtain ⟨A3, c3, rfl, hcap3, hC3, hne3⟩ := q_bytes h3.qb
      have hbt : (t.sign (r : Int)).b.length = nb := by rw [HSK.out.2.2.1]; exact HNB.out
      have HQD := Kd.Q_drop h3.qb (k := k) (by rw [nb_len, hbt]; exact hwn)
      rw [nb_drop, show (t.sign (r : Int)).b = t.b from HSK.out.2.2.1] at HQD
      have H4 := Hd.mk (h3.setB (w1 := w5) (fun _ _ _ => rfl) HQD)
      have HTp : Hd (P T) := ⟨h3.pt⟩
      have t10 := h3.all.1.2.2.2.2.2.2.2.2.2.2
      have tf := h3.all.2
      rw [hbt] at t10 hcap3
      rw [HNB.out] at H4
      clear h3 hC3 hne3 HT5 HQD
      have HK4 := Hd.mk (HK3.out.setB (l := t.b.drop k) (by rw [List.length_drop, HNB.out]; omega))
      have HLD : Hd ((t.b.drop k).length < d ∧ (m + 4) + 4 * d ≤ M + 64) := ⟨by rw [List.length_drop]; have := HJ.out; have := HNB.out; omega⟩
      have HR4 := Hd.mk (HR2.out.symm.trans HR.out)
      clear HR HR2 HK3 HSK
      by_cases hck : c3 = k
      · rw [if_pos hck, show c3 - k = 0 by omega] at H4
        go_wp2_with fail
        go_roundg d
        case measure => omega
        case rel => exact ⟨_, _, HLD, HR4, HK4, ⟨H4.out.at_⟩, ⟨HO5.out.setCell (p := ⟨T, 10, none⟩) (.inl HTp.out) _⟩⟩
      · rw [if_neg hck, show k * (Kd.int .u8).sz = k from Nat.mul_one k] at H4
        go_wp2_with fail
        go_roundg d
        case measure => omega
        case rel => exact ⟨_, _, HLD, HR4, HK4, ⟨H4.out.at_⟩, ⟨HO5.out.setCell (p := ⟨T, 10, none⟩) (.inl HTp.out) _⟩⟩
theorem byte_calls {P : Nat → Prop} {w : World} {T M : Nat} {s : Tm} (h : TermAt P w T s) (hok : OKT M s) (hwt : Waits s) (hM : M + 64 ≤ 900000) (hP : ∀ k, w.heap.size ≤ k → P k) (hT : TabsT w) (hO : OutT P) (x : UInt8) :
    Calls Tryz.prog 29 #[.pointer (some ⟨T, 0, none⟩), .int .u8 (x.toNat : Int)] w fun e w' => e = .returned (.tuple #[]) ∧ TermAt P w' T (s.byte x) ∧ Only P w w' := by
  have hi := hok.inn
  by_cases h27 : x.toNat = 27
  · exact byte_flush h hok hwt hM hP hT hO x (.inr h27)
  by_cases h0 : s.inn = 0
  · by_cases h128 : x.toNat < 128
    · exact byte_flush h hok hwt hM hP hT hO x (.inl ⟨h0, h128⟩)
    · exact byte_high h hok hwt hM hP hT hO x h0 (by omega)
  by_cases h1 : s.inn = 1
  · by_cases h91 : x.toNat = 91
    · exact byte_open h hok hwt hM hP hT hO x h1 h91
    · exact byte_drop1 h hok hwt hM hP hT hO x h1 ⟨h91, h27⟩
  have h2 : s.inn = 2 := by omega
  by_cases h32 : x.toNat < 32
  · exact byte_drop2 h hok hwt hM hP hT hO x h2 ⟨h32, h27⟩
  by_cases h64 : x.toNat < 64
  · by_cases hz : s.seq.size < 16
    · exact byte_seq_room h hok hwt hM hP hT hO x h2 ⟨by omega, h64⟩ hz
    · exact byte_seq_full h hok hwt hM hP hT hO x h2 ⟨by omega, h64⟩ hz
  by_cases h126 : 126 < x.toNat
  · exact byte_drop3 h hok hwt hM hP hT hO x h2 h126
  · exact byte_ends h hok hwt hM hP hT hO x h2 ⟨by omega, by omega⟩
theorem add_block (a : Addr) (n : Nat) : (a.add n).block = a.block := by unfold Addr.add; split <;> rfl
theorem cell_only2 {P : Nat → Prop} {w w' : World} {a : Addr} {v : Value} (h : w.cell? a = some v) (ho : Only P w w') (hg : ¬ P a.block) : w'.cell? a = some v := cell_move h (ho.block a.block (Lib.lt_of_cell h) hg)
theorem feed_cons (s : Tm) (x : UInt8) (l : List UInt8) : s.feed (x :: l) = (s.byte x).feed l := by unfold Tm.feed; rw [List.foldl_cons]
set_option maxRecDepth 100000 in
set_option maxHeartbeats 4000000 in
theorem feed_calls {P : Nat → Prop} {w : World} {T M : Nat} {s : Tm} (h : TermAt P w T s) (hok : OKT M s) (hwt : Waits s) (l : List UInt8) (hM : M + 32 * l.length + 64 ≤ 900000) (hP : ∀ k, w.heap.size ≤ k → P k) (hT : TabsT w) (hO : OutT P)
    {A : Option Addr} {c : Nat} {ad : Addr} (hA : 0 < l.length → A = some ad ∧ ¬ P ad.block) (hr : ∀ i (h : i < l.length), w.cell? (ad.add i) = some (.int .u8 ((l[i]).toNat : Int))) :
    Calls Tryz.prog 17 #[.pointer (some ⟨T, 0, none⟩), .slice A l.length c] w fun e w' => e = .returned (.tuple #[]) ∧ TermAt P w' T (s.feed l) ∧ Only P w w' := by
  obtain ⟨R, hR⟩ : ∃ R, s.feed l = R := ⟨_, rfl⟩
  rw [hR]
  have HR := Hd.mk hR
  have H0 := Hd.mk h
  have HK0 := Hd.mk (And.intro hok hwt)
  have HP := Hd.mk hP
  have HM := Hd.mk hM
  have HA := Hd.mk hA
  have HC := Hd.mk hr
  have HTB := Hd.mk hT
  have HOU := Hd.mk hO
  have q1 : l.length ≤ 900000 := by omega
  clear hR h hok hP hA hM hr hwt hT hO
  obtain ⟨n, hn⟩ : ∃ n, l.length = n := ⟨_, rfl⟩
  have HN := Hd.mk hn
  rw [hn] at q1 ⊢
  clear hn
  have q2 : (n : Int) ≤ 900000 := by omega
  go_enter Tryz.func17, Tryz.ntmps17
  go_wp2
  go_loopg [8] n (fun gk v8 wx => ∃ (j : Nat) (t : Tm), v8 = .int .i64 (j : Int) ∧ Hd (j + gk = n) ∧ Hd (t.feed (l.drop j) = R) ∧ Hd (OKT (M + 32 * j) t ∧ Waits t) ∧ Hd (TermAt P wx T t) ∧ Hd (Only P w wx))
  case atStart => exact ⟨0, s, rfl, ⟨by omega⟩, ⟨by simpa using HR.out⟩, HK0, H0, ⟨Only.refl _ _⟩⟩
  case round =>
    clear HR H0 HK0
    obtain ⟨j, t, rfl, HJ, HR, HK0, H0, HO⟩ := hrel
    have h1 := HJ.out
    by_cases hlt : j < n
    · obtain ⟨d, rfl⟩ : ∃ d, gk = d + 1 := ⟨gk - 1, by omega⟩
      have hjl : j < l.length := by rw [HN.out]; exact hlt
      obtain ⟨rfl, hg⟩ := HA.out (by omega)
      have hcell : wr.cell? (ad.add j) = some (.int .u8 ((l[j]).toNat : Int)) := cell_only2 (HC.out j hjl) HO.out (by rw [add_block]; exact hg)
      have XP := Hd.mk (byte_calls H0.out HK0.out.1 HK0.out.2 (by have := HM.out; omega) (fun k hk => HP.out k (Nat.le_trans HO.out.size hk)) (HTB.out.only HOU.out HO.out) HOU.out l[j])
      have HR2 : Hd ((t.byte l[j]).feed (l.drop (j + 1)) = R) := ⟨by rw [← feed_cons, ← List.drop_eq_getElem_cons hjl]; exact HR.out⟩
      have HK2 : Hd (OKT (M + 32 * (j + 1)) (t.byte l[j]) ∧ Waits (t.byte l[j])) := ⟨by have h9 := HK0.out.1.byte HK0.out.2 l[j]; exact ⟨h9.1.mono (by omega), h9.2⟩⟩
      generalize l[j] = r at *
      have l1 : decide ((j : Int) < (n : Int)) = true := decide_eq_true (by omega)
      have l2 : decide (j < n) = true := decide_eq_true hlt
      have l3 : (j : Int) < (n : Int) := by omega
      have l4 : (0 : Int) ≤ (j : Int) := by omega
      clear HJ HR HK0 H0 HA HC hg hjl HTB
      go_wp2_with fail
      go_at_call 29
      with_reducible refine XP.out.mono ?_
      rintro _ w2 ⟨rfl, ht, ho⟩
      have HT2 := Hd.mk ht
      have HO2 := Hd.mk (HO.out.trans ho (fun _ _ h => h))
      clear ht ho XP HO hcell
      go_wp2
      go_roundg d
      case measure => omega
      case rel => exact ⟨j + 1, _, by simp, ⟨by omega⟩, HR2, HK2, HT2, HO2⟩
    · have l1 : decide ((j : Int) < (n : Int)) = false := decide_eq_false (by omega)
      have l2 : decide (j < n) = false := decide_eq_false hlt
      have HE : Hd (t = R) := ⟨by rw [← HR.out, List.drop_eq_nil_of_le (by rw [HN.out]; omega)]; rfl⟩
      clear HR HA HC
      go_wp2
      go_end0
      exact ⟨rfl, by rw [← HE.out]; exact H0.out, HO.out⟩
end Go.Proofs.YtgifpkjcggnhgaaGreatDoorL

