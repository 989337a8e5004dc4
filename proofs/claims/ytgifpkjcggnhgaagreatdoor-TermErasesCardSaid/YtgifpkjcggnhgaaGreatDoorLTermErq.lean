/- Parts of the proof of the law that the last file states; declarations that nothing mentions are left out by a program. No conditions. -/
import Derived.Test.YtgifpkjcggnhgaaGreatDoorLTermBq
set_option linter.unusedVariables false
set_option linter.unusedSimpArgs false
namespace Go.Proofs.YtgifpkjcggnhgaaGreatDoorL
open Go Go.RowKit Go.Proofs.YtgifpkjcggnhgaaGreatDoorW.PrintWords Go.Proofs.YtgifpkjcggnhgaaGreatDoor.K
theorem er_start {M : Nat} {s : Tm} (h : OKT M s) (hw : Waits s) : Calm (s.feed [24, 13, 27, 91, 72]) ∧ (s.feed [24, 13, 27, 91, 72]).row = 0 ∧ (s.feed [24, 13, 27, 91, 72]).col = 0 := by
  have e : s.feed [24, 13, 27, 91, 72] = (s.feed [24, 13]).feed [27, 91, 72] := feed_append s [24, 13] [27, 91, 72]
  rw [e]
  have hs := settle s h.inn
  have hk := (h.feed [24, 13] M s hw).1
  generalize s.feed [24, 13] = t at *
  rw [esc_none hs.1 (x := 72) (by decide) (by decide)]
  have e2 : Tm.ends { t with inn := 0, seq := ⟨#[]⟩ } [] (72 : UInt8).toNat = Tm.to_ { t with inn := 0, seq := ⟨#[]⟩ } 0 0 := rfl
  rw [e2]
  refine ⟨⟨rfl, hs.1.b⟩, ?_, ?_⟩
  · show clampN 0 t.l.length = 0
    have := hk.r1
    unfold clampN
    omega
  · show clampN 0 t.cols = 0
    have := hk.c1
    unfold clampN
    omega
theorem er_down {s : Tm} {R : Nat} (h : Calm s) (hR : s.l.length = R) (hr : s.row < R) (hc : s.col = 0) (hC : 1 ≤ s.cols) : Calm (s.feed [27, 91, 66]) ∧ (s.feed [27, 91, 66]).row = min (s.row + 1) (R - 1) ∧ (s.feed [27, 91, 66]).col = 0 := by
  rw [esc_none h (x := 66) (by decide) (by decide)]
  have e2 : Tm.ends { s with inn := 0, seq := ⟨#[]⟩ } [] (66 : UInt8).toNat = Tm.to_ { s with inn := 0, seq := ⟨#[]⟩ } ((s.row : Int) + 1) (s.col : Int) := rfl
  rw [e2]
  refine ⟨⟨rfl, h.b⟩, ?_, ?_⟩
  · show clampN ((s.row : Int) + 1) s.l.length = _
    rw [hR]
    unfold clampN
    omega
  · show clampN (s.col : Int) s.cols = 0
    rw [hc]
    unfold clampN
    omega
theorem er_J {M : Nat} {s : Tm} (h : Calm s) (hk : OKT M s) (hc : s.col = 0) : ∀ i, i < s.l.length → (s.feed [27, 91, 74]).l.getD i [] = if i < s.row then s.l.getD i [] else blankR s.cols := by
  intro i hi
  rw [esc_none h (x := 74) (by decide) (by decide)]
  obtain ⟨t, ht⟩ : ∃ t : Tm, ({ s with inn := 0, seq := ⟨#[]⟩ } : Tm) = t := ⟨_, rfl⟩
  rw [ht]
  have hkt : OKT M t := by rw [← ht]; exact { hk with inn := Nat.zero_le _, seq := Nat.zero_le _ }
  have f1 : t.l = s.l := by rw [← ht]
  have f2 : t.row = s.row := by rw [← ht]
  have f3 : t.col = 0 := by rw [← ht]; exact hc
  have f4 : t.cols = s.cols := by rw [← ht]
  have e2 : Tm.ends t [] (74 : UInt8).toNat = eraseRest (t.l.length - (t.row + 1)) (t.row + 1) (t.erase t.row t.col) := rfl
  rw [e2, f3]
  have hr := hkt.row
  have h1 := erase_row hkt hr
  have hd := dims_onRow t t.row (eraseR (t.cols - 0) 0)
  have h2 := eraseRest_get (t.l.length - (t.row + 1)) (t.row + 1) M (t.erase t.row 0) (hkt.erase t.row 0 (Nat.zero_le _)) (by rw [show (t.erase t.row 0).l.length = t.l.length from hd.2]; omega)
  rw [show (t.erase t.row 0).l.length = t.l.length from hd.2, show (t.erase t.row 0).cols = t.cols from rfl] at h2
  rw [← f1] at hi ⊢
  rw [← f2, ← f4]
  by_cases h3 : i < t.row
  · rw [if_pos h3, h2.2 i (by omega), h1.2 i (by omega)]
  · rw [if_neg h3]
    by_cases h4 : i = t.row
    · subst h4
      rw [h2.2 _ (by omega), h1.1]
    · exact h2.1 i (by omega) hi
theorem er_K {M : Nat} {s : Tm} (h : Calm s) (hk : OKT M s) (hc : s.col = 0) : (s.feed [27, 91, 75]).l.getD s.row [] = blankR s.cols ∧ ∀ i, i ≠ s.row → (s.feed [27, 91, 75]).l.getD i [] = s.l.getD i [] := by
  rw [esc_none h (x := 75) (by decide) (by decide)]
  obtain ⟨t, ht⟩ : ∃ t : Tm, ({ s with inn := 0, seq := ⟨#[]⟩ } : Tm) = t := ⟨_, rfl⟩
  rw [ht]
  have hkt : OKT M t := by rw [← ht]; exact { hk with inn := Nat.zero_le _, seq := Nat.zero_le _ }
  have f1 : t.l = s.l := by rw [← ht]
  have f2 : t.row = s.row := by rw [← ht]
  have f3 : t.col = 0 := by rw [← ht]; exact hc
  have f4 : t.cols = s.cols := by rw [← ht]
  have e2 : Tm.ends t [] (75 : UInt8).toNat = t.erase t.row t.col := rfl
  rw [e2, f3, ← f1, ← f2, ← f4]
  exact erase_row hkt hkt.row
theorem er_row {M : Nat} {s : Tm} (h : OKT M s) {k : Nat} (hk : k < s.l.length) : (s.l.getD k []).length = s.cols := by
  rw [← getD_get hk]
  exact (h.rowAt hk).1
theorem blankc_lit (w : World) : Calls Tryz.prog 25 #[] w fun e w' => e = .returned (.agg #[.string ⟨#[32]⟩, .int .i64 1, .bool false]) ∧ Below w.heap.size w w' := blankc_calls w
theorem blank_eq : (blankC.S.toList == [32] && (((blankC.wide : Nat) : Int) == 1 && !blankC.dim)) = true := by decide +kernel
theorem blank_three {w : World} {r : RR} {C j : Nat} (h : RowAt w r (blankR C)) (hj : j < C) : w.cell? ⟨r.g, j * 3, none⟩ = some (.string ⟨#[32]⟩) ∧ w.cell? ⟨r.g, j * 3 + 1, none⟩ = some (.int .i64 1) ∧ w.cell? ⟨r.g, j * 3 + 2, none⟩ = some (.bool false) := by
  have h1 := h.three (k := j) (by rw [blankR_len]; exact hj)
  rw [getC_blankR] at h1
  exact h1
set_option maxRecDepth 100000 in
set_option maxHeartbeats 4000000 in
theorem erases_walk (a b : Int) {A : Option Addr} {c : Nat} {l : List S46} {w : World} (hc : l.length ≤ c) (hE : Kd.C k46 w A l.length l) (hQ : l.length * Tryz.prog.bytesOf 46 ≤ reachBytes ∧ ∀ x ∈ l, SizedE x) (hT : TabsT w) (kk : Int) :
    Calls Tryz.prog 7 #[.agg #[.int .i64 a, .int .i64 b], .slice A l.length c, .int .i64 kk] w fun e w' => e = .returned (.bool true) ∧ Below w.heap.size w w' := by
  have HB0 := Hd.mk ((Below.refl w.heap.size w).alloc (Nat.le_refl _) (.cells #[.int .i64 a, .int .i64 b] 22))
  have XB := Hd.mk (begin_calls a b hc (Kd.C_below hE HB0.out) hQ (hT.below HB0.out))
  have HT := Hd.mk hT
  have hcv := fun W C n c => Lib.run_convert_bytes_const (P := Tryz.prog) W 34 5 C n c Tryz.underlying34 Tryz.underlying5
  generalize l.length = ll at *
  clear hc hE hQ hT
  go_enter Tryz.func7, Tryz.ntmps7
  go_wp2_with fail
  go_at_call 10
  with_reducible refine XB.out.mono ?_
  rintro e1 w1 ⟨hb, he⟩
  have HB1 := Hd.mk (HB0.out.trans (hb.mono HB0.out.size))
  rcases he with rfl | ⟨T, F, s, rfl, hst, hk⟩
  · clear hb XB
    go_wp2_with fail
    have XA := Hd.mk (alive_calls w1 (HT.out.below HB1.out))
    go_at_call 11
    with_reducible refine XA.out.mono ?_
    rintro _ w3 ⟨rfl, hb⟩
    have HB2 := Hd.mk (HB1.out.trans (hb.mono HB1.out.size))
    clear hb XA HB1
    go_wp2_with fail
    go_ret
    exact ⟨rfl, HB2.out⟩
  · skip
    have H1 : Hd (St w w1 F T s) := ⟨⟨hst.ta, fun k hk => Nat.le_trans HB0.out.size (hst.own k hk), HB1.out⟩⟩
    have K1 := Hd.mk hk
    clear hb hst hk XB HB1 HB0
    by_cases c1 : kk < 0
    · have d1 : decide (kk < 0) = true := decide_eq_true c1
      go_wp2_with fail
      have XA := Hd.mk (alive_calls w1 (HT.out.below H1.out.bl))
      go_at_call 11
      with_reducible refine XA.out.mono ?_
      rintro _ w3 ⟨rfl, hb⟩
      have H3 := Hd.mk (H1.out.to hb)
      clear hb XA
      go_wp2_with fail
      go_ret
      exact ⟨rfl, H3.out.bl⟩
    have d1 : decide (kk < 0) = false := decide_eq_false c1
    by_cases c2 : 70 < kk
    · have d2 : decide (70 < kk) = true := decide_eq_true c2
      go_wp2_with fail
      have XA := Hd.mk (alive_calls w1 (HT.out.below H1.out.bl))
      go_at_call 11
      with_reducible refine XA.out.mono ?_
      rintro _ w3 ⟨rfl, hb⟩
      have H3 := Hd.mk (H1.out.to hb)
      clear hb XA
      go_wp2_with fail
      go_ret
      exact ⟨rfl, H3.out.bl⟩
    have d2 : decide (70 < kk) = false := decide_eq_false c2
    obtain ⟨N, rfl⟩ : ∃ N : Nat, kk = N := ⟨kk.toNat, by omega⟩
    have n1 : (0 : Int) ≤ (N : Int) := by omega
    have n2 : (N : Int) ≤ 70 := by omega
    obtain ⟨R, hR⟩ : ∃ R, s.l.length = R := ⟨_, rfl⟩
    obtain ⟨C, hC⟩ : ∃ C, s.cols = C := ⟨_, rfl⟩
    have hR60 : R ≤ 60 := by rw [← hR]; exact K1.out.ok.r2
    have hC120 : C ≤ 120 := by rw [← hC]; exact K1.out.ok.c2
    have hC1 : 1 ≤ C := by rw [← hC]; exact K1.out.ok.c1
    have hR1 : 1 ≤ R := by rw [← hR]; exact K1.out.ok.r1
    have HS1 := Hd.mk (er_start K1.out.ok K1.out.wt)
    have HD1 : Hd ((s.feed [24, 13, 27, 91, 72]).l.length = R ∧ (s.feed [24, 13, 27, 91, 72]).cols = C) := ⟨by have h := dims_feed [24, 13, 27, 91, 72] s K1.out.ok.r1; rw [h.1, h.2]; exact ⟨hR, hC⟩⟩
    have K2 : Hd (TK 40160 (s.feed [24, 13, 27, 91, 72])) := ⟨K1.out.feed [24, 13, 27, 91, 72]⟩
    have XF := Hd.mk (feed_lit (n := 5) (c := 5) (l := [24, 13, 27, 91, 72]) H1.out.ta K1.out rfl (by first | (simp; done) | (simp; omega)) (HT.out.below H1.out.bl) (H1.out.outT HT.out) (0, 0))
    rw [show (List.map (fun b : UInt8 => Value.int .u8 (b.toNat : Int)) [24, 13, 27, 91, 72]).toArray = #[.int .u8 24, .int .u8 13, .int .u8 27, .int .u8 91, .int .u8 72] from rfl] at XF
    clear K1 hR hC
    generalize s.feed [24, 13, 27, 91, 72] = s1 at *
    go_wp2_with fail
    go_wp2_with fail
    go_at_call 17
    with_reducible refine XF.out.mono ?_
    rintro _ w2 ⟨rfl, ht⟩
    obtain ⟨F2, S2, hsub, hon⟩ := St.told (H1.out.alloc _) ht
    have H2 := Hd.mk S2
    clear ht S2 hsub hon XF H1
    go_wp2_with fail
    go_loopg [37] N (fun gk vj wx => ∃ (j : Nat) (F : Nat → Prop) (s : Tm), vj = .int .i64 (j : Int) ∧ Hd (j + gk = N) ∧ Hd (St w wx F T s) ∧ Hd (TK (40160 + 96 * j) s) ∧ Hd (Calm s ∧ s.row = min j (R - 1) ∧ s.col = 0) ∧ Hd (s.l.length = R ∧ s.cols = C))
    case atStart => exact ⟨0, F2, s1, rfl, ⟨by omega⟩, H2, K2, ⟨⟨HS1.out.1, by rw [HS1.out.2.1]; omega, HS1.out.2.2⟩⟩, HD1⟩
    case round =>
      clear K2 H2 HS1 HD1
      obtain ⟨j, F, s, rfl, HJ, H3, K3, HS3, HD3⟩ := hrel
      have h1 := HJ.out
      by_cases hlt : j < N
      · obtain ⟨d, rfl⟩ : ∃ d, gk = d + 1 := ⟨gk - 1, by omega⟩
        have l1 : decide ((j : Int) < (N : Int)) = true := decide_eq_true (by omega)
        have l2 : decide (j < N) = true := decide_eq_true hlt
        have l3 : (j : Int) < (N : Int) := by omega
        have l4 : (0 : Int) ≤ (j : Int) := by omega
        have l5 : (j : Int) ≤ 70 := by omega
        have HS4 : Hd (Calm (s.feed [27, 91, 66]) ∧ (s.feed [27, 91, 66]).row = min (j + 1) (R - 1) ∧ (s.feed [27, 91, 66]).col = 0) := ⟨by have h := er_down HS3.out.1 HD3.out.1 (by have := HS3.out.2.1; omega) HS3.out.2.2 (by rw [HD3.out.2]; exact hC1); have h9 := HS3.out.2.1; exact ⟨h.1, by rw [h.2.1]; omega, h.2.2⟩⟩
        have HD4 : Hd ((s.feed [27, 91, 66]).l.length = R ∧ (s.feed [27, 91, 66]).cols = C) := ⟨by have h := dims_feed [27, 91, 66] s K3.out.ok.r1; rw [h.1, h.2]; exact HD3.out⟩
        have K4 : Hd (TK (40160 + 96 * (j + 1)) (s.feed [27, 91, 66])) := ⟨(K3.out.feed [27, 91, 66]).mono (by show 40160 + 96 * j + 32 * 3 ≤ _; omega)⟩
        have XF := Hd.mk (feed_lit (n := 3) (c := 3) (l := [27, 91, 66]) H3.out.ta K3.out rfl (by first | (simp; done) | (simp; omega)) (HT.out.below H3.out.bl) (H3.out.outT HT.out) (3, 4))
        rw [show (List.map (fun b : UInt8 => Value.int .u8 (b.toNat : Int)) [27, 91, 66]).toArray = #[.int .u8 27, .int .u8 91, .int .u8 66] from rfl] at XF
        have HA := Hd.mk (H3.out.alloc (.cells #[.int .u8 27, .int .u8 91, .int .u8 66] 5 (3, 4)))
        clear K3 HS3 HD3 H3
        generalize s.feed [27, 91, 66] = s2 at *
        go_wp2_with fail
        go_wp2_with fail
        go_at_call 17
        with_reducible refine XF.out.mono ?_
        rintro _ w4 ⟨rfl, ht⟩
        obtain ⟨F4, S4, hsub, hon⟩ := St.told HA.out ht
        have H4 := Hd.mk S4
        clear ht S4 hsub hon XF HA
        go_wp2
        go_roundg d
        case measure => omega
        case rel => exact ⟨j + 1, F4, s2, by simp, ⟨by omega⟩, H4, K4, HS4, HD4⟩
      · have l1 : decide ((j : Int) < (N : Int)) = false := decide_eq_false (by omega)
        have l2 : decide (j < N) = false := decide_eq_false hlt
        obtain ⟨r0, hr0⟩ : ∃ r0, s.row = r0 := ⟨_, rfl⟩
        have hrR : r0 < R := by rw [← hr0]; have := HS3.out.2.1; omega
        have K9 : Hd (TK 48000 s) := ⟨K3.out.mono (by omega)⟩
        clear K3
        go_wp2_with fail
        have XC := Hd.mk (cursor_calls H3.out.ta.t)
        rw [hr0] at XC
        go_wp2_with fail
        go_at_call 13
        with_reducible refine XC.out.mono ?_
        rintro _ w4 ⟨rfl, hb⟩
        have H4 := Hd.mk (H3.out.to hb)
        clear XC hb H3
        go_wp2_with fail
        have XC := Hd.mk (copy_ta H4.out.ta K9.out)
        go_wp2_with fail
        go_at_call 18
        with_reducible refine XC.out.mono ?_
        rintro _ w5 ⟨T2, rfl, ⟨F5, hta, hF⟩, hb⟩
        have HC5 := Hd.mk (St.new H4.out.bl hta hF hb)
        have HDJ : Hd (∀ k, F5 k → ¬ F k) := ⟨fun k hk hk2 => by have := hF k hk; have := H4.out.ta.lt _ hk2; omega⟩
        have H5 := Hd.mk (H4.out.to hb)
        clear hta hF hb XC H4
        go_wp2_with fail
        have XF := Hd.mk (feed_lit (n := 3) (c := 3) (l := [27, 91, 74]) H5.out.ta K9.out rfl (by first | (simp; done) | (simp; omega)) (HT.out.below H5.out.bl) (H5.out.outT HT.out) (3, 4))
        rw [show (List.map (fun b : UInt8 => Value.int .u8 (b.toNat : Int)) [27, 91, 74]).toArray = #[.int .u8 27, .int .u8 91, .int .u8 74] from rfl] at XF
        go_wp2_with fail
        go_at_call 17
        with_reducible refine XF.out.mono ?_
        rintro _ w6 ⟨rfl, ht⟩
        obtain ⟨F6, S6, hsub, hon⟩ := St.told (H5.out.alloc _) ht
        have H6 := Hd.mk S6
        have HC6 := Hd.mk (St.other (HC5.out.alloc _) hon HDJ.out S6.bl)
        have HDK : Hd (∀ k, F6 k → ¬ F5 k) := ⟨fun k hk hk2 => by rcases hsub k hk with h | h; exact HDJ.out k hk2 h; have := (HC5.out.alloc (.cells #[.int .u8 27, .int .u8 91, .int .u8 74] 5 (3, 4))).ta.lt _ hk2; omega⟩
        have HEJ := Hd.mk (er_J HS3.out.1 K9.out.ok HS3.out.2.2)
        rw [HD3.out.1, HD3.out.2, hr0] at HEJ
        have K6 : Hd (TK 48096 (s.feed [27, 91, 74])) := ⟨K9.out.feed [27, 91, 74]⟩
        have HD6 : Hd ((s.feed [27, 91, 74]).l.length = R ∧ (s.feed [27, 91, 74]).cols = C) := ⟨by have h := dims_feed [27, 91, 74] s K9.out.ok.r1; rw [h.1, h.2]; exact HD3.out⟩
        clear ht S6 hsub hon XF H5 HC5 HDJ
        generalize s.feed [27, 91, 74] = sj at *
        go_wp2_with fail
        have XF := Hd.mk (feed_lit (n := 3) (c := 3) (l := [27, 91, 75]) HC6.out.ta K9.out rfl (by first | (simp; done) | (simp; omega)) (HT.out.below HC6.out.bl) (HC6.out.outT HT.out) (3, 4))
        rw [show (List.map (fun b : UInt8 => Value.int .u8 (b.toNat : Int)) [27, 91, 75]).toArray = #[.int .u8 27, .int .u8 91, .int .u8 75] from rfl] at XF
        go_wp2_with fail
        go_at_call 17
        with_reducible refine XF.out.mono ?_
        rintro _ w7 ⟨rfl, ht⟩
        obtain ⟨F7, S7, hsub, hon⟩ := St.told (HC6.out.alloc _) ht
        have HC7 := Hd.mk S7
        have H7 := Hd.mk (St.other (H6.out.alloc _) hon HDK.out S7.bl)
        have HEK := Hd.mk (er_K HS3.out.1 K9.out.ok HS3.out.2.2)
        rw [HD3.out.2, hr0] at HEK
        have K7 : Hd (TK 48096 (s.feed [27, 91, 75])) := ⟨K9.out.feed [27, 91, 75]⟩
        have HD7 : Hd ((s.feed [27, 91, 75]).l.length = R ∧ (s.feed [27, 91, 75]).cols = C) := ⟨by have h := dims_feed [27, 91, 75] s K9.out.ok.r1; rw [h.1, h.2]; exact HD3.out⟩
        clear ht S7 hsub hon XF H6 HC6 HDK
        generalize s.feed [27, 91, 75] = sk at *
        have HSM : Hd (∀ i, i < r0 → sj.l.getD i [] = sk.l.getD i []) := ⟨fun i hi => by rw [HEJ.out i (by omega), if_pos hi, HEK.out.2 i (by omega)]⟩
        have HBJ : Hd (∀ i, r0 ≤ i → i < R → sj.l.getD i [] = blankR C) := ⟨fun i h1 h2 => by rw [HEJ.out i h2, if_neg (by omega)]⟩
        have HBK : Hd (sk.l.getD r0 [] = blankR C) := ⟨HEK.out.1⟩
        clear HEJ HEK HS3 HD3 K9 hr0 hcv
        go_wp2_with fail
        have XS := Hd.mk (size_calls H7.out.ta.t)
        rw [HD6.out.1, HD6.out.2] at XS
        go_wp2_with fail
        go_at_call 12
        with_reducible refine XS.out.mono ?_
        rintro _ w8 ⟨rfl, hb⟩
        have H8 := Hd.mk (H7.out.to hb)
        have HC8 := Hd.mk (HC7.out.to hb)
        clear XS hb H7 HC7
        go_wp2_with fail
        go_loopg [67] R (fun gk vj wx => ∃ (j : Nat), vj = .int .i64 (j : Int) ∧ Hd (j + gk = R) ∧ Hd (Below w8.heap.size w8 wx))
        case atStart => exact ⟨0, rfl, ⟨by omega⟩, ⟨Below.refl _ _⟩⟩
        case round =>
          obtain ⟨j2, rfl, HJ2, HB⟩ := hrel
          have h2 := HJ2.out
          have H9 := Hd.mk (H8.out.to HB.out)
          have HC9 := Hd.mk (HC8.out.to HB.out)
          by_cases hlt2 : j2 < R
          · obtain ⟨d2, rfl⟩ : ∃ d, gk = d + 1 := ⟨gk - 1, by omega⟩
            have m1 : decide ((j2 : Int) < (R : Int)) = true := decide_eq_true (by omega)
            have m2 : decide (j2 < R) = true := decide_eq_true hlt2
            have m3 : (j2 : Int) < (R : Int) := by omega
            have m4 : (0 : Int) ≤ (j2 : Int) := by omega
            have m5 : (j2 : Int) ≤ 60 := by omega
            have hjs : j2 < sj.l.length := by rw [HD6.out.1]; exact hlt2
            have hjk : j2 < sk.l.length := by rw [HD7.out.1]; exact hlt2
            obtain ⟨row, hrw⟩ : ∃ row, sj.l.getD j2 [] = row := ⟨_, rfl⟩
            have HRL : Hd (row.length = C) := ⟨by rw [← hrw, er_row K6.out.ok hjs, HD6.out.2]⟩
            have HRB : Hd (r0 ≤ j2 → row = blankR C) := ⟨fun h => by rw [← hrw]; exact HBJ.out j2 h hlt2⟩
            have HRS : Hd (j2 < r0 → sk.l.getD j2 [] = row) := ⟨fun h => by rw [← hrw]; exact (HSM.out j2 h).symm⟩
            have HROW := Hd.mk hrw
            have XR := Hd.mk (row_at H9.out.ta.t K6.out.ok (k := j2) hjs)
            rw [hrw, HD6.out.2] at XR
            clear hrw
            go_wp2_with fail
            go_wp2_with fail
            go_at_call 14
            with_reducible refine XR.out.mono ?_
            rintro _ w9 ⟨r, rfl, hrn, hrg, hr, hb⟩
            have HB9 := Hd.mk (HB.out.trans (hb.mono HB.out.size))
            have HR := Hd.mk hr
            clear XR hrg hr hb HB H9 HC9
            unfold RR.v
            rw [hrn]
            go_wp2_with fail
            go_loopg [74, 14] C (fun gk2 vi vb wy => ∃ (i : Nat) (bl : Bool), vi = .int .i64 (i : Int) ∧ vb = .bool bl ∧ Hd (i + gk2 = C) ∧ Hd (Below w9.heap.size w9 wy) ∧ Hd (r0 ≤ j2 → bl = true))
            case atStart => exact ⟨0, true, rfl, rfl, ⟨by omega⟩, ⟨Below.refl _ _⟩, ⟨fun _ => rfl⟩⟩
            case round =>
              obtain ⟨i, bl, rfl, rfl, HJ3, HBy, HBL⟩ := hrel
              have h3 := HJ3.out
              by_cases hlt3 : i < C
              · obtain ⟨d3, rfl⟩ : ∃ d, gk = d + 1 := ⟨gk - 1, by omega⟩
                have p1 : decide ((i : Int) < (C : Int)) = true := decide_eq_true (by omega)
                have p2 : decide (i < C) = true := decide_eq_true hlt3
                have p3 : (i : Int) < (C : Int) := by omega
                have p4 : (0 : Int) ≤ (i : Int) := by omega
                have p5 : (i : Int) ≤ 120 := by omega
                obtain ⟨x0, x1, x2⟩ := (HR.out.below HBy.out).three (k := i) (by rw [HRL.out]; exact hlt3)
                clear HR
                cases bl with
                | true =>
                  go_upto_region 23 with fail
                  rename_i KQ hKQ
                  refine regionH (fun w' : World => Blk w' wr.heap.size 32 #[.string (getC row i).S, .int .i64 ((getC row i).wide : Int), .bool (getC row i).dim] ∧ Below wr.heap.size wr w') (by kernel_rfl) (fun wd hb => ?_)
                  have hHd : (fun w' : World => Blk w' wr.heap.size 32 #[.string (getC row i).S, .int .i64 ((getC row i).wide : Int), .bool (getC row i).dim] ∧ Below wr.heap.size wr w') wd := ⟨(Blk.new wr 32 #[.string (getC row i).S, .int .i64 ((getC row i).wide : Int), .bool (getC row i).dim]).belowB hb (by simp), ((Below.refl wr.heap.size wr).alloc (Nat.le_refl _) _).trans (hb.mono (by simp))⟩
                  clear hb
                  refine takeH (i := 0) (v := ?v1) rfl (by kernel_rfl) (by kernel_rfl) (by kernel_rfl) (fun _ _ _ h => h) (Or.inl ⟨by rfl, ?hy1⟩) (by assumption) ?rest1
                  case hy1 => (intro w hSw; (try dsimp only at hSw); go_simp; try (with_reducible rfl))
                  case rest1 =>
                  try simp only [Act.put, List.setIfInBounds_toArray, List.set_cons_zero, List.set_cons_succ]
                  refine takeH (i := 1) (v := ?v2) rfl (by kernel_rfl) (by kernel_rfl) (by kernel_rfl) (fun _ _ _ h => h) (Or.inl ⟨by rfl, ?hy2⟩) (by assumption) ?rest2
                  case hy2 => (intro w hSw; (try dsimp only at hSw); go_simp; try (with_reducible rfl))
                  case rest2 =>
                  try simp only [Act.put, List.setIfInBounds_toArray, List.set_cons_zero, List.set_cons_succ]
                  refine takeH (i := 2) (v := (.agg #[.string (getC row i).S, .int .i64 ((getC row i).wide : Int), .bool (getC row i).dim])) rfl (by kernel_rfl) (by kernel_rfl) (by kernel_rfl) (fun _ _ _ h => h) (Or.inl ⟨by rfl, ?hy3⟩) (by assumption) ?rest3
                  case hy3 => (intro w hSw; (try dsimp only at hSw); obtain ⟨hB, _⟩ := hSw; have c0 := hB.cell 0 rfl; have c1 := hB.cell 1 rfl; have c2 := hB.cell 2 rfl; go_simp; first | done | rfl)
                  case rest3 =>
                  try simp only [Act.put, List.setIfInBounds_toArray, List.set_cons_zero, List.set_cons_succ]
                  refine wpAnyH_ready (rs := [3]) (by kernel_rfl) (by simp) ?_
                  refine consH rfl (fun K hK => ?_) AllReadyH.nil
                  go_simp
                  go_at_call 25
                  with_reducible refine (blankc_lit _).mono ?_
                  rintro _ wq ⟨rfl, hb2⟩
                  have hHd2 : (fun w' : World => Blk w' wr.heap.size 32 #[.string (getC row i).S, .int .i64 ((getC row i).wide : Int), .bool (getC row i).dim] ∧ Below wr.heap.size wr w') wq := ⟨hHd.1.belowB hb2 hHd.1.lt, hHd.2.trans (hb2.mono hHd.2.size)⟩
                  clear hb2 hHd
                  have hHd := hHd2
                  clear hHd2
                  go_simp
                  refine hK.out _ _ hHd ?_
                  clear hK K
                  try simp only [Act.put, List.setIfInBounds_toArray, List.set_cons_zero, List.set_cons_succ]
                  refine takeH (i := 4) (v := (.bool ((getC row i).S.toList == [32] && (((getC row i).wide : Int) == 1 && ((getC row i).dim == false))))) rfl (by kernel_rfl) (by kernel_rfl) (by kernel_rfl) (fun _ _ _ h => h) (Or.inl ⟨by rfl, ?hy4⟩) (by assumption) ?rest4
                  case hy4 => (intro w hSw; (try dsimp only at hSw); go_simp; first | done | (by_cases e1 : (getC row i).S.toList = [32] <;> by_cases e2 : ((getC row i).wide : Int) = 1 <;> cases e3 : (getC row i).dim <;> simp [e1, e2, e3]))
                  case rest4 =>
                  try simp only [Act.put, List.setIfInBounds_toArray, List.set_cons_zero, List.set_cons_succ]
                  refine takeH (i := 5) (v := ?v5) rfl (by kernel_rfl) (by kernel_rfl) (by kernel_rfl) (fun _ _ _ h => h) (Or.inl ⟨by rfl, ?hy5⟩) (by assumption) ?rest5
                  case hy5 => (intro w hSw; (try dsimp only at hSw); go_simp; try (with_reducible rfl))
                  case rest5 =>
                  try simp only [Act.put, List.setIfInBounds_toArray, List.set_cons_zero, List.set_cons_succ]
                  refine takeH (i := 6) (v := ?v6) rfl (by kernel_rfl) (by kernel_rfl) (by kernel_rfl) (fun _ _ _ h => h) (Or.inl ⟨by rfl, ?hy6⟩) (by assumption) ?rest6
                  case hy6 => (intro w hSw; (try dsimp only at hSw); go_simp; try (with_reducible rfl))
                  case rest6 =>
                  try simp only [Act.put, List.setIfInBounds_toArray, List.set_cons_zero, List.set_cons_succ]
                  refine wpAnyH_done (by kernel_rfl) ?_ _
                  refine hKQ _ _ ?_
                  have HB10 := Hd.mk (HBy.out.trans (hHd.2.mono HBy.out.size))
                  clear hHd x0 x1 x2
                  go_wp2
                  go_roundg d3
                  case measure => omega
                  case rel => exact ⟨i + 1, _, by simp, rfl, ⟨by omega⟩, HB10, ⟨fun h => by rw [HRB.out h, getC_blankR]; exact blank_eq⟩⟩
                | false =>
                  go_upto_region 23 with fail
                  rename_i KQ hKQ
                  refine regionH (fun w' : World => Blk w' wr.heap.size 32 #[.string (getC row i).S, .int .i64 ((getC row i).wide : Int), .bool (getC row i).dim] ∧ Below wr.heap.size wr w') (by kernel_rfl) (fun wd hb => ?_)
                  have hHd : (fun w' : World => Blk w' wr.heap.size 32 #[.string (getC row i).S, .int .i64 ((getC row i).wide : Int), .bool (getC row i).dim] ∧ Below wr.heap.size wr w') wd := ⟨(Blk.new wr 32 #[.string (getC row i).S, .int .i64 ((getC row i).wide : Int), .bool (getC row i).dim]).belowB hb (by simp), ((Below.refl wr.heap.size wr).alloc (Nat.le_refl _) _).trans (hb.mono (by simp))⟩
                  clear hb
                  refine takeH (i := 0) (v := ?v7) rfl (by kernel_rfl) (by kernel_rfl) (by kernel_rfl) (fun _ _ _ h => h) (Or.inl ⟨by rfl, ?hy7⟩) (by assumption) ?rest7
                  case hy7 => (intro w hSw; (try dsimp only at hSw); go_simp; try (with_reducible rfl))
                  case rest7 =>
                  try simp only [Act.put, List.setIfInBounds_toArray, List.set_cons_zero, List.set_cons_succ]
                  refine takeH (i := 1) (v := ?v8) rfl (by kernel_rfl) (by kernel_rfl) (by kernel_rfl) (fun _ _ _ h => h) (Or.inl ⟨by rfl, ?hy8⟩) (by assumption) ?rest8
                  case hy8 => (intro w hSw; (try dsimp only at hSw); go_simp; try (with_reducible rfl))
                  case rest8 =>
                  try simp only [Act.put, List.setIfInBounds_toArray, List.set_cons_zero, List.set_cons_succ]
                  refine takeH (i := 2) (v := undef) rfl (by kernel_rfl) (by kernel_rfl) (by kernel_rfl) (fun _ _ _ h => h) (Or.inr ⟨by rfl, rfl⟩) (by assumption) ?_
                  try simp only [Act.put, List.setIfInBounds_toArray, List.set_cons_zero, List.set_cons_succ]
                  refine takeH (i := 3) (v := undef) rfl (by kernel_rfl) (by kernel_rfl) (by kernel_rfl) (fun _ _ _ h => h) (Or.inr ⟨by rfl, rfl⟩) (by assumption) ?_
                  try simp only [Act.put, List.setIfInBounds_toArray, List.set_cons_zero, List.set_cons_succ]
                  refine takeH (i := 4) (v := undef) rfl (by kernel_rfl) (by kernel_rfl) (by kernel_rfl) (fun _ _ _ h => h) (Or.inr ⟨by rfl, rfl⟩) (by assumption) ?_
                  try simp only [Act.put, List.setIfInBounds_toArray, List.set_cons_zero, List.set_cons_succ]
                  refine takeH (i := 5) (v := ?v9) rfl (by kernel_rfl) (by kernel_rfl) (by kernel_rfl) (fun _ _ _ h => h) (Or.inl ⟨by rfl, ?hy9⟩) (by assumption) ?rest9
                  case hy9 => (intro w hSw; (try dsimp only at hSw); go_simp; try (with_reducible rfl))
                  case rest9 =>
                  try simp only [Act.put, List.setIfInBounds_toArray, List.set_cons_zero, List.set_cons_succ]
                  refine takeH (i := 6) (v := ?v10) rfl (by kernel_rfl) (by kernel_rfl) (by kernel_rfl) (fun _ _ _ h => h) (Or.inl ⟨by rfl, ?hy10⟩) (by assumption) ?rest10
                  case hy10 => (intro w hSw; (try dsimp only at hSw); go_simp; try (with_reducible rfl))
                  case rest10 =>
                  try simp only [Act.put, List.setIfInBounds_toArray, List.set_cons_zero, List.set_cons_succ]
                  refine wpAnyH_done (by kernel_rfl) ?_ _
                  refine hKQ _ _ ?_
                  have HB10 := Hd.mk (HBy.out.trans (hHd.2.mono HBy.out.size))
                  clear hHd x0 x1 x2
                  go_wp2
                  go_roundg d3
                  case measure => omega
                  case rel => exact ⟨i + 1, false, by simp, rfl, ⟨by omega⟩, HB10, HBL⟩
              · have p1 : decide ((i : Int) < (C : Int)) = false := decide_eq_false (by omega)
                have p2 : decide (i < C) = false := decide_eq_false hlt3
                have HB10 := Hd.mk (HB9.out.trans (HBy.out.mono HB9.out.size))
                clear HB9 HBy HR
                have H10 := Hd.mk (H8.out.to HB10.out)
                have HC10 := Hd.mk (HC8.out.to HB10.out)
                by_cases hjr : r0 ≤ j2
                · obtain rfl := HBL.out hjr
                  have s1 : decide ((r0 : Int) ≤ (j2 : Int)) = true := decide_eq_true (by omega)
                  have s2 : decide (r0 ≤ j2) = true := decide_eq_true hjr
                  have s3 : (r0 : Int) ≤ (j2 : Int) := by omega
                  have s4 : decide ((j2 : Int) < (r0 : Int)) = false := decide_eq_false (by omega)
                  have s5 : decide (j2 < r0) = false := decide_eq_false (by omega)
                  clear H10 HC10
                  go_wp2_with fail
                  go_roundg d2
                  case measure => omega
                  case rel => exact ⟨j2 + 1, by simp, ⟨by omega⟩, HB10⟩
                · have hjr2 : j2 < r0 := by omega
                  have s1 : decide ((r0 : Int) ≤ (j2 : Int)) = false := decide_eq_false (by omega)
                  have s2 : decide (r0 ≤ j2) = false := decide_eq_false hjr
                  have s3 : (j2 : Int) < (r0 : Int) := by omega
                  have s4 : decide ((j2 : Int) < (r0 : Int)) = true := decide_eq_true (by omega)
                  have s5 : decide (j2 < r0) = true := decide_eq_true hjr2
                  have HLR : Hd (row.length ≤ 1000) := ⟨by rw [HRL.out]; omega⟩
                  have XR := Hd.mk (row_at H10.out.ta.t K6.out.ok (k := j2) hjs)
                  rw [HROW.out] at XR
                  go_wp2_with fail
                  go_wp2_with fail
                  go_at_call 14
                  with_reducible refine XR.out.mono ?_
                  rintro _ w10 ⟨r1, rfl, hrn1, hrg, hr, hb⟩
                  have HBa := Hd.mk hb
                  have XO := Hd.mk (old_calls hr HLR.out)
                  clear XR hrn1 hrg hr hb
                  go_wp2_with fail
                  go_wp2_with fail
                  go_at_call 20
                  with_reducible refine XO.out.mono ?_
                  rintro _ w11 ⟨A1, c1, rfl, hc1, hC1, hb⟩
                  have HBb := Hd.mk (HBa.out.trans (hb.mono HBa.out.size))
                  have HC1 := Hd.mk (And.intro hc1 hC1)
                  clear XO hc1 hC1 hb HBa
                  have XR := Hd.mk (row_at (HC10.out.to HBb.out).ta.t K7.out.ok (k := j2) hjk)
                  rw [HRS.out hjr2] at XR
                  go_wp2_with fail
                  go_wp2_with fail
                  go_at_call 14
                  with_reducible refine XR.out.mono ?_
                  rintro _ w12 ⟨r2, rfl, hrn2, hrg, hr, hb⟩
                  have HBc := Hd.mk (HBb.out.trans (hb.mono HBb.out.size))
                  have HCb := Hd.mk (Kd.C_below HC1.out.2 hb)
                  have XO := Hd.mk (old_calls hr HLR.out)
                  clear XR hrn2 hrg hr hb HBb
                  go_wp2_with fail
                  go_wp2_with fail
                  go_at_call 20
                  with_reducible refine XO.out.mono ?_
                  rintro _ w13 ⟨A2, c2, rfl, hc2, hC2, hb⟩
                  have HBd := Hd.mk (HBc.out.trans (hb.mono HBc.out.size))
                  have XS := Hd.mk (same_calls (n := row.length) rfl HLR.out (Kd.C_below HCb.out hb) hC2 HC1.out.1 hc2)
                  clear XO hc2 hC2 hb HBc HC1 HCb
                  go_wp2_with fail
                  go_wp2_with fail
                  go_at_call 19
                  with_reducible refine XS.out.mono ?_
                  rintro _ w14 ⟨rfl, hb⟩
                  have HBe := Hd.mk (HB10.out.trans ((HBd.out.trans (hb.mono HBd.out.size)).mono HB10.out.size))
                  clear XS hb HBd HB10 H10 HC10
                  go_wp2_with fail
                  go_roundg d2
                  case measure => omega
                  case rel => exact ⟨j2 + 1, by simp, ⟨by omega⟩, HBe⟩
          · have m1 : decide ((j2 : Int) < (R : Int)) = false := decide_eq_false (by omega)
            have m2 : decide (j2 < R) = false := decide_eq_false hlt2
            clear HB H8 HC8
            have XR := Hd.mk (row_at HC9.out.ta.t K7.out.ok (k := r0) (by rw [HD7.out.1]; exact hrR))
            rw [HBK.out, HD7.out.2] at XR
            go_wp2_with fail
            go_wp2_with fail
            go_at_call 14
            with_reducible refine XR.out.mono ?_
            rintro _ w9 ⟨r, rfl, hrn, hrg, hr, hb⟩
            have H10 := Hd.mk (H9.out.to hb)
            have HR := Hd.mk hr
            clear XR hrg hr hb H9 HC9
            unfold RR.v
            rw [hrn]
            go_wp2_with fail
            go_loopg [114] C (fun gk2 vi wy => ∃ (i : Nat), vi = .int .i64 (i : Int) ∧ Hd (i + gk2 = C) ∧ Hd (Below w9.heap.size w9 wy))
            case atStart => exact ⟨0, rfl, ⟨by omega⟩, ⟨Below.refl _ _⟩⟩
            case round =>
              obtain ⟨i, rfl, HJ3, HBy⟩ := hrel
              have h3 := HJ3.out
              by_cases hlt3 : i < C
              · obtain ⟨d3, rfl⟩ : ∃ d, gk = d + 1 := ⟨gk - 1, by omega⟩
                have p1 : decide ((i : Int) < (C : Int)) = true := decide_eq_true (by omega)
                have p2 : decide (i < C) = true := decide_eq_true hlt3
                have p3 : (i : Int) < (C : Int) := by omega
                have p4 : (0 : Int) ≤ (i : Int) := by omega
                have p5 : (i : Int) ≤ 120 := by omega
                obtain ⟨x0, x1, x2⟩ := blank_three (HR.out.below HBy.out) hlt3
                go_upto_region 31 with fail
                rename_i KQ hKQ
                refine regionH (fun w' : World => Blk w' wr.heap.size 32 #[.string ⟨#[32]⟩, .int .i64 1, .bool false] ∧ Below wr.heap.size wr w') (by kernel_rfl) (fun wd hb => ?_)
                have hHd : (fun w' : World => Blk w' wr.heap.size 32 #[.string ⟨#[32]⟩, .int .i64 1, .bool false] ∧ Below wr.heap.size wr w') wd := ⟨(Blk.new wr 32 #[.string ⟨#[32]⟩, .int .i64 1, .bool false]).belowB hb (by simp), ((Below.refl wr.heap.size wr).alloc (Nat.le_refl _) _).trans (hb.mono (by simp))⟩
                clear hb
                refine takeH (i := 0) (v := (.agg #[.string ⟨#[32]⟩, .int .i64 1, .bool false])) rfl (by kernel_rfl) (by kernel_rfl) (by kernel_rfl) (fun _ _ _ h => h) (Or.inl ⟨by rfl, ?hy11⟩) (by assumption) ?rest11
                case hy11 => (intro w hSw; (try dsimp only at hSw); obtain ⟨hB, _⟩ := hSw; have c0 := hB.cell 0 rfl; have c1 := hB.cell 1 rfl; have c2 := hB.cell 2 rfl; go_simp; first | done | rfl)
                case rest11 =>
                try simp only [Act.put, List.setIfInBounds_toArray, List.set_cons_zero, List.set_cons_succ]
                refine wpAnyH_ready (rs := [1]) (by kernel_rfl) (by simp) ?_
                refine consH rfl (fun K hK => ?_) AllReadyH.nil
                go_simp
                go_at_call 25
                with_reducible refine (blankc_lit _).mono ?_
                rintro _ wq ⟨rfl, hb2⟩
                have hHd2 : (fun w' : World => Blk w' wr.heap.size 32 #[.string ⟨#[32]⟩, .int .i64 1, .bool false] ∧ Below wr.heap.size wr w') wq := ⟨hHd.1.belowB hb2 hHd.1.lt, hHd.2.trans (hb2.mono hHd.2.size)⟩
                clear hb2 hHd
                have hHd := hHd2
                clear hHd2
                go_simp
                refine hK.out _ _ hHd ?_
                clear hK K
                try simp only [Act.put, List.setIfInBounds_toArray, List.set_cons_zero, List.set_cons_succ]
                refine takeH (i := 2) (v := (.bool false)) rfl (by kernel_rfl) (by kernel_rfl) (by kernel_rfl) (fun _ _ _ h => h) (Or.inl ⟨by rfl, ?hy12⟩) (by assumption) ?rest12
                case hy12 => (intro w hSw; (try dsimp only at hSw); go_simp; first | done | rfl)
                case rest12 =>
                try simp only [Act.put, List.setIfInBounds_toArray, List.set_cons_zero, List.set_cons_succ]
                refine wpAnyH_done (by kernel_rfl) ?_ _
                refine hKQ _ _ ?_
                have HB10 := Hd.mk (HBy.out.trans (hHd.2.mono HBy.out.size))
                clear hHd x0 x1 x2 HBy
                go_wp2
                go_roundg d3
                case measure => omega
                case rel => exact ⟨i + 1, by simp, ⟨by omega⟩, HB10⟩
              · have p1 : decide ((i : Int) < (C : Int)) = false := decide_eq_false (by omega)
                have p2 : decide (i < C) = false := decide_eq_false hlt3
                have H11 := Hd.mk (H10.out.to HBy.out)
                clear HBy HR H10
                go_wp2_with fail
                have XA := Hd.mk (alive_calls wr (HT.out.below H11.out.bl))
                go_wp2_with fail
                go_at_call 11
                with_reducible refine XA.out.mono ?_
                rintro _ w7 ⟨rfl, hb⟩
                have H12 := Hd.mk (H11.out.to hb)
                clear XA hb H11
                have u1 : (1 : Int) ≤ (C : Int) := by omega
                go_wp2_with fail
                go_ret
                exact ⟨rfl, H12.out.bl⟩
theorem erases_walk' {cs : Array Value} {x : Int × Int} {A : Option Addr} {c : Nat} {l : List S46} {w : World} (hK : kArr2.K w x cs.toList) (hc : l.length ≤ c) (hE : Kd.C k46 w A l.length l) (hQ : l.length * Tryz.prog.bytesOf 46 ≤ reachBytes ∧ ∀ x ∈ l, SizedE x) (hT : TabsT w) (kk : Int) :
    Calls Tryz.prog 7 #[.agg cs, .slice A l.length c, .int .i64 kk] w fun e w' => e = .returned (.bool true) ∧ Below w.heap.size w w' := by
  obtain rfl : cs = #[.int .i64 x.1, .int .i64 x.2] := Array.toList_inj.1 (kArr2_open hK)
  exact erases_walk x.1 x.2 hc hE hQ hT kk
end Go.Proofs.YtgifpkjcggnhgaaGreatDoorL

