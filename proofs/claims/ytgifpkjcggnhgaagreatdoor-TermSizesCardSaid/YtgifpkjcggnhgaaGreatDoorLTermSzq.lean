/- Parts of the proof of the law that the last file states; declarations that nothing mentions are left out by a program. No conditions. -/
import Derived.Test.YtgifpkjcggnhgaaGreatDoorLTermSq
import Derived.Test.YtgifpkjcggnhgaaGreatDoorLTermDq
set_option linter.unusedVariables false
set_option linter.unusedSimpArgs false
namespace Go.Proofs.YtgifpkjcggnhgaaGreatDoorL
open Go Go.RowKit Go.Proofs.YtgifpkjcggnhgaaGreatDoorW.PrintWords Go.Proofs.YtgifpkjcggnhgaaGreatDoor.K
theorem newT_dims (a b : Int) : (newT a b).l.length = cutN a 60 ∧ (newT a b).cols = cutN b 120 := ⟨List.length_replicate .., rfl⟩
theorem ev_at {w wx : World} {A0 : Option Addr} {l : List S46} (hE : Kd.C k46 w A0 l.length l) (hb : Below w.heap.size w wx) {j : Nat} (hj : j < l.length) : ∃ ad A3 c3, A0 = some ad ∧ wx.cell? (ad.add (j * 4)) = some (.bool l[j].f0) ∧ wx.cell? ⟨(ad.add (j * 4)).block, (ad.add (j * 4)).off + 1, none⟩ = some (.int .i64 l[j].f1) ∧ wx.cell? ⟨(ad.add (j * 4)).block, (ad.add (j * 4)).off + 2, none⟩ = some (.int .i64 l[j].f2) ∧ wx.cell? ⟨(ad.add (j * 4)).block, (ad.add (j * 4)).off + 3, none⟩ = some (.slice A3 (l[j].f3).length c3) ∧ (l[j].f3).length ≤ c3 ∧ (Kd.int .u8).C w A3 (l[j].f3).length l[j].f3 := by
  obtain ⟨ad, A3, c3, rfl, h0, h1, h2, h3, hl, hC⟩ := at_T46 hE (j : Int) (by omega) (by omega)
  rw [rd_ev hj] at h0 h1 h2 h3 hl hC
  rw [Int.toNat_natCast] at h0 h1 h2 h3
  have mv : ∀ {a : Addr} {v : Value}, w.cell? a = some v → wx.cell? a = some v := fun h => cell_move h (hb.block _ (Lib.lt_of_cell h))
  exact ⟨ad, A3, c3, rfl, mv h0, mv h1, mv h2, mv h3, hl, hC⟩
theorem feed_ev {w0 w : World} {F : Nat → Prop} {T M : Nat} {s : Tm} (h : St w0 w F T s) (hk : TK M s) (hT : TabsT w0) {A : Option Addr} {c : Nat} {xs : List Int} (hC : (Kd.int .u8).C w0 A xs.length xs) (hw : ∀ b ∈ xs, (Lit.int .u8 b).wf = true) (hM : M + 32 * xs.length + 64 ≤ 900000) :
    Calls Tryz.prog 17 #[.pointer (some ⟨T, 0, none⟩), .slice A xs.length c] w fun e w' => e = .returned (.tuple #[]) ∧ Told F w T (s.feed (toB xs)) w' := by
  by_cases hn : 0 < xs.length
  · obtain ⟨ad, rfl, hcell⟩ := int_cell hC hw hn
    have X := feed_ta h.ta hk (toB xs) (by rw [toB_len]; exact hM) (hT.below h.bl) (h.outT hT) (A := some ad) (c := c) (ad := ad) (fun _ => ⟨rfl, fun hF => by
      have h1 := Lib.lt_of_cell (hcell 0 (by rw [toB_len]; exact hn))
      rw [add_block] at h1
      have := h.own _ hF
      omega, by
      have h1 := Lib.lt_of_cell (hcell 0 (by rw [toB_len]; exact hn))
      rw [add_block] at h1
      have := h.bl.size
      omega⟩) (fun i hi => cell_move (hcell i hi) (h.bl.block _ (Lib.lt_of_cell (hcell i hi))))
    rw [toB_len] at X
    exact X
  · have h0 : xs = [] := List.eq_nil_of_length_eq_zero (by omega)
    subst h0
    exact feed_ta h.ta hk (toB []) hM (hT.below h.bl) (h.outT hT) (A := A) (c := c) (ad := ⟨0, 0, none⟩) (fun hp => absurd hp (Nat.lt_irrefl 0)) (fun i hi => absurd hi (Nat.not_lt_zero i))
set_option maxRecDepth 100000 in
set_option maxHeartbeats 4000000 in
theorem sizes_walk (a b : Int) {A : Option Addr} {c : Nat} {l : List S46} {w : World} (hc : l.length ≤ c) (hE : Kd.C k46 w A l.length l) (hQ : l.length * Tryz.prog.bytesOf 46 ≤ reachBytes ∧ ∀ x ∈ l, SizedE x) (hT : TabsT w) :
    Calls Tryz.prog 6 #[.int .i64 a, .int .i64 b, .slice A l.length c] w fun e w' => e = .returned (.bool true) ∧ Below w.heap.size w w' := by
  obtain ⟨kf, rf, hfew, hfr⟩ := few_fewE hQ
  have XF := Hd.mk (fun w1 (hb : Below w.heap.size w w1) => souffleurlaw17_few.calls kf A c l rf w1 (Kd.C_below hE hb) hc hfew)
  have HT := Hd.mk hT
  have HE := Hd.mk hE
  have HW : Hd (∀ x ∈ l, SizedE x) := ⟨hQ.2⟩
  have HFR := Hd.mk hfr
  have K1 := Hd.mk (TK.new a b)
  have X0 := Hd.mk (new_ta a b w)
  have DM := Hd.mk (newT_dims a b)
  have hcv := fun W C n c => Lib.run_convert_bytes_const (P := Tryz.prog) W 34 5 C n c Tryz.underlying34 Tryz.underlying5
  obtain ⟨R, hR⟩ : ∃ R, cutN a 60 = R := ⟨_, rfl⟩
  obtain ⟨C, hCc⟩ : ∃ C, cutN b 120 = C := ⟨_, rfl⟩
  have hR1 : R ≤ 60 := by rw [← hR]; exact (cutN_le a (by omega)).2
  have hC1 : C ≤ 120 := by rw [← hCc]; exact (cutN_le b (by omega)).2
  have hRm : min (max a 1) 60 = (R : Int) := by rw [← hR]; unfold cutN; omega
  have hCm : min (max b 1) 120 = (C : Int) := by rw [← hCc]; unfold cutN; omega
  rw [hR, hCc] at DM
  have HRC := Hd.mk (And.intro hRm hCm)
  clear hT hE hQ hfew hfr hR hCc
  generalize newT a b = s0 at *
  go_enter Tryz.func6, Tryz.ntmps6
  go_wp2_with fail
  go_at_call 16
  with_reducible refine X0.out.mono ?_
  rintro _ w1 ⟨T, rfl, ⟨F1, hta, hF⟩, hb⟩
  have H1 := Hd.mk (St.new (Below.refl _ w) hta hF hb)
  have XF2 := Hd.mk (XF.out w1 hb)
  clear hta hF hb X0 XF
  go_wp2_with fail
  go_at_call 23
  with_reducible refine XF2.out.mono ?_
  rintro _ w2 ⟨rfl, hb⟩
  have H2 := Hd.mk (H1.out.to hb)
  clear hb XF2 H1
  cases rf with
  | false =>
    clear hcv
    have XA := Hd.mk (alive_calls w2 (HT.out.below H2.out.bl))
    go_wp2_with fail
    go_at_call 11
    with_reducible refine XA.out.mono ?_
    rintro _ w3 ⟨rfl, hb⟩
    have HB := Hd.mk (H2.out.bl.trans (hb.mono H2.out.bl.size))
    clear hb XA H2
    go_wp2_with fail
    go_ret
    exact ⟨rfl, HB.out⟩
  | true =>
    have HFW := Hd.mk (HFR.out rfl)
    have hl40 : l.length ≤ 40 := HFW.out.1
    clear HFR
    have XS := Hd.mk (size_calls H2.out.ta.t)
    rw [DM.out.1, DM.out.2] at XS
    go_wp2_with fail
    go_at_call 12
    with_reducible refine XS.out.mono ?_
    rintro _ w3 ⟨rfl, hb⟩
    have H3 := Hd.mk (H2.out.to hb)
    clear hb XS H2
    have e1 := HRC.out.1
    have e2 := HRC.out.2
    obtain ⟨n, hn⟩ : ∃ n, l.length = n := ⟨_, rfl⟩
    have HN := Hd.mk hn
    rw [hn] at hl40
    have HD0 := Hd.mk (And.intro DM.out.1 DM.out.2)
    go_wp2_with fail
    go_loopg [52] n (fun gk vj wx => ∃ (j : Nat) (F : Nat → Prop) (s : Tm), vj = .int .i64 (j : Int) ∧ Hd (j + gk = n) ∧ Hd (St w wx F T s) ∧ Hd (TK (4 + 32 * lenSum (l.take j)) s) ∧ Hd (s.l.length = R ∧ s.cols = C))
    case atStart => exact ⟨0, F1, s0, rfl, ⟨by omega⟩, H3, K1, HD0⟩
    case round =>
      clear K1 H3 HD0 DM
      obtain ⟨j, F, s, rfl, HJ, H3, K1, HD0⟩ := hrel
      have h1 := HJ.out
      by_cases hlt : j < n
      · obtain ⟨d, rfl⟩ : ∃ d, gk = d + 1 := ⟨gk - 1, by omega⟩
        have hjl : j < l.length := by rw [HN.out]; exact hlt
        obtain ⟨ad, A3, c3, rfl, h0, h1', h2, h3, hlc, hC⟩ := ev_at HE.out H3.out.bl hjl
        have hls := lenSum_take hjl
        have hle := lenSum_le l (j + 1)
        have hfw := HFW.out.2
        unfold lenE at hls
        have XFd := Hd.mk (feed_ev (A := A3) (c := c3) (H3.out.alloc (.cells #[.bool l[j].f0, .int .i64 l[j].f1, .int .i64 l[j].f2, .slice A3 (l[j].f3).length c3] 46)) K1.out HT.out hC (HW.out _ (List.getElem_mem hjl)).2 (by omega))
        have K2 : Hd (TK (4 + 32 * lenSum (l.take (j + 1))) (s.feed (toB l[j].f3))) := ⟨(K1.out.feed (toB l[j].f3)).mono (by rw [toB_len]; omega)⟩
        have HD2 : Hd ((s.feed (toB l[j].f3)).l.length = R ∧ (s.feed (toB l[j].f3)).cols = C) := ⟨by have h := dims_feed (toB l[j].f3) s K1.out.ok.r1; rw [h.1, h.2]; exact HD0.out⟩
        have HA := Hd.mk (H3.out.alloc (.cells #[.bool l[j].f0, .int .i64 l[j].f1, .int .i64 l[j].f2, .slice A3 (l[j].f3).length c3] 46))
        clear hls hle hfw hC hlc K1 HD0 H3 HE HW HFW
        generalize s.feed (toB l[j].f3) = s2 at *
        generalize l[j] = ev at *
        have l1 : decide ((j : Int) < (n : Int)) = true := decide_eq_true (by omega)
        have l2 : decide (j < n) = true := decide_eq_true hlt
        have l3 : (j : Int) < (n : Int) := by omega
        have l4 : (0 : Int) ≤ (j : Int) := by omega
        have l5 : (j : Int) ≤ 40 := by omega
        clear hjl
        go_wp2_with fail
        go_at_call 17
        with_reducible refine XFd.out.mono ?_
        rintro _ w4 ⟨rfl, ht⟩
        obtain ⟨F4, S4, hsub, hon⟩ := St.told HA.out ht
        have H4 := Hd.mk S4
        clear ht S4 hsub hon XFd HA h0 h1' h2 h3
        go_wp2
        go_roundg d
        case measure => omega
        case rel => exact ⟨j + 1, F4, s2, by simp, ⟨by omega⟩, H4, K2, HD2⟩
      · have l1 : decide ((j : Int) < (n : Int)) = false := decide_eq_false (by omega)
        have l2 : decide (j < n) = false := decide_eq_false hlt
        have K9 : Hd (TK 25604 s) := ⟨K1.out.mono (by have h1 := lenSum_le l j; have h2 := HFW.out.2; omega)⟩
        clear K1 HE HW HFW HN
        go_wp2_with fail
        have XF := Hd.mk (feed_lit (n := 2) (c := 2) (l := [24, 13]) H3.out.ta K9.out rfl (by decide) (HT.out.below H3.out.bl) (H3.out.outT HT.out) (2, 3))
        rw [show (List.map (fun b : UInt8 => Value.int .u8 (b.toNat : Int)) [24, 13]).toArray = #[.int .u8 24, .int .u8 13] from rfl] at XF
        go_wp2_with fail
        go_at_call 17
        with_reducible refine XF.out.mono ?_
        rintro _ w5 ⟨rfl, ht⟩
        obtain ⟨F5, S5, hsub, hon⟩ := St.told (H3.out.alloc _) ht
        have H5 := Hd.mk S5
        have K5 := Hd.mk (K9.out.feed [24, 13])
        have HD5 : Hd ((s.feed [24, 13]).l.length = R ∧ (s.feed [24, 13]).cols = C) := ⟨by have h := dims_feed [24, 13] s K9.out.ok.r1; rw [h.1, h.2]; exact HD0.out⟩
        rw [show 25604 + 32 * ([24, 13] : List UInt8).length = 25668 from rfl] at K5
        clear ht S5 hsub hon XF H3 K9 HD0
        generalize s.feed [24, 13] = s5 at *
        go_wp2_with fail
        have XC := Hd.mk (copy_ta H5.out.ta K5.out)
        go_wp2_with fail
        go_at_call 18
        with_reducible refine XC.out.mono ?_
        rintro _ w6 ⟨T2, rfl, ⟨F6, hta, hF⟩, hb⟩
        have HC6 := Hd.mk (St.new H5.out.bl hta hF hb)
        have HD6 : Hd (∀ k, F5 k → ¬ F6 k) := ⟨fun k hk hk2 => by have := hF k hk2; have := H5.out.ta.lt _ hk; omega⟩
        have H6 := Hd.mk (H5.out.to hb)
        clear hta hF hb XC H5
        go_wp2_with fail
        have XR := Hd.mk (resize_ta HC6.out.ta K5.out (by decide) (R : Int) (C : Int))
        have HRS : Hd (s5.resize (R : Int) (C : Int) = { s5 with full := false }) := ⟨by rw [← HD5.out.1, ← HD5.out.2]; exact resize_same K5.out.ok⟩
        rw [HRS.out] at XR
        go_wp2_with fail
        go_at_call 24
        with_reducible refine XR.out.mono ?_
        rintro _ w7 ⟨rfl, ht⟩
        obtain ⟨F7, S7, hsub, hon⟩ := St.told HC6.out ht
        have HC7 := Hd.mk S7
        have H7 := Hd.mk (St.other H6.out hon HD6.out S7.bl)
        have K7 : Hd (TK 25732 s5) := ⟨K5.out.mono (by decide)⟩
        have K7b : Hd (TK 25732 { s5 with full := false }) := ⟨by have h := K5.out.resize (R : Int) (C : Int); rw [HRS.out] at h; exact h⟩
        have HDR : Hd (s5.l.length = R ∧ s5.cols = C) := HD5
        have HDRb : Hd (({ s5 with full := false } : Tm).l.length = R ∧ True) := ⟨HD5.out.1, trivial⟩
        have HLQ : Hd (∀ k, k < R → (s5.l.getD k []).length ≤ 1000) := ⟨fun k hk => by rw [← getD_get (by rw [HD5.out.1]; exact hk), (K5.out.ok.rowAt (by rw [HD5.out.1]; exact hk)).1]; have := K5.out.ok.c2; omega⟩
        clear ht S7 hsub hon XR HC6 H6 HD6 K5 HRS
        go_wp2_with fail
        go_loopg [74] R (fun gk vj wx => ∃ (k : Nat), vj = .int .i64 (k : Int) ∧ Hd (k + gk = R) ∧ Hd (Below w7.heap.size w7 wx))
        case atStart => exact ⟨0, rfl, ⟨by omega⟩, ⟨Below.refl _ _⟩⟩
        case round =>
          obtain ⟨k, rfl, HJ2, HB⟩ := hrel
          have h2 := HJ2.out
          have H8 := Hd.mk (H7.out.to HB.out)
          have HC8 := Hd.mk (HC7.out.to HB.out)
          by_cases hlt : k < R
          · obtain ⟨d2, rfl⟩ : ∃ d, gk = d + 1 := ⟨gk - 1, by omega⟩
            have m1 : decide ((k : Int) < (R : Int)) = true := decide_eq_true (by omega)
            have m2 : decide (k < R) = true := decide_eq_true hlt
            have m3 : (k : Int) < (R : Int) := by omega
            have m4 : (0 : Int) ≤ (k : Int) := by omega
            have m5 : (k : Int) ≤ 60 := by omega
            obtain ⟨row, hrow⟩ : ∃ row, s5.l.getD k [] = row := ⟨_, rfl⟩
            have HROW := Hd.mk hrow
            have HLR : Hd (row.length ≤ 1000) := ⟨by rw [← hrow]; exact HLQ.out k hlt⟩
            have HLRb := HLR
            clear hrow
            go_wp2_with fail
            have XR := Hd.mk (row_at H8.out.ta.t K7.out.ok (k := k) (by rw [HDR.out.1]; exact hlt))
            rw [HROW.out] at XR
            go_wp2_with fail
            go_at_call 14
            with_reducible refine XR.out.mono ?_
            rintro _ w10 ⟨r1, rfl, hrn, hrg, hr, hb⟩
            have HB10 := Hd.mk hb
            have XO := Hd.mk (old_calls hr HLR.out)
            clear XR hrn hrg hr hb
            go_wp2_with fail
            go_wp2_with fail
            go_at_call 20
            with_reducible refine XO.out.mono ?_
            rintro _ w11 ⟨A1, c1, rfl, hc1, hC1, hb⟩
            have HB11 := Hd.mk (HB10.out.trans (hb.mono HB10.out.size))
            have HC1 := Hd.mk (And.intro hc1 hC1)
            clear XO hc1 hC1 hb HB10
            go_wp2_with fail
            have XR := Hd.mk (row_at (HC8.out.to HB11.out).ta.t K7b.out.ok (k := k) (by rw [HDRb.out.1]; exact hlt))
            rw [show ({ s5 with full := false } : Tm).l.getD k [] = row from HROW.out] at XR
            go_wp2_with fail
            go_at_call 14
            with_reducible refine XR.out.mono ?_
            rintro _ w12 ⟨r2, rfl, hrn, hrg, hr, hb⟩
            have HB12 := Hd.mk (HB11.out.trans (hb.mono HB11.out.size))
            have HCb := Hd.mk (Kd.C_below HC1.out.2 hb)
            have XO := Hd.mk (old_calls hr HLRb.out)
            clear XR hrn hrg hr hb HB11
            go_wp2_with fail
            go_wp2_with fail
            go_at_call 20
            with_reducible refine XO.out.mono ?_
            rintro _ w13 ⟨A2, c2, rfl, hc2, hC2, hb⟩
            have HB13 := Hd.mk (HB12.out.trans (hb.mono HB12.out.size))
            have XS := Hd.mk (same_calls (n := row.length) rfl HLR.out (Kd.C_below HCb.out hb) hC2 HC1.out.1 hc2)
            clear XO hc2 hC2 hb HB12 HC1 HCb
            go_wp2_with fail
            go_wp2_with fail
            go_at_call 19
            with_reducible refine XS.out.mono ?_
            rintro _ w14 ⟨rfl, hb⟩
            have HB14 := Hd.mk (HB13.out.trans (hb.mono HB13.out.size))
            clear XS hb HB13
            go_wp2_with fail
            have HBn := Hd.mk (HB.out.trans (HB14.out.mono HB.out.size))
            clear HB HB14 H8 HC8
            go_wp2
            go_roundg d2
            case measure => omega
            case rel => exact ⟨k + 1, by simp, ⟨by omega⟩, HBn⟩
          · have m1 : decide ((k : Int) < (R : Int)) = false := decide_eq_false (by omega)
            have m2 : decide (k < R) = false := decide_eq_false hlt
            clear H7 HC7 HLQ
            go_wp2_with fail
            have XC := Hd.mk (cursor_calls H8.out.ta.t)
            go_wp2_with fail
            go_at_call 13
            with_reducible refine XC.out.mono ?_
            rintro _ w9 ⟨rfl, hb⟩
            have H9 := Hd.mk (H8.out.to hb)
            have HC9 := Hd.mk (HC8.out.to hb)
            clear XC hb H8 HC8
            go_wp2_with fail
            have XC := Hd.mk (cursor_calls HC9.out.ta.t)
            dsimp only at XC
            go_wp2_with fail
            go_at_call 13
            with_reducible refine XC.out.mono ?_
            rintro _ w10 ⟨rfl, hb⟩
            have H10 := Hd.mk (H9.out.to hb)
            have HC10 := Hd.mk (HC9.out.to hb)
            clear XC hb H9 HC9
            go_wp2_with fail
            have XA := Hd.mk (alive_calls w10 (HT.out.below H10.out.bl))
            go_wp2_with fail
            go_at_call 11
            with_reducible refine XA.out.mono ?_
            rintro _ w11 ⟨rfl, hb⟩
            have H11 := Hd.mk (H10.out.to hb)
            have HC11 := Hd.mk (HC10.out.to hb)
            clear XA hb H10 HC10
            go_wp2_with fail
            have XO := Hd.mk (off_calls H11.out.ta.t)
            go_wp2_with fail
            go_at_call 21
            with_reducible refine XO.out.mono ?_
            rintro _ w12 ⟨rfl, hb⟩
            have H12 := Hd.mk (H11.out.to hb)
            have HC12 := Hd.mk (HC11.out.to hb)
            clear XO hb H11 HC11
            go_wp2_with fail
            have XO := Hd.mk (off_calls HC12.out.ta.t)
            dsimp only at XO
            go_wp2_with fail
            go_at_call 21
            with_reducible refine XO.out.mono ?_
            rintro _ w13 ⟨rfl, hb⟩
            have H13 := Hd.mk (H12.out.to hb)
            clear XO hb H12 HC12
            go_wp2_with fail
            go_ret
            exact ⟨rfl, H13.out.bl⟩
end Go.Proofs.YtgifpkjcggnhgaaGreatDoorL

