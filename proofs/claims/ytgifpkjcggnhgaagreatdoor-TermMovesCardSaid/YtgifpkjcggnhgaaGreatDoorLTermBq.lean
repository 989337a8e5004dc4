/- Parts of the proof of the law that the last file states; declarations that nothing mentions are left out by a program. No conditions. -/
import Derived.Test.YtgifpkjcggnhgaaGreatDoorLTermSzq
set_option linter.unusedVariables false
set_option linter.unusedSimpArgs false
namespace Go.Proofs.YtgifpkjcggnhgaaGreatDoorL
open Go Go.RowKit Go.Proofs.YtgifpkjcggnhgaaGreatDoorW.PrintWords Go.Proofs.YtgifpkjcggnhgaaGreatDoor.K
def Begun (w0 w : World) (e : Ending) (w' : World) : Prop := Below w.heap.size w w' ∧ (e = .returned (.pointer none) ∨ ∃ T F s, e = .returned (.pointer (some ⟨T, 0, none⟩)) ∧ St w0 w' F T s ∧ TK 40000 s)
set_option maxRecDepth 100000 in
set_option maxHeartbeats 4000000 in
theorem begin_calls (a b : Int) {A : Option Addr} {c : Nat} {l : List S46} {w : World} (hc : l.length ≤ c) (hE : Kd.C k46 w A l.length l) (hQ : l.length * Tryz.prog.bytesOf 46 ≤ reachBytes ∧ ∀ x ∈ l, SizedE x) (hT : TabsT w) :
    Calls Tryz.prog 10 #[.agg #[.int .i64 a, .int .i64 b], .slice A l.length c] w fun e w' => Begun w w e w' := by
  obtain ⟨kf, rf, hfew, hfr⟩ := few_fewE hQ
  obtain ⟨n, hn⟩ : ∃ n, l.length = n := ⟨_, rfl⟩
  have HN := Hd.mk hn
  have XF := Hd.mk (fun w1 (hb : Below w.heap.size w w1) => souffleurlaw17_few.calls kf A c l rf w1 (Kd.C_below hE hb) hc hfew)
  rw [hn] at XF
  have HT := Hd.mk hT
  have HE := Hd.mk hE
  have HW : Hd (∀ x ∈ l, SizedE x) := ⟨hQ.2⟩
  have HFR := Hd.mk hfr
  have HB0 := Hd.mk ((Below.refl w.heap.size w).alloc (Nat.le_refl _) (.cells #[.int .i64 a, .int .i64 b] 22))
  have XF2 := Hd.mk (XF.out _ HB0.out)
  have X0 := Hd.mk (fun w1 => new_ta a b w1)
  have K1 := Hd.mk (TK.new a b)
  generalize newT a b = s0 at *
  rw [hn]
  clear hT hE hQ hfew hfr XF hn hc
  go_enter Tryz.func10, Tryz.ntmps10
  go_wp2_with fail
  go_at_call 23
  with_reducible refine XF2.out.mono ?_
  rintro _ w1 ⟨rfl, hb⟩
  have bx := cell_move ((Blk.new w 22 #[.int .i64 a, .int .i64 b]).cell 0 rfl) (hb.block _ (by simp))
  have by_ := cell_move ((Blk.new w 22 #[.int .i64 a, .int .i64 b]).cell 1 rfl) (hb.block _ (by simp))
  have HB := Hd.mk (HB0.out.trans (hb.mono HB0.out.size))
  clear hb XF2 HB0
  cases rf with
  | false =>
    go_wp2_with fail
    go_ret
    exact ⟨HB.out, .inl rfl⟩
  | true =>
    have HFW := Hd.mk (HFR.out rfl)
    have hl40 : n ≤ 40 := by rw [← HN.out]; exact HFW.out.1
    clear HFR
    by_cases ha : 60 < a
    · have ha1 : decide (60 < a) = true := decide_eq_true ha
      go_wp2_with fail
      go_ret
      exact ⟨HB.out, .inl rfl⟩
    have ha1 : decide (60 < a) = false := decide_eq_false ha
    by_cases hbb : 120 < b
    · have hb1 : decide (120 < b) = true := decide_eq_true hbb
      go_wp2_with fail
      go_ret
      exact ⟨HB.out, .inl rfl⟩
    have hb1 : decide (120 < b) = false := decide_eq_false hbb
    have X1 := Hd.mk (X0.out w1)
    clear X0
    go_wp2_with fail
    go_at_call 16
    with_reducible refine X1.out.mono ?_
    rintro _ w2 ⟨T, rfl, ⟨F1, hta, hF⟩, hb⟩
    have H2 := Hd.mk (St.new HB.out hta hF hb)
    clear hta hF hb X1 bx by_ ha hbb ha1 hb1 HB
    go_wp2_with fail
    go_loopg [28] n (fun gk vj wx => ∃ (j : Nat) (F : Nat → Prop) (s : Tm), vj = .int .i64 (j : Int) ∧ Hd (j + gk = n) ∧ Hd (St w wx F T s) ∧ Hd (TK (4 + 64 * j + 32 * lenSum (l.take j)) s))
    case atStart => exact ⟨0, F1, s0, rfl, ⟨by omega⟩, H2, K1⟩
    case round =>
      clear K1 H2
      obtain ⟨j, F, s, rfl, HJ, H3, K1⟩ := hrel
      have h1 := HJ.out
      by_cases hlt : j < n
      · obtain ⟨d, rfl⟩ : ∃ d, gk = d + 1 := ⟨gk - 1, by omega⟩
        have hjl : j < l.length := by rw [HN.out]; exact hlt
        obtain ⟨ad, A3, c3, rfl, h0, h1', h2, h3, hlc, hC⟩ := ev_at HE.out H3.out.bl hjl
        have hls := lenSum_take hjl
        have hle := lenSum_le l (j + 1)
        have hfw := HFW.out.2
        unfold lenE at hls
        have HA := Hd.mk (H3.out.alloc (.cells #[.bool l[j].f0, .int .i64 l[j].f1, .int .i64 l[j].f2, .slice A3 (l[j].f3).length c3] 46))
        have HCC := Hd.mk hC
        have HWB := Hd.mk (HW.out _ (List.getElem_mem hjl)).2
        have HLS : Hd (4 + 64 * (j + 1) + 32 * lenSum (l.take (j + 1)) = 4 + 64 * j + 32 * lenSum (l.take j) + 64 + 32 * (l[j].f3).length ∧ 4 + 64 * j + 32 * lenSum (l.take j) ≤ 30000 ∧ (l[j].f3).length ≤ 800) := ⟨by omega, by omega, by omega⟩
        have hbx3 := (Blk.new wr 46 #[.bool l[j].f0, .int .i64 l[j].f1, .int .i64 l[j].f2, .slice A3 (l[j].f3).length c3]).cell 3 rfl
        have HNF : Hd (¬ F wr.heap.size) := ⟨fun hk => Nat.lt_irrefl _ (H3.out.ta.lt _ hk)⟩
        clear hls hle hfw hC hlc HE HW HFW H3
        generalize l[j] = ev at *
        generalize 4 + 64 * j + 32 * lenSum (l.take j) = m at *
        have l1 : decide ((j : Int) < (n : Int)) = true := decide_eq_true (by omega)
        have l2 : decide (j < n) = true := decide_eq_true hlt
        have l3 : (j : Int) < (n : Int) := by omega
        have l4 : (0 : Int) ≤ (j : Int) := by omega
        have l5 : (j : Int) ≤ 40 := by omega
        clear hjl
        cases hf0 : ev.f0 with
        | false =>
          rw [hf0] at h0 HA hbx3
          have XFd := Hd.mk (feed_ev (A := A3) (c := c3) HA.out K1.out HT.out HCC.out HWB.out (by have := HLS.out; omega))
          have K2 : Hd (TK (4 + 64 * (j + 1) + 32 * lenSum (l.take (j + 1))) (s.feed (toB ev.f3))) := ⟨(K1.out.feed (toB ev.f3)).mono (by rw [toB_len]; have := HLS.out; omega)⟩
          clear hbx3 HNF K1 HCC HWB HLS
          go_wp2_with fail
          go_at_call 17
          with_reducible refine XFd.out.mono ?_
          rintro _ w4 ⟨rfl, ht⟩
          obtain ⟨F4, S4, hsub, hon⟩ := St.told HA.out ht
          have H4 := Hd.mk S4
          clear ht S4 hsub hon XFd HA h0 h1' h2 h3
          go_wp2
          go_roundg d
          case measure => omega
          case rel => exact ⟨j + 1, F4, _, by simp, ⟨by omega⟩, H4, K2⟩
        | true =>
          rw [hf0] at h0 HA hbx3
          have XRs := Hd.mk (resize_ta HA.out.ta K1.out (by have := HLS.out; omega) ev.f1 ev.f2)
          have K3 := Hd.mk (K1.out.resize ev.f1 ev.f2)
          clear K1
          go_wp2_with fail
          go_at_call 24
          with_reducible refine XRs.out.mono ?_
          rintro _ w4 ⟨rfl, ht⟩
          obtain ⟨F4, S4, hsub, hon⟩ := St.told HA.out ht
          have H4 := Hd.mk S4
          have hbx3' := cell_move hbx3 (hon.block wr.heap.size (by simp) HNF.out)
          clear ht S4 hsub hon XRs HA h0 h1' h2 h3 hbx3 HNF
          generalize s.resize ev.f1 ev.f2 = s3 at *
          have XFd := Hd.mk (feed_ev (A := A3) (c := c3) H4.out K3.out HT.out HCC.out HWB.out (by have := HLS.out; omega))
          have K2 : Hd (TK (4 + 64 * (j + 1) + 32 * lenSum (l.take (j + 1))) (s3.feed (toB ev.f3))) := ⟨(K3.out.feed (toB ev.f3)).mono (by rw [toB_len]; have := HLS.out; omega)⟩
          clear K3 HCC HWB HLS
          go_wp2_with fail
          go_at_call 17
          with_reducible refine XFd.out.mono ?_
          rintro _ w5 ⟨rfl, ht⟩
          obtain ⟨F5, S5, hsub, hon⟩ := St.told H4.out ht
          have H5 := Hd.mk S5
          clear ht S5 hsub hon XFd H4 hbx3'
          go_wp2
          go_roundg d
          case measure => omega
          case rel => exact ⟨j + 1, F5, _, by simp, ⟨by omega⟩, H5, K2⟩
      · have l1 : decide ((j : Int) < (n : Int)) = false := decide_eq_false (by omega)
        have l2 : decide (j < n) = false := decide_eq_false hlt
        have K9 : Hd (TK 40000 s) := ⟨K1.out.mono (by have h1 := lenSum_le l j; have h2 := HFW.out.2; omega)⟩
        clear K1 HE HW HFW HN
        go_wp2_with fail
        go_ret
        exact ⟨H3.out.bl, .inr ⟨T, F, s, rfl, H3.out, K9.out⟩⟩
end Go.Proofs.YtgifpkjcggnhgaaGreatDoorL

