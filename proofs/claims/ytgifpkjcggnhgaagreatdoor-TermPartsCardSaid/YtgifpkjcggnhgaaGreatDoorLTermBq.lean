/- Parts of the proof of the law that the last file states; declarations that nothing mentions are left out by a program. No conditions. -/
import Derived.Test.YtgifpkjcggnhgaaGreatDoorLTermSzq
import Derived.Test.YtgifpkjcggnhgaaGreatDoorLawTermLettersq
set_option linter.unusedVariables false
set_option linter.unusedSimpArgs false
section
namespace Go.Proofs.YtgifpkjcggnhgaaGreatDoorL
open Go Go.RowKit Go.Proofs.YtgifpkjcggnhgaaGreatDoorW.PrintWords Go.Proofs.YtgifpkjcggnhgaaGreatDoor.K
def Begun (w0 w : World) (e : Ending) (w' : World) : Prop := Below w.heap.size w w' ∧ (e = .returned (.pointer none) ∨ ∃ T F s, e = .returned (.pointer (some ⟨T, 0, none⟩)) ∧ St w0 w' F T s ∧ TK 40000 s)
set_option maxRecDepth 100000 in
set_option maxHeartbeats 4000000 in
theorem begin_calls (a b : Int) {A : Option Addr} {c : Nat} {l : List S46} {w : World} (hc : l.length ≤ c) (hE : Kd.C k46 w A l.length l) (hQ : l.length * Tryz.prog.bytesOf 46 ≤ reachBytes ∧ ∀ x ∈ l, SizedE x) (hT : TabsT w) :
    Calls Tryz.prog 10 #[.agg #[.int .i64 a, .int .i64 b], .slice A l.length c] w fun e w' => Begun w w e w' := by
  obtain ⟨kf, rf, hfew, hfr⟩ := few_fewE hQ
  obtain ⟨n, hn⟩ : ∃ n, l.length = n := ⟨_, rfl⟩
  have HN := Hd.mk hn
  have XF := Hd.mk (fun w1 (hb : Below w.heap.size w w1) => souffleurlaw17_few.calls kf A c l rf w1 (Kd.C_below hE hb) hc hfew)
  rw [hn] at XF
  have HT := Hd.mk hT
  have HE := Hd.mk hE
  have HW : Hd (∀ x ∈ l, SizedE x) := ⟨hQ.2⟩
  have HFR := Hd.mk hfr
  have HB0 := Hd.mk ((Below.refl w.heap.size w).alloc (Nat.le_refl _) (.cells #[.int .i64 a, .int .i64 b] 22))
  have XF2 := Hd.mk (XF.out _ HB0.out)
  have X0 := Hd.mk (fun w1 => new_ta a b w1)
  have K1 := Hd.mk (TK.new a b)
  generalize newT a b = s0 at *
  rw [hn]
  clear hT hE hQ hfew hfr XF hn hc
  go_enter Tryz.func10, Tryz.ntmps10
  go_wp2_with fail
  go_at_call 23
  with_reducible refine XF2.out.mono ?_
  rintro _ w1 ⟨rfl, hb⟩
  have bx := cell_move ((Blk.new w 22 #[.int .i64 a, .int .i64 b]).cell 0 rfl) (hb.block _ (by simp))
  have by_ := cell_move ((Blk.new w 22 #[.int .i64 a, .int .i64 b]).cell 1 rfl) (hb.block _ (by simp))
  have HB := Hd.mk (HB0.out.trans (hb.mono HB0.out.size))
  clear hb XF2 HB0
  cases rf with
  | false =>
    go_wp2_with fail
    go_ret
    exact ⟨HB.out, .inl rfl⟩
  | true =>
    have HFW := Hd.mk (HFR.out rfl)
    have hl40 : n ≤ 40 := by rw [← HN.out]; exact HFW.out.1
    clear HFR
    by_cases ha : 60 < a
    · have ha1 : decide (60 < a) = true := decide_eq_true ha
      go_wp2_with fail
      go_ret
      exact ⟨HB.out, .inl rfl⟩
    have ha1 : decide (60 < a) = false := decide_eq_false ha
    by_cases hbb : 120 < b
    · have hb1 : decide (120 < b) = true := decide_eq_true hbb
      go_wp2_with fail
      go_ret
      exact ⟨HB.out, .inl rfl⟩
    have hb1 : decide (120 < b) = false := decide_eq_false hbb
    have X1 := Hd.mk (X0.out w1)
    clear X0
    go_wp2_with fail
    go_at_call 16
    with_reducible refine X1.out.mono ?_
    rintro _ w2 ⟨T, rfl, ⟨F1, hta, hF⟩, hb⟩
    have H2 := Hd.mk (St.new HB.out hta hF hb)
    clear hta hF hb X1 bx by_ ha hbb ha1 hb1 HB
    go_wp2_with fail
    go_loopg [28] n (fun gk vj wx => ∃ (j : Nat) (F : Nat → Prop) (s : Tm), vj = .int .i64 (j : Int) ∧ Hd (j + gk = n) ∧ Hd (St w wx F T s) ∧ Hd (TK (4 + 64 * j + 32 * lenSum (l.take j)) s))
    case atStart => exact ⟨0, F1, s0, rfl, ⟨by omega⟩, H2, K1⟩
    case round =>
      clear K1 H2
      obtain ⟨j, F, s, rfl, HJ, H3, K1⟩ := hrel
      have h1 := HJ.out
      by_cases hlt : j < n
      · obtain ⟨d, rfl⟩ : ∃ d, gk = d + 1 := ⟨gk - 1, by omega⟩
        have hjl : j < l.length := by rw [HN.out]; exact hlt
        obtain ⟨ad, A3, c3, rfl, h0, h1', h2, h3, hlc, hC⟩ := ev_at HE.out H3.out.bl hjl
        have hls := lenSum_take hjl
        have hle := lenSum_le l (j + 1)
        have hfw := HFW.out.2
        unfold lenE at hls
        have HA := Hd.mk (H3.out.alloc (.cells #[.bool l[j].f0, .int .i64 l[j].f1, .int .i64 l[j].f2, .slice A3 (l[j].f3).length c3] 46))
        have HCC := Hd.mk hC
        have HWB := Hd.mk (HW.out _ (List.getElem_mem hjl)).2
        have HLS : Hd (4 + 64 * (j + 1) + 32 * lenSum (l.take (j + 1)) = 4 + 64 * j + 32 * lenSum (l.take j) + 64 + 32 * (l[j].f3).length ∧ 4 + 64 * j + 32 * lenSum (l.take j) ≤ 30000 ∧ (l[j].f3).length ≤ 800) := ⟨by omega, by omega, by omega⟩
        have hbx3 := (Blk.new wr 46 #[.bool l[j].f0, .int .i64 l[j].f1, .int .i64 l[j].f2, .slice A3 (l[j].f3).length c3]).cell 3 rfl
        have HNF : Hd (¬ F wr.heap.size) := ⟨fun hk => Nat.lt_irrefl _ (H3.out.ta.lt _ hk)⟩
        clear hls hle hfw hC hlc HE HW HFW H3
        generalize l[j] = ev at *
        generalize 4 + 64 * j + 32 * lenSum (l.take j) = m at *
        have l1 : decide ((j : Int) < (n : Int)) = true := decide_eq_true (by omega)
        have l2 : decide (j < n) = true := decide_eq_true hlt
        have l3 : (j : Int) < (n : Int) := by omega
        have l4 : (0 : Int) ≤ (j : Int) := by omega
        have l5 : (j : Int) ≤ 40 := by omega
        clear hjl
        cases hf0 : ev.f0 with
        | false =>
          rw [hf0] at h0 HA hbx3
          have XFd := Hd.mk (feed_ev (A := A3) (c := c3) HA.out K1.out HT.out HCC.out HWB.out (by have := HLS.out; omega))
          have K2 : Hd (TK (4 + 64 * (j + 1) + 32 * lenSum (l.take (j + 1))) (s.feed (toB ev.f3))) := ⟨(K1.out.feed (toB ev.f3)).mono (by rw [toB_len]; have := HLS.out; omega)⟩
          clear hbx3 HNF K1 HCC HWB HLS
          go_wp2_with fail
          go_at_call 17
          with_reducible refine XFd.out.mono ?_
          rintro _ w4 ⟨rfl, ht⟩
          obtain ⟨F4, S4, hsub, hon⟩ := St.told HA.out ht
          have H4 := Hd.mk S4
          clear ht S4 hsub hon XFd HA h0 h1' h2 h3
          go_wp2
          go_roundg d
          case measure => omega
          case rel => exact ⟨j + 1, F4, _, by simp, ⟨by omega⟩, H4, K2⟩
        | true =>
          rw [hf0] at h0 HA hbx3
          have XRs := Hd.mk (resize_ta HA.out.ta K1.out (by have := HLS.out; omega) ev.f1 ev.f2)
          have K3 := Hd.mk (K1.out.resize ev.f1 ev.f2)
          clear K1
          go_wp2_with fail
          go_at_call 24
          with_reducible refine XRs.out.mono ?_
          rintro _ w4 ⟨rfl, ht⟩
          obtain ⟨F4, S4, hsub, hon⟩ := St.told HA.out ht
          have H4 := Hd.mk S4
          have hbx3' := cell_move hbx3 (hon.block wr.heap.size (by simp) HNF.out)
          clear ht S4 hsub hon XRs HA h0 h1' h2 h3 hbx3 HNF
          generalize s.resize ev.f1 ev.f2 = s3 at *
          have XFd := Hd.mk (feed_ev (A := A3) (c := c3) H4.out K3.out HT.out HCC.out HWB.out (by have := HLS.out; omega))
          have K2 : Hd (TK (4 + 64 * (j + 1) + 32 * lenSum (l.take (j + 1))) (s3.feed (toB ev.f3))) := ⟨(K3.out.feed (toB ev.f3)).mono (by rw [toB_len]; have := HLS.out; omega)⟩
          clear K3 HCC HWB HLS
          go_wp2_with fail
          go_at_call 17
          with_reducible refine XFd.out.mono ?_
          rintro _ w5 ⟨rfl, ht⟩
          obtain ⟨F5, S5, hsub, hon⟩ := St.told H4.out ht
          have H5 := Hd.mk S5
          clear ht S5 hsub hon XFd H4 hbx3'
          go_wp2
          go_roundg d
          case measure => omega
          case rel => exact ⟨j + 1, F5, _, by simp, ⟨by omega⟩, H5, K2⟩
      · have l1 : decide ((j : Int) < (n : Int)) = false := decide_eq_false (by omega)
        have l2 : decide (j < n) = false := decide_eq_false hlt
        have K9 : Hd (TK 40000 s) := ⟨K1.out.mono (by have h1 := lenSum_le l j; have h2 := HFW.out.2; omega)⟩
        clear K1 HE HW HFW HN
        go_wp2_with fail
        go_ret
        exact ⟨H3.out.bl, .inr ⟨T, F, s, rfl, H3.out, K9.out⟩⟩
end Go.Proofs.YtgifpkjcggnhgaaGreatDoorL
end
section
namespace Go.Proofs.YtgifpkjcggnhgaaGreatDoorL
open Go Go.RowKit
structure Calm (s : Tm) : Prop where
  inn : s.inn = 0
  b : s.b = []
section
variable {M : Nat} {s t : Tm}
theorem feed_cons' (s : Tm) (x : UInt8) (l : List UInt8) : s.feed (x :: l) = (s.byte x).feed l := by unfold Tm.feed; rw [List.foldl_cons]
theorem feed_nil (s : Tm) : s.feed [] = s := rfl
theorem signs_inn : ∀ (l : List Nat) (s : Tm), (s.signs l).inn = s.inn
  | [], s => rfl
  | r :: l, s => by
    have e : s.signs (r :: l) = (s.sign (r : Int)).signs l := by unfold Tm.signs; rw [List.foldl_cons]
    rw [e, signs_inn l, (sign_keeps s (r : Int)).1]
theorem byte_24 (s : Tm) (hi : s.inn ≤ 2) : (s.byte 24).inn = 0 := by
  have hx : (24 : UInt8).toNat = 24 := rfl
  unfold Tm.byte
  rw [hx, if_neg (by omega)]
  split
  · rename_i h
    rcases h with h | h
    · unfold Tm.plain
      rw [if_neg (by decide), if_pos (.inl (by decide))]
      rw [(control_keeps _ _).2.2]
      show (s.signs _).inn = 0
      rw [signs_inn, h]
    · omega
  rename_i h
  rw [if_neg (by omega), if_neg (by omega), if_neg (by omega)]
theorem byte_13 (s : Tm) (hi : s.inn = 0) : Calm (s.byte 13) ∧ (s.byte 13).col = 0 ∧ (s.byte 13).full = false := by
  have hx : (13 : UInt8).toNat = 13 := rfl
  unfold Tm.byte
  rw [hx, if_neg (by omega), if_pos (.inl hi)]
  unfold Tm.plain
  rw [if_neg (by decide), if_pos (.inl (by decide))]
  unfold Tm.control
  rw [if_pos rfl]
  refine ⟨⟨?_, rfl⟩, rfl, rfl⟩
  show (s.signs _).inn = 0
  rw [signs_inn, hi]
theorem settle (s : Tm) (hi : s.inn ≤ 2) : Calm (s.feed [24, 13]) ∧ (s.feed [24, 13]).col = 0 ∧ (s.feed [24, 13]).full = false := by
  rw [feed_cons', feed_cons', feed_nil]
  exact byte_13 _ (byte_24 s hi)
theorem calm_27 (h : Calm s) : s.byte 27 = { s with inn := 1 } := by
  have hx : (27 : UInt8).toNat = 27 := rfl
  unfold Tm.byte
  rw [hx, if_neg (by omega), if_pos (.inr rfl), h.b]
  unfold Tm.plain
  rw [if_pos rfl]
  have e : ({ s.signs (runesL []) with b := [] } : Tm) = s := by
    show ({ s with b := [] } : Tm) = s
    rw [← h.b]
  rw [e]
  rw [h.b]
theorem open_91 (h : s.inn = 1) : s.byte 91 = { s with inn := 2, seq := ⟨#[]⟩ } := by
  have hx : (91 : UInt8).toNat = 91 := rfl
  unfold Tm.byte
  rw [hx, if_neg (by omega), if_neg (by omega), if_pos ⟨h, rfl⟩]
theorem seq_more (h : s.inn = 2) {x : UInt8} (h1 : 32 ≤ x.toNat) (h2 : x.toNat < 64) (hs : s.seq.size < 16) : s.byte x = { s with seq := s.seq.push x } := by
  unfold Tm.byte
  rw [if_neg (by omega), if_neg (by omega), if_neg (by omega), if_pos ⟨h, h1, h2⟩, if_pos hs]
theorem seq_end (h : s.inn = 2) {x : UInt8} (h1 : 64 ≤ x.toNat) (h2 : x.toNat ≤ 126) : s.byte x = Tm.ends { s with inn := 0 } s.seq.data.toList x.toNat := by
  unfold Tm.byte
  rw [if_neg (by omega), if_neg (by omega), if_neg (by omega), if_neg (by omega), if_pos ⟨h, h1, h2⟩]
theorem esc_none (h : Calm s) {x : UInt8} (h1 : 64 ≤ x.toNat) (h2 : x.toNat ≤ 126) : s.feed [27, 91, x] = Tm.ends { s with inn := 0, seq := ⟨#[]⟩ } [] x.toNat := by
  rw [feed_cons', feed_cons', feed_cons', feed_nil, calm_27 h, open_91 rfl, seq_end rfl h1 h2]
theorem eraseR_get : ∀ (n k : Nat) (l : List TC), RowOK l → k + n = l.length → RowOK (eraseR n k l) ∧ ∀ j, (k ≤ j → getC (eraseR n k l) j = blankC) ∧ (j < k → getC l j = blankC → getC (eraseR n k l) j = blankC)
  | 0, k, l, h, hl => ⟨h, fun j => ⟨fun hj => by
      show getC l j = blankC
      unfold getC
      rw [List.getD_eq_getElem?_getD, List.getElem?_eq_none (by omega)]
      rfl, fun _ hb => hb⟩⟩
  | n + 1, k, l, h, hl => by
    have hk : k < l.length := by omega
    have h1 := putR_ok h hk blank_one
    have ih := eraseR_get n (k + 1) (putR l k blankC) h1 (by rw [putR_len]; omega)
    have hp : ∀ j, j < k → getC l j = blankC → getC (putR l k blankC) j = blankC := fun j hj hb => by
      rw [putR_get h hk, if_neg (by omega)]
      split
      · rfl
      split
      · rfl
      · exact hb
    unfold eraseR
    refine ⟨ih.1, fun j => ⟨fun hj => ?_, fun hj hb => (ih.2 j).2 (by omega) (hp j hj hb)⟩⟩
    by_cases hjk : j = k
    · subst hjk
      exact (ih.2 j).2 (by omega) (by rw [putR_get h hk, if_pos rfl])
    · exact (ih.2 j).1 (by omega)
theorem eraseR_all {l : List TC} (h : RowOK l) : eraseR l.length 0 l = blankR l.length := by
  have h1 := eraseR_get l.length 0 l h (by omega)
  refine List.ext_getElem (by rw [eraseR_len, blankR_len]) (fun j hj hj2 => ?_)
  rw [← getC_get hj, ← getC_get hj2, (h1.2 j).1 (Nat.zero_le _), getC_blankR]
theorem erase_row (h : OKT M s) {r : Nat} (hr : r < s.l.length) : (s.erase r 0).l.getD r [] = blankR s.cols ∧ ∀ i, i ≠ r → (s.erase r 0).l.getD i [] = s.l.getD i [] := by
  have hrow := h.rows s.l[r] (List.getElem_mem hr)
  have eg : s.l.getD r [] = s.l[r] := by rw [List.getD_eq_getElem?_getD, List.getElem?_eq_getElem hr]; rfl
  constructor
  · show (s.l.modify r (eraseR (s.cols - 0) 0)).getD r [] = _
    rw [getD_modify hr, if_pos rfl, eg, Nat.sub_zero, ← hrow.1]
    exact eraseR_all hrow.2.1
  · intro i hi
    show (s.l.modify r (eraseR (s.cols - 0) 0)).getD i [] = _
    rw [getD_modify hr, if_neg hi]
theorem eraseRest_get : ∀ (n k M : Nat) (s : Tm), OKT M s → k + n = s.l.length → (∀ i, k ≤ i → i < s.l.length → (eraseRest n k s).l.getD i [] = blankR s.cols) ∧ ∀ i, i < k → (eraseRest n k s).l.getD i [] = s.l.getD i []
  | 0, k, M, s, h, hl => ⟨fun i h1 h2 => by omega, fun i _ => rfl⟩
  | n + 1, k, M, s, h, hl => by
    have hk : k < s.l.length := by omega
    have h1 := erase_row h hk
    have h2 := h.erase k 0 (Nat.zero_le _)
    have hd := dims_onRow s k (eraseR (s.cols - 0) 0)
    have ih := eraseRest_get n (k + 1) M (s.erase k 0) h2 (by rw [show (s.erase k 0).l.length = s.l.length from hd.2]; omega)
    rw [show (s.erase k 0).l.length = s.l.length from hd.2] at ih
    show (∀ i, k ≤ i → i < s.l.length → (eraseRest n (k + 1) (s.erase k 0)).l.getD i [] = blankR s.cols) ∧ ∀ i, i < k → (eraseRest n (k + 1) (s.erase k 0)).l.getD i [] = s.l.getD i []
    refine ⟨fun i hi1 hi2 => ?_, fun i hi => ?_⟩
    · by_cases e : i = k
      · subst e
        rw [ih.2 i (by omega), h1.1]
      · exact ih.1 i (by omega) hi2
    · rw [ih.2 i (by omega), h1.2 i (by omega)]
end
end Go.Proofs.YtgifpkjcggnhgaaGreatDoorL
end
