/- Parts of the proof of the law that the last file states; declarations that nothing mentions are left out by a program. No conditions. -/
import Derived.Test.YtgifpkjcggnhgaaGreatDoorLTermWPq
set_option linter.unusedVariables false
set_option linter.unusedSimpArgs false
namespace Go.Proofs.YtgifpkjcggnhgaaGreatDoorL
open Go Go.RowKit Go.Proofs.YtgifpkjcggnhgaaGreatDoorW.PrintWords
attribute [local go_sem high] eqCell
theorem blank2_calls (w : World) : Calls Tryz.prog 25 #[] w fun e w' => e = .returned (.agg #[.string ⟨#[32]⟩, .int .i64 1, .bool false]) ∧ Below w.heap.size w w' := blankc_calls w
theorem wide_three {w : World} {r : RR} {E C k i m p : Nat} (h : RowAt w r (lineW E C k i)) (hp : 2 * m = p) (hm : m < E) (hC : 2 * E ≤ C) (hk : i * E + m < k) : w.cell? ⟨r.g, p * 3, none⟩ = some (.string ⟨#[228, 184, 173]⟩) ∧ w.cell? ⟨r.g, p * 3 + 1, none⟩ = some (.int .i64 2) ∧ w.cell? ⟨r.g, p * 3 + 2, none⟩ = some (.bool false) := by
  have h1 := h.three (k := p) (by rw [lineW_len]; omega)
  rw [lineW_get (by omega), if_pos ⟨by omega, by rw [show p / 2 = m by omega]; exact hk⟩, if_pos (by omega)] at h1
  rw [← mid_bytes]
  exact h1
theorem half_three {w : World} {r : RR} {E C k i m p : Nat} (h : RowAt w r (lineW E C k i)) (hp : 2 * m = p) (hm : m < E) (hC : 2 * E ≤ C) (hk : i * E + m < k) : w.cell? ⟨r.g, (p + 1) * 3, none⟩ = some (.string ⟨#[]⟩) ∧ w.cell? ⟨r.g, (p + 1) * 3 + 1, none⟩ = some (.int .i64 0) ∧ w.cell? ⟨r.g, (p + 1) * 3 + 2, none⟩ = some (.bool false) := by
  have h1 := h.three (k := p + 1) (by rw [lineW_len]; omega)
  rw [lineW_get (by omega), if_pos ⟨by omega, by rw [show (p + 1) / 2 = m by omega]; exact hk⟩, if_neg (by omega)] at h1
  exact h1
theorem last_three {w : World} {r : RR} {E C k i : Nat} (h : RowAt w r (lineW E C k i)) (hC : 1 ≤ C) (he : E ≤ (C - 1) / 2) : w.cell? ⟨r.g, (C - 1) * 3, none⟩ = some (.string ⟨#[32]⟩) ∧ w.cell? ⟨r.g, (C - 1) * 3 + 1, none⟩ = some (.int .i64 1) ∧ w.cell? ⟨r.g, (C - 1) * 3 + 2, none⟩ = some (.bool false) := by
  have h1 := h.three (k := C - 1) (by rw [lineW_len]; omega)
  rw [lineW_last (by omega) he] at h1
  exact h1
set_option maxRecDepth 100000 in
set_option maxHeartbeats 4000000 in
theorem wides_bad (a b n : Int) (w : World) (hT : TabsT w) (hbad : ¬ (1 ≤ n ∧ n ≤ 200 ∧ 1 ≤ a ∧ a ≤ 60 ∧ 2 ≤ b ∧ b ≤ 120)) :
    Calls Tryz.prog 9 #[.int .i64 a, .int .i64 b, .int .i64 n] w fun e w' => e = .returned (.bool true) ∧ Below w.heap.size w w' := by
  have HT := Hd.mk hT
  have X0 := Hd.mk (new_ta a b w)
  have HBAD := Hd.mk hbad
  clear hT hbad
  go_enter Tryz.func9, Tryz.ntmps9
  go_wp2_with fail
  go_at_call 16
  with_reducible refine X0.out.mono ?_
  rintro _ w1 ⟨T, rfl, ⟨F1, hta, hF⟩, hb⟩
  have HB := Hd.mk hb
  have XA := Hd.mk (alive_calls w1 (HT.out.below hb))
  clear hta hF hb X0
  by_cases c0 : n < 1
  · have d0 : decide (n < 1) = true := decide_eq_true c0
    go_wp2_with fail
    go_at_call 11
    with_reducible refine XA.out.mono ?_
    rintro _ w3 ⟨rfl, hb⟩
    have HB2 := Hd.mk (HB.out.trans (hb.mono HB.out.size))
    clear hb XA HB
    go_wp2_with fail
    go_ret
    exact ⟨rfl, HB2.out⟩
  have d0 : decide (n < 1) = false := decide_eq_false c0
  by_cases c1 : 200 < n
  · have d1 : decide (200 < n) = true := decide_eq_true c1
    go_wp2_with fail
    go_at_call 11
    with_reducible refine XA.out.mono ?_
    rintro _ w3 ⟨rfl, hb⟩
    have HB2 := Hd.mk (HB.out.trans (hb.mono HB.out.size))
    clear hb XA HB
    go_wp2_with fail
    go_ret
    exact ⟨rfl, HB2.out⟩
  have d1 : decide (200 < n) = false := decide_eq_false c1
  by_cases c2 : a < 1
  · have d2 : decide (a < 1) = true := decide_eq_true c2
    go_wp2_with fail
    go_at_call 11
    with_reducible refine XA.out.mono ?_
    rintro _ w3 ⟨rfl, hb⟩
    have HB2 := Hd.mk (HB.out.trans (hb.mono HB.out.size))
    clear hb XA HB
    go_wp2_with fail
    go_ret
    exact ⟨rfl, HB2.out⟩
  have d2 : decide (a < 1) = false := decide_eq_false c2
  by_cases c3 : 60 < a
  · have d3 : decide (60 < a) = true := decide_eq_true c3
    go_wp2_with fail
    go_at_call 11
    with_reducible refine XA.out.mono ?_
    rintro _ w3 ⟨rfl, hb⟩
    have HB2 := Hd.mk (HB.out.trans (hb.mono HB.out.size))
    clear hb XA HB
    go_wp2_with fail
    go_ret
    exact ⟨rfl, HB2.out⟩
  have d3 : decide (60 < a) = false := decide_eq_false c3
  by_cases c4 : b < 2
  · have d4 : decide (b < 2) = true := decide_eq_true c4
    go_wp2_with fail
    go_at_call 11
    with_reducible refine XA.out.mono ?_
    rintro _ w3 ⟨rfl, hb⟩
    have HB2 := Hd.mk (HB.out.trans (hb.mono HB.out.size))
    clear hb XA HB
    go_wp2_with fail
    go_ret
    exact ⟨rfl, HB2.out⟩
  have d4 : decide (b < 2) = false := decide_eq_false c4
  by_cases c5 : 120 < b
  · have d5 : decide (120 < b) = true := decide_eq_true c5
    go_wp2_with fail
    go_at_call 11
    with_reducible refine XA.out.mono ?_
    rintro _ w3 ⟨rfl, hb⟩
    have HB2 := Hd.mk (HB.out.trans (hb.mono HB.out.size))
    clear hb XA HB
    go_wp2_with fail
    go_ret
    exact ⟨rfl, HB2.out⟩
  have d5 : decide (120 < b) = false := decide_eq_false c5
  exact absurd (show 1 ≤ n ∧ n ≤ 200 ∧ 1 ≤ a ∧ a ≤ 60 ∧ 2 ≤ b ∧ b ≤ 120 by omega) HBAD.out
set_option maxRecDepth 100000 in
set_option maxHeartbeats 4000000 in
theorem wides_good (R C E n : Nat) (w : World) (hT : TabsT w) (hn1 : 1 ≤ n) (hn2 : n ≤ 200) (hR1 : 1 ≤ R) (hR2 : R ≤ 60) (hC1 : 2 ≤ C) (hC2 : C ≤ 120) (hCE : C / 2 = E) :
    Calls Tryz.prog 9 #[.int .i64 (R : Int), .int .i64 (C : Int), .int .i64 (n : Int)] w fun e w' => e = .returned (.bool true) ∧ Below w.heap.size w w' := by
  have HT := Hd.mk hT
  have X0 := Hd.mk (new_ta R C w)
  have K1 := Hd.mk (TK.new R C)
  have L1 := Hd.mk (newT_wide R C E hR1 hR2 (by omega) hC2)
  have I1 : Hd ((newT (R : Int) (C : Int)).inn = 0 ∧ (newT (R : Int) (C : Int)).b = []) := ⟨⟨rfl, rfl⟩⟩
  generalize newT (R : Int) (C : Int) = s0 at *
  have hE1 : 1 ≤ E := by omega
  have i1 : (1 : Int) ≤ (n : Int) := by omega
  have i2 : (n : Int) ≤ 200 := by omega
  have i3 : (1 : Int) ≤ (R : Int) := by omega
  have i4 : (R : Int) ≤ 60 := by omega
  have i5 : (2 : Int) ≤ (C : Int) := by omega
  have i6 : (C : Int) ≤ 120 := by omega
  have i7 : (1 : Int) ≤ (E : Int) := by omega
  have i8 : (E : Int) ≤ 60 := by omega
  have hEC : 2 * E ≤ C := by omega
  have hEC2 : C ≤ 2 * E + 1 := by omega
  have HC2 := Hd.mk hCE
  have E0 : (C : Int) / 2 = (E : Int) := by rw [← hCE]; exact (Int.natCast_ediv _ _).symm
  have hcv := fun W C n c => Lib.run_convert_bytes_const (P := Tryz.prog) W 34 5 C n c Tryz.underlying34 Tryz.underlying5
  clear hT hCE
  go_enter Tryz.func9, Tryz.ntmps9
  go_wp2_with fail
  go_at_call 16
  with_reducible refine X0.out.mono ?_
  rintro _ w1 ⟨T, rfl, ⟨F1, hta, hF⟩, hb⟩
  have H1 := Hd.mk (St.new (Below.refl _ w) hta hF hb)
  clear hta hF hb X0
  go_wp2_with fail
  go_loopg [49] n (fun gk vj wx => ∃ (k : Nat) (F : Nat → Prop) (s : Tm), vj = .int .i64 (k : Int) ∧ Hd (k + gk = n) ∧ Hd (St w wx F T s) ∧ Hd (TK (4 + 96 * k) s) ∧ Hd (LetW R C E k s ∧ s.inn = 0 ∧ s.b = []))
  case atStart => exact ⟨0, F1, s0, rfl, ⟨by omega⟩, H1, K1, ⟨L1.out, I1.out⟩⟩
  case round =>
    clear K1 H1 L1 I1
    obtain ⟨k, F, s, rfl, HJ, H3, K3, L3⟩ := hrel
    have h1 := HJ.out
    by_cases hlt : k < n
    · obtain ⟨d, rfl⟩ : ∃ d, gk = d + 1 := ⟨gk - 1, by omega⟩
      have XF := Hd.mk (feed_lit (n := 3) (c := 3) (l := [228, 184, 173]) H3.out.ta K3.out rfl (by show 4 + 96 * k + 32 * 3 + 64 ≤ 900000; omega) (HT.out.below H3.out.bl) (H3.out.outT HT.out) (3, 4))
      rw [show (List.map (fun b : UInt8 => Value.int .u8 (b.toNat : Int)) [228, 184, 173]).toArray = #[.int .u8 228, .int .u8 184, .int .u8 173] from rfl] at XF
      have K4 : Hd (TK (4 + 96 * (k + 1)) (s.feed [228, 184, 173])) := ⟨(K3.out.feed [228, 184, 173]).mono (by show 4 + 96 * k + 32 * 3 ≤ _; omega)⟩
      have L4 : Hd (LetW R C E (k + 1) (s.feed [228, 184, 173]) ∧ (s.feed [228, 184, 173]).inn = 0 ∧ (s.feed [228, 184, 173]).b = []) := ⟨L3.out.1.feed L3.out.2.1 L3.out.2.2 hE1 HC2.out (by omega)⟩
      have HA := Hd.mk (H3.out.alloc (.cells #[.int .u8 228, .int .u8 184, .int .u8 173] 5 (3, 4)))
      generalize s.feed [228, 184, 173] = s2 at *
      clear H3 K3 L3
      have l1 : decide ((k : Int) < (n : Int)) = true := decide_eq_true (by omega)
      have l2 : decide (k < n) = true := decide_eq_true hlt
      have l3 : (k : Int) < (n : Int) := by omega
      have l4 : (0 : Int) ≤ (k : Int) := by omega
      have l5 : (k : Int) ≤ 200 := by omega
      go_wp2_with fail
      go_at_call 17
      with_reducible refine XF.out.mono ?_
      rintro _ w4 ⟨rfl, ht⟩
      obtain ⟨F4, S4, hsub, hon⟩ := St.told HA.out ht
      have H4 := Hd.mk S4
      clear ht S4 hsub hon XF HA
      go_wp2
      go_roundg d
      case measure => omega
      case rel => exact ⟨k + 1, F4, s2, by simp, ⟨by omega⟩, H4, K4, L4⟩
    · obtain rfl : k = n := by omega
      have l1 : decide ((k : Int) < (k : Int)) = false := decide_eq_false (by omega)
      have l2 : decide (k < k) = false := decide_eq_false (by omega)
      obtain ⟨q, hq⟩ : ∃ q, (if 0 < k ∧ k % E = 0 then k / E - 1 else k / E) = q := ⟨_, rfl⟩
      have HSC := Hd.mk L3.out.1.scr
      rw [hq] at HSC
      have HFL := Hd.mk L3.out.1.full
      have hln : (k + E - 1) / E = q + 1 := lines_q hE1 hn1 hq
      have HOF := Hd.mk HSC.out.off
      have E1 : ((k : Int) + (E : Int) - 1) / (E : Int) = ((q + 1 : Nat) : Int) := by (have e : ((k + E - 1 : Nat) : Int) = (k : Int) + (E : Int) - 1 := (by omega)); rw [← hln, ← e]; exact (Int.natCast_ediv _ _).symm
      have hqk : q ≤ 200 := by rw [← hq]; have := Nat.div_le_self k E; split <;> omega
      have E2 : max ((q : Int) + 1 - (R : Int)) 0 = (s.off : Int) := by have := HOF.out; omega
      have HQ := Hd.mk hq
      clear hq hln L3 hcv
      have hE0 : ¬ E = 0 := by omega
      obtain ⟨km, hkm⟩ : ∃ km, k % E = km := ⟨_, rfl⟩
      have E7 : (k : Int) % (E : Int) = (km : Int) := by rw [← hkm]; exact (Int.natCast_emod _ _).symm
      rw [hkm] at HFL
      have e7 : (0 : Int) ≤ (km : Int) := by omega
      by_cases hz : km = 0
      · by_cases he : C % 2 = 0
        · have E8 : (C : Int) % 2 = 0 := by omega
          have HFU : Hd (s.full = true) := ⟨by rw [HFL.out]; exact decide_eq_true ⟨by omega, hz, he⟩⟩
          clear he HC2 hkm
          subst hz
          have E9 : (k : Int) % (E : Int) = 0 := E7
          clear E7
          go_upto_region 11 with fail
          rename_i KQ hKQ
          refine regionH (fun w' : World => St w w' F T s) (by kernel_rfl) (fun wd hb => ?_)
          have hHd : (fun w' : World => St w w' F T s) wd := H3.out.to hb
          clear hb H3
          refine takeH (i := 0) (v := ?v1) rfl (by kernel_rfl) (by kernel_rfl) (by kernel_rfl) (fun _ _ _ h => h) (Or.inl ⟨by rfl, ?hy1⟩) (by assumption) ?rest1
          case hy1 => (intro w hSw; (try dsimp only at hSw); go_simp; try (with_reducible rfl))
          case rest1 =>
          try simp only [Act.put, List.setIfInBounds_toArray, List.set_cons_zero, List.set_cons_succ]
          refine takeH (i := 2) (v := ?v2) rfl (by kernel_rfl) (by kernel_rfl) (by kernel_rfl) (fun _ _ _ h => h) (Or.inl ⟨by rfl, ?hy2⟩) (by assumption) ?rest2
          case hy2 => (intro w hSw; (try dsimp only at hSw); go_simp; try (with_reducible rfl))
          case rest2 =>
          try simp only [Act.put, List.setIfInBounds_toArray, List.set_cons_zero, List.set_cons_succ]
          refine wpAnyH_ready (rs := [1]) (by kernel_rfl) (by simp) ?_
          refine consH rfl (fun K hK => ?_) AllReadyH.nil
          go_simp
          go_at_call 21
          with_reducible refine (off_calls hHd.ta.t).mono ?_
          rintro _ wa ⟨rfl, hb2⟩
          have hHd2 : (fun w' : World => St w w' F T s) wa := St.to hHd hb2
          clear hb2 hHd
          have hHd := hHd2
          clear hHd2
          go_simp
          refine hK.out _ _ hHd ?_
          clear hK K
          try simp only [Act.put, List.setIfInBounds_toArray, List.set_cons_zero, List.set_cons_succ]
          refine takeH (i := 3) (v := (.bool false)) rfl (by kernel_rfl) (by kernel_rfl) (by kernel_rfl) (fun _ _ _ h => h) (Or.inl ⟨by rfl, ?hy3⟩) (by assumption) ?rest3
          case hy3 => (intro w hSw; (try dsimp only at hSw); go_simp; first | done | rfl | omega | (rw [Int.tmod_eq_emod_of_nonneg (by omega)]; first | done | rfl | omega) | (congr 1; omega) | (simp; omega))
          case rest3 =>
          try simp only [Act.put, List.setIfInBounds_toArray, List.set_cons_zero, List.set_cons_succ]
          refine takeH (i := 4) (v := ?v4) rfl (by kernel_rfl) (by kernel_rfl) (by kernel_rfl) (fun _ _ _ h => h) (Or.inl ⟨by rfl, ?hy4⟩) (by assumption) ?rest4
          case hy4 => (intro w hSw; (try dsimp only at hSw); go_simp; try (with_reducible rfl))
          case rest4 =>
          try simp only [Act.put, List.setIfInBounds_toArray, List.set_cons_zero, List.set_cons_succ]
          refine takeH (i := 5) (v := ?v5) rfl (by kernel_rfl) (by kernel_rfl) (by kernel_rfl) (fun _ _ _ h => h) (Or.inl ⟨by rfl, ?hy5⟩) (by assumption) ?rest5
          case hy5 => (intro w hSw; (try dsimp only at hSw); go_simp; try (with_reducible rfl))
          case rest5 =>
          try simp only [Act.put, List.setIfInBounds_toArray, List.set_cons_zero, List.set_cons_succ]
          refine takeH (i := 7) (v := ?v6) rfl (by kernel_rfl) (by kernel_rfl) (by kernel_rfl) (fun _ _ _ h => h) (Or.inl ⟨by rfl, ?hy6⟩) (by assumption) ?rest6
          case hy6 => (intro w hSw; (try dsimp only at hSw); go_simp; try (with_reducible rfl))
          case rest6 =>
          try simp only [Act.put, List.setIfInBounds_toArray, List.set_cons_zero, List.set_cons_succ]
          refine takeH (i := 8) (v := ?v7) rfl (by kernel_rfl) (by kernel_rfl) (by kernel_rfl) (fun _ _ _ h => h) (Or.inl ⟨by rfl, ?hy7⟩) (by assumption) ?rest7
          case hy7 => (intro w hSw; (try dsimp only at hSw); go_simp; try (with_reducible rfl))
          case rest7 =>
          try simp only [Act.put, List.setIfInBounds_toArray, List.set_cons_zero, List.set_cons_succ]
          refine takeH (i := 9) (v := (.int .i64 0)) rfl (by kernel_rfl) (by kernel_rfl) (by kernel_rfl) (fun _ _ _ h => h) (Or.inl ⟨by rfl, ?hy8⟩) (by assumption) ?rest8
          case hy8 => (intro w hSw; (try dsimp only at hSw); go_simp; first | done | rfl | omega | (rw [Int.tmod_eq_emod_of_nonneg (by omega)]; first | done | rfl | omega) | (congr 1; omega) | (simp; omega))
          case rest8 =>
          try simp only [Act.put, List.setIfInBounds_toArray, List.set_cons_zero, List.set_cons_succ]
          refine takeH (i := 10) (v := (.bool true)) rfl (by kernel_rfl) (by kernel_rfl) (by kernel_rfl) (fun _ _ _ h => h) (Or.inl ⟨by rfl, ?hy9⟩) (by assumption) ?rest9
          case hy9 => (intro w hSw; (try dsimp only at hSw); go_simp; first | done | rfl | omega | (rw [Int.tmod_eq_emod_of_nonneg (by omega)]; first | done | rfl | omega) | (congr 1; omega) | (simp; omega))
          case rest9 =>
          try simp only [Act.put, List.setIfInBounds_toArray, List.set_cons_zero, List.set_cons_succ]
          refine wpAnyH_ready (rs := [6]) (by kernel_rfl) (by simp) ?_
          refine consH rfl (fun K hK => ?_) AllReadyH.nil
          go_simp
          go_at_call 15
          with_reducible refine (full_calls hHd.ta.t).mono ?_
          rintro _ wb ⟨rfl, hb2⟩
          have hHd2 : (fun w' : World => St w w' F T s) wb := St.to hHd hb2
          clear hb2 hHd
          have hHd := hHd2
          clear hHd2
          go_simp
          refine hK.out _ _ hHd ?_
          clear hK K
          try simp only [Act.put, List.setIfInBounds_toArray, List.set_cons_zero, List.set_cons_succ]
          refine takeH (i := 11) (v := ?v10) rfl (by kernel_rfl) (by kernel_rfl) (by kernel_rfl) (fun _ _ _ h => h) (Or.inl ⟨by rfl, ?hy10⟩) (by assumption) ?rest10
          case hy10 => (intro w hSw; (try dsimp only at hSw); go_simp; try (with_reducible rfl))
          case rest10 =>
          try simp only [Act.put, List.setIfInBounds_toArray, List.set_cons_zero, List.set_cons_succ]
          refine takeH (i := 12) (v := ?v11) rfl (by kernel_rfl) (by kernel_rfl) (by kernel_rfl) (fun _ _ _ h => h) (Or.inl ⟨by rfl, ?hy11⟩) (by assumption) ?rest11
          case hy11 => (intro w hSw; (try dsimp only at hSw); go_simp; try (with_reducible rfl))
          case rest11 =>
          try simp only [Act.put, List.setIfInBounds_toArray, List.set_cons_zero, List.set_cons_succ]
          refine takeH (i := 13) (v := (.int .i64 0)) rfl (by kernel_rfl) (by kernel_rfl) (by kernel_rfl) (fun _ _ _ h => h) (Or.inl ⟨by rfl, ?hy12⟩) (by assumption) ?rest12
          case hy12 => (intro w hSw; (try dsimp only at hSw); go_simp; first | done | rfl | omega | (rw [Int.tmod_eq_emod_of_nonneg (by omega)]; first | done | rfl | omega) | (congr 1; omega) | (simp; omega))
          case rest12 =>
          try simp only [Act.put, List.setIfInBounds_toArray, List.set_cons_zero, List.set_cons_succ]
          refine takeH (i := 14) (v := (.bool true)) rfl (by kernel_rfl) (by kernel_rfl) (by kernel_rfl) (fun _ _ _ h => h) (Or.inl ⟨by rfl, ?hy13⟩) (by assumption) ?rest13
          case hy13 => (intro w hSw; (try dsimp only at hSw); go_simp; first | done | rfl | omega | (rw [Int.tmod_eq_emod_of_nonneg (by omega)]; first | done | rfl | omega) | (congr 1; omega) | (simp; omega))
          case rest13 =>
          try simp only [Act.put, List.setIfInBounds_toArray, List.set_cons_zero, List.set_cons_succ]
          refine takeH (i := 15) (v := (.bool true)) rfl (by kernel_rfl) (by kernel_rfl) (by kernel_rfl) (fun _ _ _ h => h) (Or.inl ⟨by rfl, ?hy14⟩) (by assumption) ?rest14
          case hy14 => (intro w hSw; (try dsimp only at hSw); go_simp; first | done | rfl | omega | (rw [Int.tmod_eq_emod_of_nonneg (by omega)]; first | done | rfl | omega) | (congr 1; omega) | (simp; omega))
          case rest14 =>
          try simp only [Act.put, List.setIfInBounds_toArray, List.set_cons_zero, List.set_cons_succ]
          refine takeH (i := 16) (v := (.bool false)) rfl (by kernel_rfl) (by kernel_rfl) (by kernel_rfl) (fun _ _ _ h => h) (Or.inl ⟨by rfl, ?hy15⟩) (by assumption) ?rest15
          case hy15 => (intro w hSw; (try dsimp only at hSw); first | (rw [HFU.out]; go_simp; done) | (go_simp; rw [HFU.out]; done) | (go_simp; simp [HFU.out]))
          case rest15 =>
          try simp only [Act.put, List.setIfInBounds_toArray, List.set_cons_zero, List.set_cons_succ]
          refine takeH (i := 17) (v := (.bool false)) rfl (by kernel_rfl) (by kernel_rfl) (by kernel_rfl) (fun _ _ _ h => h) (Or.inl ⟨by rfl, ?hy16⟩) (by assumption) ?rest16
          case hy16 => (intro w hSw; (try dsimp only at hSw); go_simp; first | done | rfl | omega | (rw [Int.tmod_eq_emod_of_nonneg (by omega)]; first | done | rfl | omega) | (congr 1; omega) | (simp; omega))
          case rest16 =>
          try simp only [Act.put, List.setIfInBounds_toArray, List.set_cons_zero, List.set_cons_succ]
          refine wpAnyH_done (by kernel_rfl) ?_ _
          refine hKQ _ _ ?_
          go_wp2_with fail
          have H4 := Hd.mk (show St w wb F T s from hHd)
          clear hHd HFU HFL
          go_loopg [87] k (fun gk vj wx => ∃ (j : Nat), vj = .int .i64 (j : Int) ∧ Hd (j + gk = k) ∧ Hd (Below wb.heap.size wb wx))
          case atStart => exact ⟨0, rfl, ⟨by omega⟩, ⟨Below.refl _ _⟩⟩
          case round =>
            obtain ⟨j, rfl, HJ2, HB⟩ := hrel
            have h2 := HJ2.out
            have H5 := Hd.mk (H4.out.to HB.out)
            by_cases hlt : j < k
            · obtain ⟨d2, rfl⟩ : ∃ d, gk = d + 1 := ⟨gk - 1, by omega⟩
              have m1 : decide ((j : Int) < (k : Int)) = true := decide_eq_true (by omega)
              have m2 : decide (j < k) = true := decide_eq_true hlt
              have m3 : (j : Int) < (k : Int) := by omega
              have m4 : (0 : Int) ≤ (j : Int) := by omega
              have m5 : (j : Int) ≤ 200 := by omega
              have hjm := Nat.mod_lt j (show 0 < E by omega)
              obtain ⟨i, hi⟩ : ∃ i, j / E = i := ⟨_, rfl⟩
              have hij : i * E + j % E = j := by rw [← hi, Nat.mul_comm]; exact Nat.div_add_mod j E
              have E3 : (j : Int) / (E : Int) = (i : Int) := by rw [← hi]; exact (Int.natCast_ediv _ _).symm
              obtain ⟨m, hm⟩ : ∃ m, j % E = m := ⟨_, rfl⟩
              have E4 : (j : Int) % (E : Int) = (m : Int) := by rw [← hm]; exact (Int.natCast_emod _ _).symm
              rw [hm] at hjm hij
              have hiq : i ≤ q := div_le_q hE1 hlt HQ.out hi
              have hi4 : (i : Int) ≤ 200 := by omega
              clear hm hi
              obtain ⟨p, hp⟩ : ∃ p, 2 * m = p := ⟨_, rfl⟩
              have E5 : 2 * (m : Int) = (p : Int) := by omega
              have p0 : (0 : Int) ≤ (p : Int) := by omega
              have p1 : (p : Int) < (C : Int) := by omega
              have p2 : (p : Int) + 1 < (C : Int) := by omega
              have p3 : (p : Int) ≤ 120 := by omega
              obtain ⟨pp, hpp⟩ : ∃ pp, p + 1 = pp := ⟨_, rfl⟩
              have pp0 : (0 : Int) ≤ (pp : Int) := by omega
              have pp1 : (pp : Int) < (C : Int) := by omega
              have q1 : (m : Int) < (E : Int) := by omega
              have q0 : (0 : Int) ≤ (m : Int) := by omega
              have HXA : Hd (∀ (r : RR) (w' : World), RowAt w' r (lineW E C k i) → w'.cell? ⟨r.g, p * 3, none⟩ = some (.string ⟨#[228, 184, 173]⟩) ∧ w'.cell? ⟨r.g, p * 3 + 1, none⟩ = some (.int .i64 2) ∧ w'.cell? ⟨r.g, p * 3 + 2, none⟩ = some (.bool false)) := ⟨fun r w' h => wide_three h (by omega) (by omega) (by omega) (by omega)⟩
              have HXB : Hd (∀ (r : RR) (w' : World), RowAt w' r (lineW E C k i) → w'.cell? ⟨r.g, pp * 3, none⟩ = some (.string ⟨#[]⟩) ∧ w'.cell? ⟨r.g, pp * 3 + 1, none⟩ = some (.int .i64 0) ∧ w'.cell? ⟨r.g, pp * 3 + 2, none⟩ = some (.bool false)) := ⟨fun r w' h => by rw [← hpp]; exact half_three h (by omega) (by omega) (by omega) (by omega)⟩
              clear hij hp
              by_cases hoff : i < s.off
              · have XG := Hd.mk (gone_at H5.out.ta.t K3.out.ok (by omega) (k := i) (j := i) (by rw [HSC.out.glen]; exact hoff) (by rw [HSC.out.glen]; omega))
                rw [HSC.out.gone i hoff, lineW_len] at XG
                have o1 : decide ((s.off : Int) ≤ (i : Int)) = false := decide_eq_false (by omega)
                have o2 : decide (s.off ≤ i) = false := decide_eq_false (by omega)
                have o3 : (i : Int) < (s.off : Int) := by omega
                go_wp2_with fail
                go_wp2_with fail
                go_at_call 22
                with_reducible refine XG.out.mono ?_
                rintro _ w5 ⟨r, rfl, hrn, hrg, hr, hb⟩
                have HB5 := Hd.mk (HB.out.trans (hb.mono HB.out.size))
                have HR := Hd.mk hr
                clear XG hrg hr hb HB H5
                have HXA := Hd.mk (HXA.out r)
                have HXB := Hd.mk (HXB.out r)
                unfold RR.v
                rw [hrn]
                go_upto_region 20 with fail
                rename_i KQ hKQ
                refine regionH (fun w' : World => RowAt w' r (lineW E C k i)) (by kernel_rfl) (fun wd hb => ?_)
                have hHd : (fun w' : World => RowAt w' r (lineW E C k i)) wd := RowAt.below HR.out hb
                have hBd := hb
                clear hb HR
                refine takeH (i := 0) (v := ?v17) rfl (by kernel_rfl) (by kernel_rfl) (by kernel_rfl) (fun _ _ _ h => h) (Or.inl ⟨by rfl, ?hy17⟩) (by assumption) ?rest17
                case hy17 => (intro w hSw; (try dsimp only at hSw); go_simp; try (with_reducible rfl))
                case rest17 =>
                try simp only [Act.put, List.setIfInBounds_toArray, List.set_cons_zero, List.set_cons_succ]
                refine takeH (i := 1) (v := ?v18) rfl (by kernel_rfl) (by kernel_rfl) (by kernel_rfl) (fun _ _ _ h => h) (Or.inl ⟨by rfl, ?hy18⟩) (by assumption) ?rest18
                case hy18 => (intro w hSw; (try dsimp only at hSw); go_simp; try (with_reducible rfl))
                case rest18 =>
                try simp only [Act.put, List.setIfInBounds_toArray, List.set_cons_zero, List.set_cons_succ]
                refine takeH (i := 2) (v := ?v19) rfl (by kernel_rfl) (by kernel_rfl) (by kernel_rfl) (fun _ _ _ h => h) (Or.inl ⟨by rfl, ?hy19⟩) (by assumption) ?rest19
                case hy19 => (intro w hSw; (try dsimp only at hSw); go_simp; try (with_reducible rfl))
                case rest19 =>
                try simp only [Act.put, List.setIfInBounds_toArray, List.set_cons_zero, List.set_cons_succ]
                refine takeH (i := 3) (v := (.bool false)) rfl (by kernel_rfl) (by kernel_rfl) (by kernel_rfl) (fun _ _ _ h => h) (Or.inl ⟨by rfl, ?hy20⟩) (by assumption) ?rest20
                case hy20 => (intro w hSw; (try dsimp only at hSw); go_simp; first | done | rfl | omega | (rw [Int.tmod_eq_emod_of_nonneg (by omega)]; first | done | rfl | omega) | (congr 1; omega) | (simp; omega))
                case rest20 =>
                try simp only [Act.put, List.setIfInBounds_toArray, List.set_cons_zero, List.set_cons_succ]
                refine takeH (i := 4) (v := ?v21) rfl (by kernel_rfl) (by kernel_rfl) (by kernel_rfl) (fun _ _ _ h => h) (Or.inl ⟨by rfl, ?hy21⟩) (by assumption) ?rest21
                case hy21 => (intro w hSw; (try dsimp only at hSw); go_simp; try (with_reducible rfl))
                case rest21 =>
                try simp only [Act.put, List.setIfInBounds_toArray, List.set_cons_zero, List.set_cons_succ]
                refine takeH (i := 5) (v := ?v22) rfl (by kernel_rfl) (by kernel_rfl) (by kernel_rfl) (fun _ _ _ h => h) (Or.inl ⟨by rfl, ?hy22⟩) (by assumption) ?rest22
                case hy22 => (intro w hSw; (try dsimp only at hSw); go_simp; try (with_reducible rfl))
                case rest22 =>
                try simp only [Act.put, List.setIfInBounds_toArray, List.set_cons_zero, List.set_cons_succ]
                refine takeH (i := 6) (v := ?v23) rfl (by kernel_rfl) (by kernel_rfl) (by kernel_rfl) (fun _ _ _ h => h) (Or.inl ⟨by rfl, ?hy23⟩) (by assumption) ?rest23
                case hy23 => (intro w hSw; (try dsimp only at hSw); go_simp; try (with_reducible rfl))
                case rest23 =>
                try simp only [Act.put, List.setIfInBounds_toArray, List.set_cons_zero, List.set_cons_succ]
                refine takeH (i := 7) (v := ?v24) rfl (by kernel_rfl) (by kernel_rfl) (by kernel_rfl) (fun _ _ _ h => h) (Or.inl ⟨by rfl, ?hy24⟩) (by assumption) ?rest24
                case hy24 => (intro w hSw; (try dsimp only at hSw); go_simp; try (with_reducible rfl))
                case rest24 =>
                try simp only [Act.put, List.setIfInBounds_toArray, List.set_cons_zero, List.set_cons_succ]
                refine takeH (i := 8) (v := (.agg #[.string ⟨#[228, 184, 173]⟩, .int .i64 2, .bool false])) rfl (by kernel_rfl) (by kernel_rfl) (by kernel_rfl) (fun _ _ _ h => h) (Or.inl ⟨by rfl, ?hy25⟩) (by assumption) ?rest25
                case hy25 => (intro w hSw; (try dsimp only at hSw); obtain ⟨y0, y1, y2⟩ := HXA.out _ hSw; go_simp; first | done | rfl)
                case rest25 =>
                try simp only [Act.put, List.setIfInBounds_toArray, List.set_cons_zero, List.set_cons_succ]
                refine takeH (i := 9) (v := ?v26) rfl (by kernel_rfl) (by kernel_rfl) (by kernel_rfl) (fun _ _ _ h => h) (Or.inl ⟨by rfl, ?hy26⟩) (by assumption) ?rest26
                case hy26 => (intro w hSw; (try dsimp only at hSw); go_simp; try (with_reducible rfl))
                case rest26 =>
                try simp only [Act.put, List.setIfInBounds_toArray, List.set_cons_zero, List.set_cons_succ]
                refine takeH (i := 10) (v := (.bool false)) rfl (by kernel_rfl) (by kernel_rfl) (by kernel_rfl) (fun _ _ _ h => h) (Or.inl ⟨by rfl, ?hy27⟩) (by assumption) ?rest27
                case hy27 => (intro w hSw; (try dsimp only at hSw); go_simp; first | done | rfl | simp)
                case rest27 =>
                try simp only [Act.put, List.setIfInBounds_toArray, List.set_cons_zero, List.set_cons_succ]
                refine takeH (i := 11) (v := (.bool false)) rfl (by kernel_rfl) (by kernel_rfl) (by kernel_rfl) (fun _ _ _ h => h) (Or.inl ⟨by rfl, ?hy28⟩) (by assumption) ?rest28
                case hy28 => (intro w hSw; (try dsimp only at hSw); go_simp; first | done | rfl | omega | (rw [Int.tmod_eq_emod_of_nonneg (by omega)]; first | done | rfl | omega) | (congr 1; omega) | (simp; omega))
                case rest28 =>
                try simp only [Act.put, List.setIfInBounds_toArray, List.set_cons_zero, List.set_cons_succ]
                refine takeH (i := 12) (v := ?v29) rfl (by kernel_rfl) (by kernel_rfl) (by kernel_rfl) (fun _ _ _ h => h) (Or.inl ⟨by rfl, ?hy29⟩) (by assumption) ?rest29
                case hy29 => (intro w hSw; (try dsimp only at hSw); go_simp; try (with_reducible rfl))
                case rest29 =>
                try simp only [Act.put, List.setIfInBounds_toArray, List.set_cons_zero, List.set_cons_succ]
                refine takeH (i := 13) (v := ?v30) rfl (by kernel_rfl) (by kernel_rfl) (by kernel_rfl) (fun _ _ _ h => h) (Or.inl ⟨by rfl, ?hy30⟩) (by assumption) ?rest30
                case hy30 => (intro w hSw; (try dsimp only at hSw); go_simp; try (with_reducible rfl))
                case rest30 =>
                try simp only [Act.put, List.setIfInBounds_toArray, List.set_cons_zero, List.set_cons_succ]
                refine takeH (i := 14) (v := ?v31) rfl (by kernel_rfl) (by kernel_rfl) (by kernel_rfl) (fun _ _ _ h => h) (Or.inl ⟨by rfl, ?hy31⟩) (by assumption) ?rest31
                case hy31 => (intro w hSw; (try dsimp only at hSw); go_simp; try (with_reducible rfl))
                case rest31 =>
                try simp only [Act.put, List.setIfInBounds_toArray, List.set_cons_zero, List.set_cons_succ]
                refine takeH (i := 15) (v := (.int .i64 (pp : Int))) rfl (by kernel_rfl) (by kernel_rfl) (by kernel_rfl) (fun _ _ _ h => h) (Or.inl ⟨by rfl, ?hy32⟩) (by assumption) ?rest32
                case hy32 => (intro w hSw; (try dsimp only at hSw); go_simp; first | done | rfl | (congr 1; (try rw [IntKind.wrap_i64]); omega) | (rw [IntKind.wrap_i64]; congr 3; omega) | (simp; omega))
                case rest32 =>
                try simp only [Act.put, List.setIfInBounds_toArray, List.set_cons_zero, List.set_cons_succ]
                refine takeH (i := 16) (v := ?v33) rfl (by kernel_rfl) (by kernel_rfl) (by kernel_rfl) (fun _ _ _ h => h) (Or.inl ⟨by rfl, ?hy33⟩) (by assumption) ?rest33
                case hy33 => (intro w hSw; (try dsimp only at hSw); go_simp; try (with_reducible rfl))
                case rest33 =>
                try simp only [Act.put, List.setIfInBounds_toArray, List.set_cons_zero, List.set_cons_succ]
                refine takeH (i := 17) (v := (.agg #[.string ⟨#[]⟩, .int .i64 0, .bool false])) rfl (by kernel_rfl) (by kernel_rfl) (by kernel_rfl) (fun _ _ _ h => h) (Or.inl ⟨by rfl, ?hy34⟩) (by assumption) ?rest34
                case hy34 => (intro w hSw; (try dsimp only at hSw); obtain ⟨y0, y1, y2⟩ := HXB.out _ hSw; go_simp; first | done | rfl)
                case rest34 =>
                try simp only [Act.put, List.setIfInBounds_toArray, List.set_cons_zero, List.set_cons_succ]
                refine takeH (i := 18) (v := (.agg #[.string ⟨#[]⟩, .int .i64 0, .bool false])) rfl (by kernel_rfl) (by kernel_rfl) (by kernel_rfl) (fun _ _ _ h => h) (Or.inl ⟨by rfl, ?hy35⟩) (by assumption) ?rest35
                case hy35 => (intro w hSw; (try dsimp only at hSw); go_simp; first | done | rfl)
                case rest35 =>
                try simp only [Act.put, List.setIfInBounds_toArray, List.set_cons_zero, List.set_cons_succ]
                refine takeH (i := 19) (v := (.bool false)) rfl (by kernel_rfl) (by kernel_rfl) (by kernel_rfl) (fun _ _ _ h => h) (Or.inl ⟨by rfl, ?hy36⟩) (by assumption) ?rest36
                case hy36 => (intro w hSw; (try dsimp only at hSw); go_simp; first | done | rfl | simp)
                case rest36 =>
                try simp only [Act.put, List.setIfInBounds_toArray, List.set_cons_zero, List.set_cons_succ]
                refine takeH (i := 20) (v := (.bool false)) rfl (by kernel_rfl) (by kernel_rfl) (by kernel_rfl) (fun _ _ _ h => h) (Or.inl ⟨by rfl, ?hy37⟩) (by assumption) ?rest37
                case hy37 => (intro w hSw; (try dsimp only at hSw); go_simp; first | done | rfl | omega | (rw [Int.tmod_eq_emod_of_nonneg (by omega)]; first | done | rfl | omega) | (congr 1; omega) | (simp; omega))
                case rest37 =>
                try simp only [Act.put, List.setIfInBounds_toArray, List.set_cons_zero, List.set_cons_succ]
                refine takeH (i := 21) (v := ?v38) rfl (by kernel_rfl) (by kernel_rfl) (by kernel_rfl) (fun _ _ _ h => h) (Or.inl ⟨by rfl, ?hy38⟩) (by assumption) ?rest38
                case hy38 => (intro w hSw; (try dsimp only at hSw); go_simp; try (with_reducible rfl))
                case rest38 =>
                try simp only [Act.put, List.setIfInBounds_toArray, List.set_cons_zero, List.set_cons_succ]
                refine takeH (i := 22) (v := ?v39) rfl (by kernel_rfl) (by kernel_rfl) (by kernel_rfl) (fun _ _ _ h => h) (Or.inl ⟨by rfl, ?hy39⟩) (by assumption) ?rest39
                case hy39 => (intro w hSw; (try dsimp only at hSw); go_simp; try (with_reducible rfl))
                case rest39 =>
                try simp only [Act.put, List.setIfInBounds_toArray, List.set_cons_zero, List.set_cons_succ]
                refine takeH (i := 23) (v := (.int .i64 0)) rfl (by kernel_rfl) (by kernel_rfl) (by kernel_rfl) (fun _ _ _ h => h) (Or.inl ⟨by rfl, ?hy40⟩) (by assumption) ?rest40
                case hy40 => (intro w hSw; (try dsimp only at hSw); go_simp; first | done | rfl | omega | (rw [Int.tmod_eq_emod_of_nonneg (by omega)]; first | done | rfl | omega) | (congr 1; omega) | (simp; omega))
                case rest40 =>
                try simp only [Act.put, List.setIfInBounds_toArray, List.set_cons_zero, List.set_cons_succ]
                refine takeH (i := 24) (v := (.bool false)) rfl (by kernel_rfl) (by kernel_rfl) (by kernel_rfl) (fun _ _ _ h => h) (Or.inl ⟨by rfl, ?hy41⟩) (by assumption) ?rest41
                case hy41 => (intro w hSw; (try dsimp only at hSw); go_simp; first | done | rfl | omega | (rw [Int.tmod_eq_emod_of_nonneg (by omega)]; first | done | rfl | omega) | (congr 1; omega) | (simp; omega))
                case rest41 =>
                try simp only [Act.put, List.setIfInBounds_toArray, List.set_cons_zero, List.set_cons_succ]
                refine takeH (i := 25) (v := ?v42) rfl (by kernel_rfl) (by kernel_rfl) (by kernel_rfl) (fun _ _ _ h => h) (Or.inl ⟨by rfl, ?hy42⟩) (by assumption) ?rest42
                case hy42 => (intro w hSw; (try dsimp only at hSw); go_simp; try (with_reducible rfl))
                case rest42 =>
                try simp only [Act.put, List.setIfInBounds_toArray, List.set_cons_zero, List.set_cons_succ]
                refine takeH (i := 26) (v := undef) rfl (by kernel_rfl) (by kernel_rfl) (by kernel_rfl) (fun _ _ _ h => h) (Or.inr ⟨by rfl, by rfl⟩) (by assumption) ?_
                try simp only [Act.put, List.setIfInBounds_toArray, List.set_cons_zero, List.set_cons_succ]
                refine takeH (i := 27) (v := undef) rfl (by kernel_rfl) (by kernel_rfl) (by kernel_rfl) (fun _ _ _ h => h) (Or.inr ⟨by rfl, by rfl⟩) (by assumption) ?_
                try simp only [Act.put, List.setIfInBounds_toArray, List.set_cons_zero, List.set_cons_succ]
                refine takeH (i := 28) (v := undef) rfl (by kernel_rfl) (by kernel_rfl) (by kernel_rfl) (fun _ _ _ h => h) (Or.inr ⟨by rfl, by rfl⟩) (by assumption) ?_
                try simp only [Act.put, List.setIfInBounds_toArray, List.set_cons_zero, List.set_cons_succ]
                refine takeH (i := 29) (v := undef) rfl (by kernel_rfl) (by kernel_rfl) (by kernel_rfl) (fun _ _ _ h => h) (Or.inr ⟨by rfl, by rfl⟩) (by assumption) ?_
                try simp only [Act.put, List.setIfInBounds_toArray, List.set_cons_zero, List.set_cons_succ]
                refine takeH (i := 30) (v := undef) rfl (by kernel_rfl) (by kernel_rfl) (by kernel_rfl) (fun _ _ _ h => h) (Or.inr ⟨by rfl, by rfl⟩) (by assumption) ?_
                try simp only [Act.put, List.setIfInBounds_toArray, List.set_cons_zero, List.set_cons_succ]
                refine takeH (i := 31) (v := undef) rfl (by kernel_rfl) (by kernel_rfl) (by kernel_rfl) (fun _ _ _ h => h) (Or.inr ⟨by rfl, by rfl⟩) (by assumption) ?_
                try simp only [Act.put, List.setIfInBounds_toArray, List.set_cons_zero, List.set_cons_succ]
                refine takeH (i := 32) (v := undef) rfl (by kernel_rfl) (by kernel_rfl) (by kernel_rfl) (fun _ _ _ h => h) (Or.inr ⟨by rfl, by rfl⟩) (by assumption) ?_
                try simp only [Act.put, List.setIfInBounds_toArray, List.set_cons_zero, List.set_cons_succ]
                refine takeH (i := 33) (v := (.bool false)) rfl (by kernel_rfl) (by kernel_rfl) (by kernel_rfl) (fun _ _ _ h => h) (Or.inl ⟨by rfl, ?hy43⟩) (by assumption) ?rest43
                case hy43 => (intro w hSw; (try dsimp only at hSw); go_simp; first | done | rfl | omega | (rw [Int.tmod_eq_emod_of_nonneg (by omega)]; first | done | rfl | omega) | (congr 1; omega) | (simp; omega))
                case rest43 =>
                try simp only [Act.put, List.setIfInBounds_toArray, List.set_cons_zero, List.set_cons_succ]
                refine takeH (i := 34) (v := (.bool false)) rfl (by kernel_rfl) (by kernel_rfl) (by kernel_rfl) (fun _ _ _ h => h) (Or.inl ⟨by rfl, ?hy44⟩) (by assumption) ?rest44
                case hy44 => (intro w hSw; (try dsimp only at hSw); go_simp; first | done | rfl | omega | (rw [Int.tmod_eq_emod_of_nonneg (by omega)]; first | done | rfl | omega) | (congr 1; omega) | (simp; omega))
                case rest44 =>
                try simp only [Act.put, List.setIfInBounds_toArray, List.set_cons_zero, List.set_cons_succ]
                refine wpAnyH_done (by kernel_rfl) ?_ _
                refine hKQ _ _ ?_
                have HBz := Hd.mk (HB5.out.trans (hBd.mono HB5.out.size))
                clear hHd hBd HB5 HXA HXB
                go_wp2
                go_roundg d2
                case measure => omega
                case rel => exact ⟨j + 1, by simp, ⟨by omega⟩, HBz⟩
              · have XG := Hd.mk (gone_none H5.out.ta.t K3.out.ok (by omega) (k := i) (by omega) (by omega))
                have o1 : decide ((s.off : Int) ≤ (i : Int)) = true := decide_eq_true (by omega)
                have o2 : decide (s.off ≤ i) = true := decide_eq_true (by omega)
                have o3 : (s.off : Int) ≤ (i : Int) := by omega
                have hmr := HSC.out.more
                have hrr := HSC.out.row
                have hir : i - s.off < R := by omega
                have o4 : (i : Int) - (s.off : Int) = ((i - s.off : Nat) : Int) := by omega
                have o5 : (0 : Int) ≤ (s.off : Int) := Int.natCast_nonneg _
                go_wp2_with fail
                go_wp2_with fail
                go_at_call 22
                with_reducible refine XG.out.mono ?_
                rintro _ w5 ⟨rfl, hb⟩
                have HB5 := Hd.mk (HB.out.trans (hb.mono HB.out.size))
                have H6 := Hd.mk (H5.out.to hb)
                clear XG hb HB H5
                have XR := Hd.mk (row_at H6.out.ta.t K3.out.ok (k := i - s.off) (by rw [HSC.out.len]; exact hir))
                rw [HSC.out.rows _ hir, show s.off + (i - s.off) = i by omega, HSC.out.cols] at XR
                clear hmr hrr hir
                go_wp2_with fail
                go_wp2_with fail
                go_at_call 14
                with_reducible refine XR.out.mono ?_
                rintro _ w6 ⟨r, rfl, hrn, hrg, hr, hb⟩
                have HB6 := Hd.mk (HB5.out.trans (hb.mono HB5.out.size))
                have HR := Hd.mk hr
                clear XR hrg hr hb HB5 H6
                have HXA := Hd.mk (HXA.out r)
                have HXB := Hd.mk (HXB.out r)
                unfold RR.v
                rw [hrn]
                go_upto_region 20 with fail
                rename_i KQ hKQ
                refine regionH (fun w' : World => RowAt w' r (lineW E C k i)) (by kernel_rfl) (fun wd hb => ?_)
                have hHd : (fun w' : World => RowAt w' r (lineW E C k i)) wd := RowAt.below HR.out hb
                have hBd := hb
                clear hb HR
                refine takeH (i := 0) (v := ?v45) rfl (by kernel_rfl) (by kernel_rfl) (by kernel_rfl) (fun _ _ _ h => h) (Or.inl ⟨by rfl, ?hy45⟩) (by assumption) ?rest45
                case hy45 => (intro w hSw; (try dsimp only at hSw); go_simp; try (with_reducible rfl))
                case rest45 =>
                try simp only [Act.put, List.setIfInBounds_toArray, List.set_cons_zero, List.set_cons_succ]
                refine takeH (i := 1) (v := ?v46) rfl (by kernel_rfl) (by kernel_rfl) (by kernel_rfl) (fun _ _ _ h => h) (Or.inl ⟨by rfl, ?hy46⟩) (by assumption) ?rest46
                case hy46 => (intro w hSw; (try dsimp only at hSw); go_simp; try (with_reducible rfl))
                case rest46 =>
                try simp only [Act.put, List.setIfInBounds_toArray, List.set_cons_zero, List.set_cons_succ]
                refine takeH (i := 2) (v := ?v47) rfl (by kernel_rfl) (by kernel_rfl) (by kernel_rfl) (fun _ _ _ h => h) (Or.inl ⟨by rfl, ?hy47⟩) (by assumption) ?rest47
                case hy47 => (intro w hSw; (try dsimp only at hSw); go_simp; try (with_reducible rfl))
                case rest47 =>
                try simp only [Act.put, List.setIfInBounds_toArray, List.set_cons_zero, List.set_cons_succ]
                refine takeH (i := 3) (v := (.bool false)) rfl (by kernel_rfl) (by kernel_rfl) (by kernel_rfl) (fun _ _ _ h => h) (Or.inl ⟨by rfl, ?hy48⟩) (by assumption) ?rest48
                case hy48 => (intro w hSw; (try dsimp only at hSw); go_simp; first | done | rfl | omega | (rw [Int.tmod_eq_emod_of_nonneg (by omega)]; first | done | rfl | omega) | (congr 1; omega) | (simp; omega))
                case rest48 =>
                try simp only [Act.put, List.setIfInBounds_toArray, List.set_cons_zero, List.set_cons_succ]
                refine takeH (i := 4) (v := ?v49) rfl (by kernel_rfl) (by kernel_rfl) (by kernel_rfl) (fun _ _ _ h => h) (Or.inl ⟨by rfl, ?hy49⟩) (by assumption) ?rest49
                case hy49 => (intro w hSw; (try dsimp only at hSw); go_simp; try (with_reducible rfl))
                case rest49 =>
                try simp only [Act.put, List.setIfInBounds_toArray, List.set_cons_zero, List.set_cons_succ]
                refine takeH (i := 5) (v := ?v50) rfl (by kernel_rfl) (by kernel_rfl) (by kernel_rfl) (fun _ _ _ h => h) (Or.inl ⟨by rfl, ?hy50⟩) (by assumption) ?rest50
                case hy50 => (intro w hSw; (try dsimp only at hSw); go_simp; try (with_reducible rfl))
                case rest50 =>
                try simp only [Act.put, List.setIfInBounds_toArray, List.set_cons_zero, List.set_cons_succ]
                refine takeH (i := 6) (v := ?v51) rfl (by kernel_rfl) (by kernel_rfl) (by kernel_rfl) (fun _ _ _ h => h) (Or.inl ⟨by rfl, ?hy51⟩) (by assumption) ?rest51
                case hy51 => (intro w hSw; (try dsimp only at hSw); go_simp; try (with_reducible rfl))
                case rest51 =>
                try simp only [Act.put, List.setIfInBounds_toArray, List.set_cons_zero, List.set_cons_succ]
                refine takeH (i := 7) (v := ?v52) rfl (by kernel_rfl) (by kernel_rfl) (by kernel_rfl) (fun _ _ _ h => h) (Or.inl ⟨by rfl, ?hy52⟩) (by assumption) ?rest52
                case hy52 => (intro w hSw; (try dsimp only at hSw); go_simp; try (with_reducible rfl))
                case rest52 =>
                try simp only [Act.put, List.setIfInBounds_toArray, List.set_cons_zero, List.set_cons_succ]
                refine takeH (i := 8) (v := (.agg #[.string ⟨#[228, 184, 173]⟩, .int .i64 2, .bool false])) rfl (by kernel_rfl) (by kernel_rfl) (by kernel_rfl) (fun _ _ _ h => h) (Or.inl ⟨by rfl, ?hy53⟩) (by assumption) ?rest53
                case hy53 => (intro w hSw; (try dsimp only at hSw); obtain ⟨y0, y1, y2⟩ := HXA.out _ hSw; go_simp; first | done | rfl)
                case rest53 =>
                try simp only [Act.put, List.setIfInBounds_toArray, List.set_cons_zero, List.set_cons_succ]
                refine takeH (i := 9) (v := ?v54) rfl (by kernel_rfl) (by kernel_rfl) (by kernel_rfl) (fun _ _ _ h => h) (Or.inl ⟨by rfl, ?hy54⟩) (by assumption) ?rest54
                case hy54 => (intro w hSw; (try dsimp only at hSw); go_simp; try (with_reducible rfl))
                case rest54 =>
                try simp only [Act.put, List.setIfInBounds_toArray, List.set_cons_zero, List.set_cons_succ]
                refine takeH (i := 10) (v := (.bool false)) rfl (by kernel_rfl) (by kernel_rfl) (by kernel_rfl) (fun _ _ _ h => h) (Or.inl ⟨by rfl, ?hy55⟩) (by assumption) ?rest55
                case hy55 => (intro w hSw; (try dsimp only at hSw); go_simp; first | done | rfl | simp)
                case rest55 =>
                try simp only [Act.put, List.setIfInBounds_toArray, List.set_cons_zero, List.set_cons_succ]
                refine takeH (i := 11) (v := (.bool false)) rfl (by kernel_rfl) (by kernel_rfl) (by kernel_rfl) (fun _ _ _ h => h) (Or.inl ⟨by rfl, ?hy56⟩) (by assumption) ?rest56
                case hy56 => (intro w hSw; (try dsimp only at hSw); go_simp; first | done | rfl | omega | (rw [Int.tmod_eq_emod_of_nonneg (by omega)]; first | done | rfl | omega) | (congr 1; omega) | (simp; omega))
                case rest56 =>
                try simp only [Act.put, List.setIfInBounds_toArray, List.set_cons_zero, List.set_cons_succ]
                refine takeH (i := 12) (v := ?v57) rfl (by kernel_rfl) (by kernel_rfl) (by kernel_rfl) (fun _ _ _ h => h) (Or.inl ⟨by rfl, ?hy57⟩) (by assumption) ?rest57
                case hy57 => (intro w hSw; (try dsimp only at hSw); go_simp; try (with_reducible rfl))
                case rest57 =>
                try simp only [Act.put, List.setIfInBounds_toArray, List.set_cons_zero, List.set_cons_succ]
                refine takeH (i := 13) (v := ?v58) rfl (by kernel_rfl) (by kernel_rfl) (by kernel_rfl) (fun _ _ _ h => h) (Or.inl ⟨by rfl, ?hy58⟩) (by assumption) ?rest58
                case hy58 => (intro w hSw; (try dsimp only at hSw); go_simp; try (with_reducible rfl))
                case rest58 =>
                try simp only [Act.put, List.setIfInBounds_toArray, List.set_cons_zero, List.set_cons_succ]
                refine takeH (i := 14) (v := ?v59) rfl (by kernel_rfl) (by kernel_rfl) (by kernel_rfl) (fun _ _ _ h => h) (Or.inl ⟨by rfl, ?hy59⟩) (by assumption) ?rest59
                case hy59 => (intro w hSw; (try dsimp only at hSw); go_simp; try (with_reducible rfl))
                case rest59 =>
                try simp only [Act.put, List.setIfInBounds_toArray, List.set_cons_zero, List.set_cons_succ]
                refine takeH (i := 15) (v := (.int .i64 (pp : Int))) rfl (by kernel_rfl) (by kernel_rfl) (by kernel_rfl) (fun _ _ _ h => h) (Or.inl ⟨by rfl, ?hy60⟩) (by assumption) ?rest60
                case hy60 => (intro w hSw; (try dsimp only at hSw); go_simp; first | done | rfl | (congr 1; (try rw [IntKind.wrap_i64]); omega) | (rw [IntKind.wrap_i64]; congr 3; omega) | (simp; omega))
                case rest60 =>
                try simp only [Act.put, List.setIfInBounds_toArray, List.set_cons_zero, List.set_cons_succ]
                refine takeH (i := 16) (v := ?v61) rfl (by kernel_rfl) (by kernel_rfl) (by kernel_rfl) (fun _ _ _ h => h) (Or.inl ⟨by rfl, ?hy61⟩) (by assumption) ?rest61
                case hy61 => (intro w hSw; (try dsimp only at hSw); go_simp; try (with_reducible rfl))
                case rest61 =>
                try simp only [Act.put, List.setIfInBounds_toArray, List.set_cons_zero, List.set_cons_succ]
                refine takeH (i := 17) (v := (.agg #[.string ⟨#[]⟩, .int .i64 0, .bool false])) rfl (by kernel_rfl) (by kernel_rfl) (by kernel_rfl) (fun _ _ _ h => h) (Or.inl ⟨by rfl, ?hy62⟩) (by assumption) ?rest62
                case hy62 => (intro w hSw; (try dsimp only at hSw); obtain ⟨y0, y1, y2⟩ := HXB.out _ hSw; go_simp; first | done | rfl)
                case rest62 =>
                try simp only [Act.put, List.setIfInBounds_toArray, List.set_cons_zero, List.set_cons_succ]
                refine takeH (i := 18) (v := (.agg #[.string ⟨#[]⟩, .int .i64 0, .bool false])) rfl (by kernel_rfl) (by kernel_rfl) (by kernel_rfl) (fun _ _ _ h => h) (Or.inl ⟨by rfl, ?hy63⟩) (by assumption) ?rest63
                case hy63 => (intro w hSw; (try dsimp only at hSw); go_simp; first | done | rfl)
                case rest63 =>
                try simp only [Act.put, List.setIfInBounds_toArray, List.set_cons_zero, List.set_cons_succ]
                refine takeH (i := 19) (v := (.bool false)) rfl (by kernel_rfl) (by kernel_rfl) (by kernel_rfl) (fun _ _ _ h => h) (Or.inl ⟨by rfl, ?hy64⟩) (by assumption) ?rest64
                case hy64 => (intro w hSw; (try dsimp only at hSw); go_simp; first | done | rfl | simp)
                case rest64 =>
                try simp only [Act.put, List.setIfInBounds_toArray, List.set_cons_zero, List.set_cons_succ]
                refine takeH (i := 20) (v := (.bool false)) rfl (by kernel_rfl) (by kernel_rfl) (by kernel_rfl) (fun _ _ _ h => h) (Or.inl ⟨by rfl, ?hy65⟩) (by assumption) ?rest65
                case hy65 => (intro w hSw; (try dsimp only at hSw); go_simp; first | done | rfl | omega | (rw [Int.tmod_eq_emod_of_nonneg (by omega)]; first | done | rfl | omega) | (congr 1; omega) | (simp; omega))
                case rest65 =>
                try simp only [Act.put, List.setIfInBounds_toArray, List.set_cons_zero, List.set_cons_succ]
                refine takeH (i := 21) (v := ?v66) rfl (by kernel_rfl) (by kernel_rfl) (by kernel_rfl) (fun _ _ _ h => h) (Or.inl ⟨by rfl, ?hy66⟩) (by assumption) ?rest66
                case hy66 => (intro w hSw; (try dsimp only at hSw); go_simp; try (with_reducible rfl))
                case rest66 =>
                try simp only [Act.put, List.setIfInBounds_toArray, List.set_cons_zero, List.set_cons_succ]
                refine takeH (i := 22) (v := ?v67) rfl (by kernel_rfl) (by kernel_rfl) (by kernel_rfl) (fun _ _ _ h => h) (Or.inl ⟨by rfl, ?hy67⟩) (by assumption) ?rest67
                case hy67 => (intro w hSw; (try dsimp only at hSw); go_simp; try (with_reducible rfl))
                case rest67 =>
                try simp only [Act.put, List.setIfInBounds_toArray, List.set_cons_zero, List.set_cons_succ]
                refine takeH (i := 23) (v := (.int .i64 0)) rfl (by kernel_rfl) (by kernel_rfl) (by kernel_rfl) (fun _ _ _ h => h) (Or.inl ⟨by rfl, ?hy68⟩) (by assumption) ?rest68
                case hy68 => (intro w hSw; (try dsimp only at hSw); go_simp; first | done | rfl | omega | (rw [Int.tmod_eq_emod_of_nonneg (by omega)]; first | done | rfl | omega) | (congr 1; omega) | (simp; omega))
                case rest68 =>
                try simp only [Act.put, List.setIfInBounds_toArray, List.set_cons_zero, List.set_cons_succ]
                refine takeH (i := 24) (v := (.bool false)) rfl (by kernel_rfl) (by kernel_rfl) (by kernel_rfl) (fun _ _ _ h => h) (Or.inl ⟨by rfl, ?hy69⟩) (by assumption) ?rest69
                case hy69 => (intro w hSw; (try dsimp only at hSw); go_simp; first | done | rfl | omega | (rw [Int.tmod_eq_emod_of_nonneg (by omega)]; first | done | rfl | omega) | (congr 1; omega) | (simp; omega))
                case rest69 =>
                try simp only [Act.put, List.setIfInBounds_toArray, List.set_cons_zero, List.set_cons_succ]
                refine takeH (i := 25) (v := ?v70) rfl (by kernel_rfl) (by kernel_rfl) (by kernel_rfl) (fun _ _ _ h => h) (Or.inl ⟨by rfl, ?hy70⟩) (by assumption) ?rest70
                case hy70 => (intro w hSw; (try dsimp only at hSw); go_simp; try (with_reducible rfl))
                case rest70 =>
                try simp only [Act.put, List.setIfInBounds_toArray, List.set_cons_zero, List.set_cons_succ]
                refine takeH (i := 26) (v := undef) rfl (by kernel_rfl) (by kernel_rfl) (by kernel_rfl) (fun _ _ _ h => h) (Or.inr ⟨by rfl, by rfl⟩) (by assumption) ?_
                try simp only [Act.put, List.setIfInBounds_toArray, List.set_cons_zero, List.set_cons_succ]
                refine takeH (i := 27) (v := undef) rfl (by kernel_rfl) (by kernel_rfl) (by kernel_rfl) (fun _ _ _ h => h) (Or.inr ⟨by rfl, by rfl⟩) (by assumption) ?_
                try simp only [Act.put, List.setIfInBounds_toArray, List.set_cons_zero, List.set_cons_succ]
                refine takeH (i := 28) (v := undef) rfl (by kernel_rfl) (by kernel_rfl) (by kernel_rfl) (fun _ _ _ h => h) (Or.inr ⟨by rfl, by rfl⟩) (by assumption) ?_
                try simp only [Act.put, List.setIfInBounds_toArray, List.set_cons_zero, List.set_cons_succ]
                refine takeH (i := 29) (v := undef) rfl (by kernel_rfl) (by kernel_rfl) (by kernel_rfl) (fun _ _ _ h => h) (Or.inr ⟨by rfl, by rfl⟩) (by assumption) ?_
                try simp only [Act.put, List.setIfInBounds_toArray, List.set_cons_zero, List.set_cons_succ]
                refine takeH (i := 30) (v := undef) rfl (by kernel_rfl) (by kernel_rfl) (by kernel_rfl) (fun _ _ _ h => h) (Or.inr ⟨by rfl, by rfl⟩) (by assumption) ?_
                try simp only [Act.put, List.setIfInBounds_toArray, List.set_cons_zero, List.set_cons_succ]
                refine takeH (i := 31) (v := undef) rfl (by kernel_rfl) (by kernel_rfl) (by kernel_rfl) (fun _ _ _ h => h) (Or.inr ⟨by rfl, by rfl⟩) (by assumption) ?_
                try simp only [Act.put, List.setIfInBounds_toArray, List.set_cons_zero, List.set_cons_succ]
                refine takeH (i := 32) (v := undef) rfl (by kernel_rfl) (by kernel_rfl) (by kernel_rfl) (fun _ _ _ h => h) (Or.inr ⟨by rfl, by rfl⟩) (by assumption) ?_
                try simp only [Act.put, List.setIfInBounds_toArray, List.set_cons_zero, List.set_cons_succ]
                refine takeH (i := 33) (v := (.bool false)) rfl (by kernel_rfl) (by kernel_rfl) (by kernel_rfl) (fun _ _ _ h => h) (Or.inl ⟨by rfl, ?hy71⟩) (by assumption) ?rest71
                case hy71 => (intro w hSw; (try dsimp only at hSw); go_simp; first | done | rfl | omega | (rw [Int.tmod_eq_emod_of_nonneg (by omega)]; first | done | rfl | omega) | (congr 1; omega) | (simp; omega))
                case rest71 =>
                try simp only [Act.put, List.setIfInBounds_toArray, List.set_cons_zero, List.set_cons_succ]
                refine takeH (i := 34) (v := (.bool false)) rfl (by kernel_rfl) (by kernel_rfl) (by kernel_rfl) (fun _ _ _ h => h) (Or.inl ⟨by rfl, ?hy72⟩) (by assumption) ?rest72
                case hy72 => (intro w hSw; (try dsimp only at hSw); go_simp; first | done | rfl | omega | (rw [Int.tmod_eq_emod_of_nonneg (by omega)]; first | done | rfl | omega) | (congr 1; omega) | (simp; omega))
                case rest72 =>
                try simp only [Act.put, List.setIfInBounds_toArray, List.set_cons_zero, List.set_cons_succ]
                refine wpAnyH_done (by kernel_rfl) ?_ _
                refine hKQ _ _ ?_
                have HBz := Hd.mk (HB6.out.trans (hBd.mono HB6.out.size))
                clear hHd hBd HB6 HXA HXB
                go_wp2
                go_roundg d2
                case measure => omega
                case rel => exact ⟨j + 1, by simp, ⟨by omega⟩, HBz⟩
            · have m1 : decide ((j : Int) < (k : Int)) = false := decide_eq_false (by omega)
              have m2 : decide (j < k) = false := decide_eq_false (by omega)
              clear HB H4
              go_wp2_with fail
              have XA := Hd.mk (alive_calls wr (HT.out.below H5.out.bl))
              go_wp2_with fail
              go_at_call 11
              with_reducible refine XA.out.mono ?_
              rintro _ w7 ⟨rfl, hb⟩
              have H8 := Hd.mk (H5.out.to hb)
              clear XA hb H5
              go_wp2_with fail
              go_ret
              exact ⟨rfl, H8.out.bl⟩
        · have E8 : (C : Int) % 2 = 1 := by omega
          have HFU : Hd (s.full = false) := ⟨by rw [HFL.out]; exact decide_eq_false (fun h => by omega)⟩
          clear he HC2 hkm
          subst hz
          have E9 : (k : Int) % (E : Int) = 0 := E7
          clear E7
          go_upto_region 11 with fail
          rename_i KQ hKQ
          refine regionH (fun w' : World => St w w' F T s) (by kernel_rfl) (fun wd hb => ?_)
          have hHd : (fun w' : World => St w w' F T s) wd := H3.out.to hb
          clear hb H3
          refine takeH (i := 0) (v := ?v73) rfl (by kernel_rfl) (by kernel_rfl) (by kernel_rfl) (fun _ _ _ h => h) (Or.inl ⟨by rfl, ?hy73⟩) (by assumption) ?rest73
          case hy73 => (intro w hSw; (try dsimp only at hSw); go_simp; try (with_reducible rfl))
          case rest73 =>
          try simp only [Act.put, List.setIfInBounds_toArray, List.set_cons_zero, List.set_cons_succ]
          refine takeH (i := 2) (v := ?v74) rfl (by kernel_rfl) (by kernel_rfl) (by kernel_rfl) (fun _ _ _ h => h) (Or.inl ⟨by rfl, ?hy74⟩) (by assumption) ?rest74
          case hy74 => (intro w hSw; (try dsimp only at hSw); go_simp; try (with_reducible rfl))
          case rest74 =>
          try simp only [Act.put, List.setIfInBounds_toArray, List.set_cons_zero, List.set_cons_succ]
          refine wpAnyH_ready (rs := [1]) (by kernel_rfl) (by simp) ?_
          refine consH rfl (fun K hK => ?_) AllReadyH.nil
          go_simp
          go_at_call 21
          with_reducible refine (off_calls hHd.ta.t).mono ?_
          rintro _ wa ⟨rfl, hb2⟩
          have hHd2 : (fun w' : World => St w w' F T s) wa := St.to hHd hb2
          clear hb2 hHd
          have hHd := hHd2
          clear hHd2
          go_simp
          refine hK.out _ _ hHd ?_
          clear hK K
          try simp only [Act.put, List.setIfInBounds_toArray, List.set_cons_zero, List.set_cons_succ]
          refine takeH (i := 3) (v := (.bool false)) rfl (by kernel_rfl) (by kernel_rfl) (by kernel_rfl) (fun _ _ _ h => h) (Or.inl ⟨by rfl, ?hy75⟩) (by assumption) ?rest75
          case hy75 => (intro w hSw; (try dsimp only at hSw); go_simp; first | done | rfl | omega | (rw [Int.tmod_eq_emod_of_nonneg (by omega)]; first | done | rfl | omega) | (congr 1; omega) | (simp; omega))
          case rest75 =>
          try simp only [Act.put, List.setIfInBounds_toArray, List.set_cons_zero, List.set_cons_succ]
          refine takeH (i := 4) (v := ?v76) rfl (by kernel_rfl) (by kernel_rfl) (by kernel_rfl) (fun _ _ _ h => h) (Or.inl ⟨by rfl, ?hy76⟩) (by assumption) ?rest76
          case hy76 => (intro w hSw; (try dsimp only at hSw); go_simp; try (with_reducible rfl))
          case rest76 =>
          try simp only [Act.put, List.setIfInBounds_toArray, List.set_cons_zero, List.set_cons_succ]
          refine takeH (i := 5) (v := ?v77) rfl (by kernel_rfl) (by kernel_rfl) (by kernel_rfl) (fun _ _ _ h => h) (Or.inl ⟨by rfl, ?hy77⟩) (by assumption) ?rest77
          case hy77 => (intro w hSw; (try dsimp only at hSw); go_simp; try (with_reducible rfl))
          case rest77 =>
          try simp only [Act.put, List.setIfInBounds_toArray, List.set_cons_zero, List.set_cons_succ]
          refine takeH (i := 7) (v := ?v78) rfl (by kernel_rfl) (by kernel_rfl) (by kernel_rfl) (fun _ _ _ h => h) (Or.inl ⟨by rfl, ?hy78⟩) (by assumption) ?rest78
          case hy78 => (intro w hSw; (try dsimp only at hSw); go_simp; try (with_reducible rfl))
          case rest78 =>
          try simp only [Act.put, List.setIfInBounds_toArray, List.set_cons_zero, List.set_cons_succ]
          refine takeH (i := 8) (v := ?v79) rfl (by kernel_rfl) (by kernel_rfl) (by kernel_rfl) (fun _ _ _ h => h) (Or.inl ⟨by rfl, ?hy79⟩) (by assumption) ?rest79
          case hy79 => (intro w hSw; (try dsimp only at hSw); go_simp; try (with_reducible rfl))
          case rest79 =>
          try simp only [Act.put, List.setIfInBounds_toArray, List.set_cons_zero, List.set_cons_succ]
          refine takeH (i := 9) (v := (.int .i64 0)) rfl (by kernel_rfl) (by kernel_rfl) (by kernel_rfl) (fun _ _ _ h => h) (Or.inl ⟨by rfl, ?hy80⟩) (by assumption) ?rest80
          case hy80 => (intro w hSw; (try dsimp only at hSw); go_simp; first | done | rfl | omega | (rw [Int.tmod_eq_emod_of_nonneg (by omega)]; first | done | rfl | omega) | (congr 1; omega) | (simp; omega))
          case rest80 =>
          try simp only [Act.put, List.setIfInBounds_toArray, List.set_cons_zero, List.set_cons_succ]
          refine takeH (i := 10) (v := (.bool true)) rfl (by kernel_rfl) (by kernel_rfl) (by kernel_rfl) (fun _ _ _ h => h) (Or.inl ⟨by rfl, ?hy81⟩) (by assumption) ?rest81
          case hy81 => (intro w hSw; (try dsimp only at hSw); go_simp; first | done | rfl | omega | (rw [Int.tmod_eq_emod_of_nonneg (by omega)]; first | done | rfl | omega) | (congr 1; omega) | (simp; omega))
          case rest81 =>
          try simp only [Act.put, List.setIfInBounds_toArray, List.set_cons_zero, List.set_cons_succ]
          refine wpAnyH_ready (rs := [6]) (by kernel_rfl) (by simp) ?_
          refine consH rfl (fun K hK => ?_) AllReadyH.nil
          go_simp
          go_at_call 15
          with_reducible refine (full_calls hHd.ta.t).mono ?_
          rintro _ wb ⟨rfl, hb2⟩
          have hHd2 : (fun w' : World => St w w' F T s) wb := St.to hHd hb2
          clear hb2 hHd
          have hHd := hHd2
          clear hHd2
          go_simp
          refine hK.out _ _ hHd ?_
          clear hK K
          try simp only [Act.put, List.setIfInBounds_toArray, List.set_cons_zero, List.set_cons_succ]
          refine takeH (i := 11) (v := ?v82) rfl (by kernel_rfl) (by kernel_rfl) (by kernel_rfl) (fun _ _ _ h => h) (Or.inl ⟨by rfl, ?hy82⟩) (by assumption) ?rest82
          case hy82 => (intro w hSw; (try dsimp only at hSw); go_simp; try (with_reducible rfl))
          case rest82 =>
          try simp only [Act.put, List.setIfInBounds_toArray, List.set_cons_zero, List.set_cons_succ]
          refine takeH (i := 12) (v := ?v83) rfl (by kernel_rfl) (by kernel_rfl) (by kernel_rfl) (fun _ _ _ h => h) (Or.inl ⟨by rfl, ?hy83⟩) (by assumption) ?rest83
          case hy83 => (intro w hSw; (try dsimp only at hSw); go_simp; try (with_reducible rfl))
          case rest83 =>
          try simp only [Act.put, List.setIfInBounds_toArray, List.set_cons_zero, List.set_cons_succ]
          refine takeH (i := 13) (v := (.int .i64 1)) rfl (by kernel_rfl) (by kernel_rfl) (by kernel_rfl) (fun _ _ _ h => h) (Or.inl ⟨by rfl, ?hy84⟩) (by assumption) ?rest84
          case hy84 => (intro w hSw; (try dsimp only at hSw); go_simp; first | done | rfl | omega | (rw [Int.tmod_eq_emod_of_nonneg (by omega)]; first | done | rfl | omega) | (congr 1; omega) | (simp; omega))
          case rest84 =>
          try simp only [Act.put, List.setIfInBounds_toArray, List.set_cons_zero, List.set_cons_succ]
          refine takeH (i := 14) (v := (.bool false)) rfl (by kernel_rfl) (by kernel_rfl) (by kernel_rfl) (fun _ _ _ h => h) (Or.inl ⟨by rfl, ?hy85⟩) (by assumption) ?rest85
          case hy85 => (intro w hSw; (try dsimp only at hSw); go_simp; first | done | rfl | omega | (rw [Int.tmod_eq_emod_of_nonneg (by omega)]; first | done | rfl | omega) | (congr 1; omega) | (simp; omega))
          case rest85 =>
          try simp only [Act.put, List.setIfInBounds_toArray, List.set_cons_zero, List.set_cons_succ]
          refine takeH (i := 15) (v := (.bool false)) rfl (by kernel_rfl) (by kernel_rfl) (by kernel_rfl) (fun _ _ _ h => h) (Or.inl ⟨by rfl, ?hy86⟩) (by assumption) ?rest86
          case hy86 => (intro w hSw; (try dsimp only at hSw); go_simp; first | done | rfl | omega | (rw [Int.tmod_eq_emod_of_nonneg (by omega)]; first | done | rfl | omega) | (congr 1; omega) | (simp; omega))
          case rest86 =>
          try simp only [Act.put, List.setIfInBounds_toArray, List.set_cons_zero, List.set_cons_succ]
          refine takeH (i := 16) (v := (.bool false)) rfl (by kernel_rfl) (by kernel_rfl) (by kernel_rfl) (fun _ _ _ h => h) (Or.inl ⟨by rfl, ?hy87⟩) (by assumption) ?rest87
          case hy87 => (intro w hSw; (try dsimp only at hSw); first | (rw [HFU.out]; go_simp; done) | (go_simp; rw [HFU.out]; done) | (go_simp; simp [HFU.out]))
          case rest87 =>
          try simp only [Act.put, List.setIfInBounds_toArray, List.set_cons_zero, List.set_cons_succ]
          refine takeH (i := 17) (v := (.bool false)) rfl (by kernel_rfl) (by kernel_rfl) (by kernel_rfl) (fun _ _ _ h => h) (Or.inl ⟨by rfl, ?hy88⟩) (by assumption) ?rest88
          case hy88 => (intro w hSw; (try dsimp only at hSw); go_simp; first | done | rfl | omega | (rw [Int.tmod_eq_emod_of_nonneg (by omega)]; first | done | rfl | omega) | (congr 1; omega) | (simp; omega))
          case rest88 =>
          try simp only [Act.put, List.setIfInBounds_toArray, List.set_cons_zero, List.set_cons_succ]
          refine wpAnyH_done (by kernel_rfl) ?_ _
          refine hKQ _ _ ?_
          go_wp2_with fail
          have H4 := Hd.mk (show St w wb F T s from hHd)
          clear hHd HFU HFL
          go_loopg [87] k (fun gk vj wx => ∃ (j : Nat), vj = .int .i64 (j : Int) ∧ Hd (j + gk = k) ∧ Hd (Below wb.heap.size wb wx))
          case atStart => exact ⟨0, rfl, ⟨by omega⟩, ⟨Below.refl _ _⟩⟩
          case round =>
            obtain ⟨j, rfl, HJ2, HB⟩ := hrel
            have h2 := HJ2.out
            have H5 := Hd.mk (H4.out.to HB.out)
            by_cases hlt : j < k
            · obtain ⟨d2, rfl⟩ : ∃ d, gk = d + 1 := ⟨gk - 1, by omega⟩
              have m1 : decide ((j : Int) < (k : Int)) = true := decide_eq_true (by omega)
              have m2 : decide (j < k) = true := decide_eq_true hlt
              have m3 : (j : Int) < (k : Int) := by omega
              have m4 : (0 : Int) ≤ (j : Int) := by omega
              have m5 : (j : Int) ≤ 200 := by omega
              have hjm := Nat.mod_lt j (show 0 < E by omega)
              obtain ⟨i, hi⟩ : ∃ i, j / E = i := ⟨_, rfl⟩
              have hij : i * E + j % E = j := by rw [← hi, Nat.mul_comm]; exact Nat.div_add_mod j E
              have E3 : (j : Int) / (E : Int) = (i : Int) := by rw [← hi]; exact (Int.natCast_ediv _ _).symm
              obtain ⟨m, hm⟩ : ∃ m, j % E = m := ⟨_, rfl⟩
              have E4 : (j : Int) % (E : Int) = (m : Int) := by rw [← hm]; exact (Int.natCast_emod _ _).symm
              rw [hm] at hjm hij
              have hiq : i ≤ q := div_le_q hE1 hlt HQ.out hi
              have hi4 : (i : Int) ≤ 200 := by omega
              clear hm hi
              obtain ⟨p, hp⟩ : ∃ p, 2 * m = p := ⟨_, rfl⟩
              have E5 : 2 * (m : Int) = (p : Int) := by omega
              have p0 : (0 : Int) ≤ (p : Int) := by omega
              have p1 : (p : Int) < (C : Int) := by omega
              have p2 : (p : Int) + 1 < (C : Int) := by omega
              have p3 : (p : Int) ≤ 120 := by omega
              obtain ⟨pp, hpp⟩ : ∃ pp, p + 1 = pp := ⟨_, rfl⟩
              have pp0 : (0 : Int) ≤ (pp : Int) := by omega
              have pp1 : (pp : Int) < (C : Int) := by omega
              have q1 : (m : Int) < (E : Int) := by omega
              have q0 : (0 : Int) ≤ (m : Int) := by omega
              have HXA : Hd (∀ (r : RR) (w' : World), RowAt w' r (lineW E C k i) → w'.cell? ⟨r.g, p * 3, none⟩ = some (.string ⟨#[228, 184, 173]⟩) ∧ w'.cell? ⟨r.g, p * 3 + 1, none⟩ = some (.int .i64 2) ∧ w'.cell? ⟨r.g, p * 3 + 2, none⟩ = some (.bool false)) := ⟨fun r w' h => wide_three h (by omega) (by omega) (by omega) (by omega)⟩
              have HXB : Hd (∀ (r : RR) (w' : World), RowAt w' r (lineW E C k i) → w'.cell? ⟨r.g, pp * 3, none⟩ = some (.string ⟨#[]⟩) ∧ w'.cell? ⟨r.g, pp * 3 + 1, none⟩ = some (.int .i64 0) ∧ w'.cell? ⟨r.g, pp * 3 + 2, none⟩ = some (.bool false)) := ⟨fun r w' h => by rw [← hpp]; exact half_three h (by omega) (by omega) (by omega) (by omega)⟩
              have HXC : Hd (∀ (r : RR) (w' : World), RowAt w' r (lineW E C k i) → w'.cell? ⟨r.g, (C - 1) * 3, none⟩ = some (.string ⟨#[32]⟩) ∧ w'.cell? ⟨r.g, (C - 1) * 3 + 1, none⟩ = some (.int .i64 1) ∧ w'.cell? ⟨r.g, (C - 1) * 3 + 2, none⟩ = some (.bool false)) := ⟨fun r w' h => last_three h (by omega) (by omega)⟩
              obtain ⟨D, hD⟩ : ∃ D, C - 1 = D := ⟨_, rfl⟩
              rw [hD] at HXC
              have E6 : (C : Int) - 1 = (D : Int) := by omega
              have D1 : (D : Int) < (C : Int) := by omega
              have D0 : (0 : Int) ≤ (D : Int) := by omega
              clear hD
              clear hij hp
              by_cases hoff : i < s.off
              · have XG := Hd.mk (gone_at H5.out.ta.t K3.out.ok (by omega) (k := i) (j := i) (by rw [HSC.out.glen]; exact hoff) (by rw [HSC.out.glen]; omega))
                rw [HSC.out.gone i hoff, lineW_len] at XG
                have o1 : decide ((s.off : Int) ≤ (i : Int)) = false := decide_eq_false (by omega)
                have o2 : decide (s.off ≤ i) = false := decide_eq_false (by omega)
                have o3 : (i : Int) < (s.off : Int) := by omega
                go_wp2_with fail
                go_wp2_with fail
                go_at_call 22
                with_reducible refine XG.out.mono ?_
                rintro _ w5 ⟨r, rfl, hrn, hrg, hr, hb⟩
                have HB5 := Hd.mk (HB.out.trans (hb.mono HB.out.size))
                have HR := Hd.mk hr
                clear XG hrg hr hb HB H5
                have HXA := Hd.mk (HXA.out r)
                have HXB := Hd.mk (HXB.out r)
                have HXC := Hd.mk (HXC.out r)
                unfold RR.v
                rw [hrn]
                go_upto_region 20 with fail
                rename_i KQ hKQ
                refine regionH (fun w' : World => RowAt w' r (lineW E C k i)) (by kernel_rfl) (fun wd hb => ?_)
                have hHd : (fun w' : World => RowAt w' r (lineW E C k i)) wd := RowAt.below HR.out hb
                have hBd := hb
                clear hb HR
                refine takeH (i := 0) (v := ?v89) rfl (by kernel_rfl) (by kernel_rfl) (by kernel_rfl) (fun _ _ _ h => h) (Or.inl ⟨by rfl, ?hy89⟩) (by assumption) ?rest89
                case hy89 => (intro w hSw; (try dsimp only at hSw); go_simp; try (with_reducible rfl))
                case rest89 =>
                try simp only [Act.put, List.setIfInBounds_toArray, List.set_cons_zero, List.set_cons_succ]
                refine takeH (i := 1) (v := ?v90) rfl (by kernel_rfl) (by kernel_rfl) (by kernel_rfl) (fun _ _ _ h => h) (Or.inl ⟨by rfl, ?hy90⟩) (by assumption) ?rest90
                case hy90 => (intro w hSw; (try dsimp only at hSw); go_simp; try (with_reducible rfl))
                case rest90 =>
                try simp only [Act.put, List.setIfInBounds_toArray, List.set_cons_zero, List.set_cons_succ]
                refine takeH (i := 2) (v := ?v91) rfl (by kernel_rfl) (by kernel_rfl) (by kernel_rfl) (fun _ _ _ h => h) (Or.inl ⟨by rfl, ?hy91⟩) (by assumption) ?rest91
                case hy91 => (intro w hSw; (try dsimp only at hSw); go_simp; try (with_reducible rfl))
                case rest91 =>
                try simp only [Act.put, List.setIfInBounds_toArray, List.set_cons_zero, List.set_cons_succ]
                refine takeH (i := 3) (v := (.bool false)) rfl (by kernel_rfl) (by kernel_rfl) (by kernel_rfl) (fun _ _ _ h => h) (Or.inl ⟨by rfl, ?hy92⟩) (by assumption) ?rest92
                case hy92 => (intro w hSw; (try dsimp only at hSw); go_simp; first | done | rfl | omega | (rw [Int.tmod_eq_emod_of_nonneg (by omega)]; first | done | rfl | omega) | (congr 1; omega) | (simp; omega))
                case rest92 =>
                try simp only [Act.put, List.setIfInBounds_toArray, List.set_cons_zero, List.set_cons_succ]
                refine takeH (i := 4) (v := ?v93) rfl (by kernel_rfl) (by kernel_rfl) (by kernel_rfl) (fun _ _ _ h => h) (Or.inl ⟨by rfl, ?hy93⟩) (by assumption) ?rest93
                case hy93 => (intro w hSw; (try dsimp only at hSw); go_simp; try (with_reducible rfl))
                case rest93 =>
                try simp only [Act.put, List.setIfInBounds_toArray, List.set_cons_zero, List.set_cons_succ]
                refine takeH (i := 5) (v := ?v94) rfl (by kernel_rfl) (by kernel_rfl) (by kernel_rfl) (fun _ _ _ h => h) (Or.inl ⟨by rfl, ?hy94⟩) (by assumption) ?rest94
                case hy94 => (intro w hSw; (try dsimp only at hSw); go_simp; try (with_reducible rfl))
                case rest94 =>
                try simp only [Act.put, List.setIfInBounds_toArray, List.set_cons_zero, List.set_cons_succ]
                refine takeH (i := 6) (v := ?v95) rfl (by kernel_rfl) (by kernel_rfl) (by kernel_rfl) (fun _ _ _ h => h) (Or.inl ⟨by rfl, ?hy95⟩) (by assumption) ?rest95
                case hy95 => (intro w hSw; (try dsimp only at hSw); go_simp; try (with_reducible rfl))
                case rest95 =>
                try simp only [Act.put, List.setIfInBounds_toArray, List.set_cons_zero, List.set_cons_succ]
                refine takeH (i := 7) (v := ?v96) rfl (by kernel_rfl) (by kernel_rfl) (by kernel_rfl) (fun _ _ _ h => h) (Or.inl ⟨by rfl, ?hy96⟩) (by assumption) ?rest96
                case hy96 => (intro w hSw; (try dsimp only at hSw); go_simp; try (with_reducible rfl))
                case rest96 =>
                try simp only [Act.put, List.setIfInBounds_toArray, List.set_cons_zero, List.set_cons_succ]
                refine takeH (i := 8) (v := (.agg #[.string ⟨#[228, 184, 173]⟩, .int .i64 2, .bool false])) rfl (by kernel_rfl) (by kernel_rfl) (by kernel_rfl) (fun _ _ _ h => h) (Or.inl ⟨by rfl, ?hy97⟩) (by assumption) ?rest97
                case hy97 => (intro w hSw; (try dsimp only at hSw); obtain ⟨y0, y1, y2⟩ := HXA.out _ hSw; go_simp; first | done | rfl)
                case rest97 =>
                try simp only [Act.put, List.setIfInBounds_toArray, List.set_cons_zero, List.set_cons_succ]
                refine takeH (i := 9) (v := ?v98) rfl (by kernel_rfl) (by kernel_rfl) (by kernel_rfl) (fun _ _ _ h => h) (Or.inl ⟨by rfl, ?hy98⟩) (by assumption) ?rest98
                case hy98 => (intro w hSw; (try dsimp only at hSw); go_simp; try (with_reducible rfl))
                case rest98 =>
                try simp only [Act.put, List.setIfInBounds_toArray, List.set_cons_zero, List.set_cons_succ]
                refine takeH (i := 10) (v := (.bool false)) rfl (by kernel_rfl) (by kernel_rfl) (by kernel_rfl) (fun _ _ _ h => h) (Or.inl ⟨by rfl, ?hy99⟩) (by assumption) ?rest99
                case hy99 => (intro w hSw; (try dsimp only at hSw); go_simp; first | done | rfl | simp)
                case rest99 =>
                try simp only [Act.put, List.setIfInBounds_toArray, List.set_cons_zero, List.set_cons_succ]
                refine takeH (i := 11) (v := (.bool false)) rfl (by kernel_rfl) (by kernel_rfl) (by kernel_rfl) (fun _ _ _ h => h) (Or.inl ⟨by rfl, ?hy100⟩) (by assumption) ?rest100
                case hy100 => (intro w hSw; (try dsimp only at hSw); go_simp; first | done | rfl | omega | (rw [Int.tmod_eq_emod_of_nonneg (by omega)]; first | done | rfl | omega) | (congr 1; omega) | (simp; omega))
                case rest100 =>
                try simp only [Act.put, List.setIfInBounds_toArray, List.set_cons_zero, List.set_cons_succ]
                refine takeH (i := 12) (v := ?v101) rfl (by kernel_rfl) (by kernel_rfl) (by kernel_rfl) (fun _ _ _ h => h) (Or.inl ⟨by rfl, ?hy101⟩) (by assumption) ?rest101
                case hy101 => (intro w hSw; (try dsimp only at hSw); go_simp; try (with_reducible rfl))
                case rest101 =>
                try simp only [Act.put, List.setIfInBounds_toArray, List.set_cons_zero, List.set_cons_succ]
                refine takeH (i := 13) (v := ?v102) rfl (by kernel_rfl) (by kernel_rfl) (by kernel_rfl) (fun _ _ _ h => h) (Or.inl ⟨by rfl, ?hy102⟩) (by assumption) ?rest102
                case hy102 => (intro w hSw; (try dsimp only at hSw); go_simp; try (with_reducible rfl))
                case rest102 =>
                try simp only [Act.put, List.setIfInBounds_toArray, List.set_cons_zero, List.set_cons_succ]
                refine takeH (i := 14) (v := ?v103) rfl (by kernel_rfl) (by kernel_rfl) (by kernel_rfl) (fun _ _ _ h => h) (Or.inl ⟨by rfl, ?hy103⟩) (by assumption) ?rest103
                case hy103 => (intro w hSw; (try dsimp only at hSw); go_simp; try (with_reducible rfl))
                case rest103 =>
                try simp only [Act.put, List.setIfInBounds_toArray, List.set_cons_zero, List.set_cons_succ]
                refine takeH (i := 15) (v := (.int .i64 (pp : Int))) rfl (by kernel_rfl) (by kernel_rfl) (by kernel_rfl) (fun _ _ _ h => h) (Or.inl ⟨by rfl, ?hy104⟩) (by assumption) ?rest104
                case hy104 => (intro w hSw; (try dsimp only at hSw); go_simp; first | done | rfl | (congr 1; (try rw [IntKind.wrap_i64]); omega) | (rw [IntKind.wrap_i64]; congr 3; omega) | (simp; omega))
                case rest104 =>
                try simp only [Act.put, List.setIfInBounds_toArray, List.set_cons_zero, List.set_cons_succ]
                refine takeH (i := 16) (v := ?v105) rfl (by kernel_rfl) (by kernel_rfl) (by kernel_rfl) (fun _ _ _ h => h) (Or.inl ⟨by rfl, ?hy105⟩) (by assumption) ?rest105
                case hy105 => (intro w hSw; (try dsimp only at hSw); go_simp; try (with_reducible rfl))
                case rest105 =>
                try simp only [Act.put, List.setIfInBounds_toArray, List.set_cons_zero, List.set_cons_succ]
                refine takeH (i := 17) (v := (.agg #[.string ⟨#[]⟩, .int .i64 0, .bool false])) rfl (by kernel_rfl) (by kernel_rfl) (by kernel_rfl) (fun _ _ _ h => h) (Or.inl ⟨by rfl, ?hy106⟩) (by assumption) ?rest106
                case hy106 => (intro w hSw; (try dsimp only at hSw); obtain ⟨y0, y1, y2⟩ := HXB.out _ hSw; go_simp; first | done | rfl)
                case rest106 =>
                try simp only [Act.put, List.setIfInBounds_toArray, List.set_cons_zero, List.set_cons_succ]
                refine takeH (i := 18) (v := (.agg #[.string ⟨#[]⟩, .int .i64 0, .bool false])) rfl (by kernel_rfl) (by kernel_rfl) (by kernel_rfl) (fun _ _ _ h => h) (Or.inl ⟨by rfl, ?hy107⟩) (by assumption) ?rest107
                case hy107 => (intro w hSw; (try dsimp only at hSw); go_simp; first | done | rfl)
                case rest107 =>
                try simp only [Act.put, List.setIfInBounds_toArray, List.set_cons_zero, List.set_cons_succ]
                refine takeH (i := 19) (v := (.bool false)) rfl (by kernel_rfl) (by kernel_rfl) (by kernel_rfl) (fun _ _ _ h => h) (Or.inl ⟨by rfl, ?hy108⟩) (by assumption) ?rest108
                case hy108 => (intro w hSw; (try dsimp only at hSw); go_simp; first | done | rfl | simp)
                case rest108 =>
                try simp only [Act.put, List.setIfInBounds_toArray, List.set_cons_zero, List.set_cons_succ]
                refine takeH (i := 20) (v := (.bool false)) rfl (by kernel_rfl) (by kernel_rfl) (by kernel_rfl) (fun _ _ _ h => h) (Or.inl ⟨by rfl, ?hy109⟩) (by assumption) ?rest109
                case hy109 => (intro w hSw; (try dsimp only at hSw); go_simp; first | done | rfl | omega | (rw [Int.tmod_eq_emod_of_nonneg (by omega)]; first | done | rfl | omega) | (congr 1; omega) | (simp; omega))
                case rest109 =>
                try simp only [Act.put, List.setIfInBounds_toArray, List.set_cons_zero, List.set_cons_succ]
                refine takeH (i := 21) (v := ?v110) rfl (by kernel_rfl) (by kernel_rfl) (by kernel_rfl) (fun _ _ _ h => h) (Or.inl ⟨by rfl, ?hy110⟩) (by assumption) ?rest110
                case hy110 => (intro w hSw; (try dsimp only at hSw); go_simp; try (with_reducible rfl))
                case rest110 =>
                try simp only [Act.put, List.setIfInBounds_toArray, List.set_cons_zero, List.set_cons_succ]
                refine takeH (i := 22) (v := ?v111) rfl (by kernel_rfl) (by kernel_rfl) (by kernel_rfl) (fun _ _ _ h => h) (Or.inl ⟨by rfl, ?hy111⟩) (by assumption) ?rest111
                case hy111 => (intro w hSw; (try dsimp only at hSw); go_simp; try (with_reducible rfl))
                case rest111 =>
                try simp only [Act.put, List.setIfInBounds_toArray, List.set_cons_zero, List.set_cons_succ]
                refine takeH (i := 23) (v := (.int .i64 1)) rfl (by kernel_rfl) (by kernel_rfl) (by kernel_rfl) (fun _ _ _ h => h) (Or.inl ⟨by rfl, ?hy112⟩) (by assumption) ?rest112
                case hy112 => (intro w hSw; (try dsimp only at hSw); go_simp; first | done | rfl | omega | (rw [Int.tmod_eq_emod_of_nonneg (by omega)]; first | done | rfl | omega) | (congr 1; omega) | (simp; omega))
                case rest112 =>
                try simp only [Act.put, List.setIfInBounds_toArray, List.set_cons_zero, List.set_cons_succ]
                refine takeH (i := 24) (v := (.bool true)) rfl (by kernel_rfl) (by kernel_rfl) (by kernel_rfl) (fun _ _ _ h => h) (Or.inl ⟨by rfl, ?hy113⟩) (by assumption) ?rest113
                case hy113 => (intro w hSw; (try dsimp only at hSw); go_simp; first | done | rfl | omega | (rw [Int.tmod_eq_emod_of_nonneg (by omega)]; first | done | rfl | omega) | (congr 1; omega) | (simp; omega))
                case rest113 =>
                try simp only [Act.put, List.setIfInBounds_toArray, List.set_cons_zero, List.set_cons_succ]
                refine takeH (i := 25) (v := ?v114) rfl (by kernel_rfl) (by kernel_rfl) (by kernel_rfl) (fun _ _ _ h => h) (Or.inl ⟨by rfl, ?hy114⟩) (by assumption) ?rest114
                case hy114 => (intro w hSw; (try dsimp only at hSw); go_simp; try (with_reducible rfl))
                case rest114 =>
                try simp only [Act.put, List.setIfInBounds_toArray, List.set_cons_zero, List.set_cons_succ]
                refine takeH (i := 26) (v := ?v115) rfl (by kernel_rfl) (by kernel_rfl) (by kernel_rfl) (fun _ _ _ h => h) (Or.inl ⟨by rfl, ?hy115⟩) (by assumption) ?rest115
                case hy115 => (intro w hSw; (try dsimp only at hSw); go_simp; try (with_reducible rfl))
                case rest115 =>
                try simp only [Act.put, List.setIfInBounds_toArray, List.set_cons_zero, List.set_cons_succ]
                refine takeH (i := 27) (v := ?v116) rfl (by kernel_rfl) (by kernel_rfl) (by kernel_rfl) (fun _ _ _ h => h) (Or.inl ⟨by rfl, ?hy116⟩) (by assumption) ?rest116
                case hy116 => (intro w hSw; (try dsimp only at hSw); go_simp; try (with_reducible rfl))
                case rest116 =>
                try simp only [Act.put, List.setIfInBounds_toArray, List.set_cons_zero, List.set_cons_succ]
                refine takeH (i := 28) (v := (.int .i64 (D : Int))) rfl (by kernel_rfl) (by kernel_rfl) (by kernel_rfl) (fun _ _ _ h => h) (Or.inl ⟨by rfl, ?hy117⟩) (by assumption) ?rest117
                case hy117 => (intro w hSw; (try dsimp only at hSw); go_simp; first | done | rfl | (congr 1; (try rw [IntKind.wrap_i64]); omega) | (rw [IntKind.wrap_i64]; congr 3; omega) | (simp; omega))
                case rest117 =>
                try simp only [Act.put, List.setIfInBounds_toArray, List.set_cons_zero, List.set_cons_succ]
                refine takeH (i := 29) (v := ?v118) rfl (by kernel_rfl) (by kernel_rfl) (by kernel_rfl) (fun _ _ _ h => h) (Or.inl ⟨by rfl, ?hy118⟩) (by assumption) ?rest118
                case hy118 => (intro w hSw; (try dsimp only at hSw); go_simp; try (with_reducible rfl))
                case rest118 =>
                try simp only [Act.put, List.setIfInBounds_toArray, List.set_cons_zero, List.set_cons_succ]
                refine takeH (i := 30) (v := (.agg #[.string ⟨#[32]⟩, .int .i64 1, .bool false])) rfl (by kernel_rfl) (by kernel_rfl) (by kernel_rfl) (fun _ _ _ h => h) (Or.inl ⟨by rfl, ?hy119⟩) (by assumption) ?rest119
                case hy119 => (intro w hSw; (try dsimp only at hSw); obtain ⟨y0, y1, y2⟩ := HXC.out _ hSw; go_simp; first | done | rfl)
                case rest119 =>
                try simp only [Act.put, List.setIfInBounds_toArray, List.set_cons_zero, List.set_cons_succ]
                refine wpAnyH_ready (rs := [31]) (by kernel_rfl) (by simp) ?_
                refine consH rfl (fun K hK => ?_) AllReadyH.nil
                go_simp
                go_at_call 25
                with_reducible refine (blank2_calls _).mono ?_
                rintro _ wq ⟨rfl, hb2⟩
                have hHd2 : (fun w' : World => RowAt w' r (lineW E C k i)) wq := RowAt.below hHd hb2
                have hBd2 := hBd.trans (hb2.mono hBd.size)
                clear hb2 hHd hBd
                have hHd := hHd2
                have hBd := hBd2
                clear hHd2 hBd2
                go_simp
                refine hK.out _ _ hHd ?_
                clear hK K
                try simp only [Act.put, List.setIfInBounds_toArray, List.set_cons_zero, List.set_cons_succ]
                refine takeH (i := 32) (v := (.bool false)) rfl (by kernel_rfl) (by kernel_rfl) (by kernel_rfl) (fun _ _ _ h => h) (Or.inl ⟨by rfl, ?hy120⟩) (by assumption) ?rest120
                case hy120 => (intro w hSw; (try dsimp only at hSw); go_simp; first | done | rfl | simp)
                case rest120 =>
                try simp only [Act.put, List.setIfInBounds_toArray, List.set_cons_zero, List.set_cons_succ]
                refine takeH (i := 33) (v := (.bool false)) rfl (by kernel_rfl) (by kernel_rfl) (by kernel_rfl) (fun _ _ _ h => h) (Or.inl ⟨by rfl, ?hy121⟩) (by assumption) ?rest121
                case hy121 => (intro w hSw; (try dsimp only at hSw); go_simp; first | done | rfl | omega | (rw [Int.tmod_eq_emod_of_nonneg (by omega)]; first | done | rfl | omega) | (congr 1; omega) | (simp; omega))
                case rest121 =>
                try simp only [Act.put, List.setIfInBounds_toArray, List.set_cons_zero, List.set_cons_succ]
                refine takeH (i := 34) (v := (.bool false)) rfl (by kernel_rfl) (by kernel_rfl) (by kernel_rfl) (fun _ _ _ h => h) (Or.inl ⟨by rfl, ?hy122⟩) (by assumption) ?rest122
                case hy122 => (intro w hSw; (try dsimp only at hSw); go_simp; first | done | rfl | omega | (rw [Int.tmod_eq_emod_of_nonneg (by omega)]; first | done | rfl | omega) | (congr 1; omega) | (simp; omega))
                case rest122 =>
                try simp only [Act.put, List.setIfInBounds_toArray, List.set_cons_zero, List.set_cons_succ]
                refine wpAnyH_done (by kernel_rfl) ?_ _
                refine hKQ _ _ ?_
                have HBz := Hd.mk (HB5.out.trans (hBd.mono HB5.out.size))
                clear hHd hBd HB5 HXA HXB HXC
                go_wp2
                go_roundg d2
                case measure => omega
                case rel => exact ⟨j + 1, by simp, ⟨by omega⟩, HBz⟩
              · have XG := Hd.mk (gone_none H5.out.ta.t K3.out.ok (by omega) (k := i) (by omega) (by omega))
                have o1 : decide ((s.off : Int) ≤ (i : Int)) = true := decide_eq_true (by omega)
                have o2 : decide (s.off ≤ i) = true := decide_eq_true (by omega)
                have o3 : (s.off : Int) ≤ (i : Int) := by omega
                have hmr := HSC.out.more
                have hrr := HSC.out.row
                have hir : i - s.off < R := by omega
                have o4 : (i : Int) - (s.off : Int) = ((i - s.off : Nat) : Int) := by omega
                have o5 : (0 : Int) ≤ (s.off : Int) := Int.natCast_nonneg _
                go_wp2_with fail
                go_wp2_with fail
                go_at_call 22
                with_reducible refine XG.out.mono ?_
                rintro _ w5 ⟨rfl, hb⟩
                have HB5 := Hd.mk (HB.out.trans (hb.mono HB.out.size))
                have H6 := Hd.mk (H5.out.to hb)
                clear XG hb HB H5
                have XR := Hd.mk (row_at H6.out.ta.t K3.out.ok (k := i - s.off) (by rw [HSC.out.len]; exact hir))
                rw [HSC.out.rows _ hir, show s.off + (i - s.off) = i by omega, HSC.out.cols] at XR
                clear hmr hrr hir
                go_wp2_with fail
                go_wp2_with fail
                go_at_call 14
                with_reducible refine XR.out.mono ?_
                rintro _ w6 ⟨r, rfl, hrn, hrg, hr, hb⟩
                have HB6 := Hd.mk (HB5.out.trans (hb.mono HB5.out.size))
                have HR := Hd.mk hr
                clear XR hrg hr hb HB5 H6
                have HXA := Hd.mk (HXA.out r)
                have HXB := Hd.mk (HXB.out r)
                have HXC := Hd.mk (HXC.out r)
                unfold RR.v
                rw [hrn]
                go_upto_region 20 with fail
                rename_i KQ hKQ
                refine regionH (fun w' : World => RowAt w' r (lineW E C k i)) (by kernel_rfl) (fun wd hb => ?_)
                have hHd : (fun w' : World => RowAt w' r (lineW E C k i)) wd := RowAt.below HR.out hb
                have hBd := hb
                clear hb HR
                refine takeH (i := 0) (v := ?v123) rfl (by kernel_rfl) (by kernel_rfl) (by kernel_rfl) (fun _ _ _ h => h) (Or.inl ⟨by rfl, ?hy123⟩) (by assumption) ?rest123
                case hy123 => (intro w hSw; (try dsimp only at hSw); go_simp; try (with_reducible rfl))
                case rest123 =>
                try simp only [Act.put, List.setIfInBounds_toArray, List.set_cons_zero, List.set_cons_succ]
                refine takeH (i := 1) (v := ?v124) rfl (by kernel_rfl) (by kernel_rfl) (by kernel_rfl) (fun _ _ _ h => h) (Or.inl ⟨by rfl, ?hy124⟩) (by assumption) ?rest124
                case hy124 => (intro w hSw; (try dsimp only at hSw); go_simp; try (with_reducible rfl))
                case rest124 =>
                try simp only [Act.put, List.setIfInBounds_toArray, List.set_cons_zero, List.set_cons_succ]
                refine takeH (i := 2) (v := ?v125) rfl (by kernel_rfl) (by kernel_rfl) (by kernel_rfl) (fun _ _ _ h => h) (Or.inl ⟨by rfl, ?hy125⟩) (by assumption) ?rest125
                case hy125 => (intro w hSw; (try dsimp only at hSw); go_simp; try (with_reducible rfl))
                case rest125 =>
                try simp only [Act.put, List.setIfInBounds_toArray, List.set_cons_zero, List.set_cons_succ]
                refine takeH (i := 3) (v := (.bool false)) rfl (by kernel_rfl) (by kernel_rfl) (by kernel_rfl) (fun _ _ _ h => h) (Or.inl ⟨by rfl, ?hy126⟩) (by assumption) ?rest126
                case hy126 => (intro w hSw; (try dsimp only at hSw); go_simp; first | done | rfl | omega | (rw [Int.tmod_eq_emod_of_nonneg (by omega)]; first | done | rfl | omega) | (congr 1; omega) | (simp; omega))
                case rest126 =>
                try simp only [Act.put, List.setIfInBounds_toArray, List.set_cons_zero, List.set_cons_succ]
                refine takeH (i := 4) (v := ?v127) rfl (by kernel_rfl) (by kernel_rfl) (by kernel_rfl) (fun _ _ _ h => h) (Or.inl ⟨by rfl, ?hy127⟩) (by assumption) ?rest127
                case hy127 => (intro w hSw; (try dsimp only at hSw); go_simp; try (with_reducible rfl))
                case rest127 =>
                try simp only [Act.put, List.setIfInBounds_toArray, List.set_cons_zero, List.set_cons_succ]
                refine takeH (i := 5) (v := ?v128) rfl (by kernel_rfl) (by kernel_rfl) (by kernel_rfl) (fun _ _ _ h => h) (Or.inl ⟨by rfl, ?hy128⟩) (by assumption) ?rest128
                case hy128 => (intro w hSw; (try dsimp only at hSw); go_simp; try (with_reducible rfl))
                case rest128 =>
                try simp only [Act.put, List.setIfInBounds_toArray, List.set_cons_zero, List.set_cons_succ]
                refine takeH (i := 6) (v := ?v129) rfl (by kernel_rfl) (by kernel_rfl) (by kernel_rfl) (fun _ _ _ h => h) (Or.inl ⟨by rfl, ?hy129⟩) (by assumption) ?rest129
                case hy129 => (intro w hSw; (try dsimp only at hSw); go_simp; try (with_reducible rfl))
                case rest129 =>
                try simp only [Act.put, List.setIfInBounds_toArray, List.set_cons_zero, List.set_cons_succ]
                refine takeH (i := 7) (v := ?v130) rfl (by kernel_rfl) (by kernel_rfl) (by kernel_rfl) (fun _ _ _ h => h) (Or.inl ⟨by rfl, ?hy130⟩) (by assumption) ?rest130
                case hy130 => (intro w hSw; (try dsimp only at hSw); go_simp; try (with_reducible rfl))
                case rest130 =>
                try simp only [Act.put, List.setIfInBounds_toArray, List.set_cons_zero, List.set_cons_succ]
                refine takeH (i := 8) (v := (.agg #[.string ⟨#[228, 184, 173]⟩, .int .i64 2, .bool false])) rfl (by kernel_rfl) (by kernel_rfl) (by kernel_rfl) (fun _ _ _ h => h) (Or.inl ⟨by rfl, ?hy131⟩) (by assumption) ?rest131
                case hy131 => (intro w hSw; (try dsimp only at hSw); obtain ⟨y0, y1, y2⟩ := HXA.out _ hSw; go_simp; first | done | rfl)
                case rest131 =>
                try simp only [Act.put, List.setIfInBounds_toArray, List.set_cons_zero, List.set_cons_succ]
                refine takeH (i := 9) (v := ?v132) rfl (by kernel_rfl) (by kernel_rfl) (by kernel_rfl) (fun _ _ _ h => h) (Or.inl ⟨by rfl, ?hy132⟩) (by assumption) ?rest132
                case hy132 => (intro w hSw; (try dsimp only at hSw); go_simp; try (with_reducible rfl))
                case rest132 =>
                try simp only [Act.put, List.setIfInBounds_toArray, List.set_cons_zero, List.set_cons_succ]
                refine takeH (i := 10) (v := (.bool false)) rfl (by kernel_rfl) (by kernel_rfl) (by kernel_rfl) (fun _ _ _ h => h) (Or.inl ⟨by rfl, ?hy133⟩) (by assumption) ?rest133
                case hy133 => (intro w hSw; (try dsimp only at hSw); go_simp; first | done | rfl | simp)
                case rest133 =>
                try simp only [Act.put, List.setIfInBounds_toArray, List.set_cons_zero, List.set_cons_succ]
                refine takeH (i := 11) (v := (.bool false)) rfl (by kernel_rfl) (by kernel_rfl) (by kernel_rfl) (fun _ _ _ h => h) (Or.inl ⟨by rfl, ?hy134⟩) (by assumption) ?rest134
                case hy134 => (intro w hSw; (try dsimp only at hSw); go_simp; first | done | rfl | omega | (rw [Int.tmod_eq_emod_of_nonneg (by omega)]; first | done | rfl | omega) | (congr 1; omega) | (simp; omega))
                case rest134 =>
                try simp only [Act.put, List.setIfInBounds_toArray, List.set_cons_zero, List.set_cons_succ]
                refine takeH (i := 12) (v := ?v135) rfl (by kernel_rfl) (by kernel_rfl) (by kernel_rfl) (fun _ _ _ h => h) (Or.inl ⟨by rfl, ?hy135⟩) (by assumption) ?rest135
                case hy135 => (intro w hSw; (try dsimp only at hSw); go_simp; try (with_reducible rfl))
                case rest135 =>
                try simp only [Act.put, List.setIfInBounds_toArray, List.set_cons_zero, List.set_cons_succ]
                refine takeH (i := 13) (v := ?v136) rfl (by kernel_rfl) (by kernel_rfl) (by kernel_rfl) (fun _ _ _ h => h) (Or.inl ⟨by rfl, ?hy136⟩) (by assumption) ?rest136
                case hy136 => (intro w hSw; (try dsimp only at hSw); go_simp; try (with_reducible rfl))
                case rest136 =>
                try simp only [Act.put, List.setIfInBounds_toArray, List.set_cons_zero, List.set_cons_succ]
                refine takeH (i := 14) (v := ?v137) rfl (by kernel_rfl) (by kernel_rfl) (by kernel_rfl) (fun _ _ _ h => h) (Or.inl ⟨by rfl, ?hy137⟩) (by assumption) ?rest137
                case hy137 => (intro w hSw; (try dsimp only at hSw); go_simp; try (with_reducible rfl))
                case rest137 =>
                try simp only [Act.put, List.setIfInBounds_toArray, List.set_cons_zero, List.set_cons_succ]
                refine takeH (i := 15) (v := (.int .i64 (pp : Int))) rfl (by kernel_rfl) (by kernel_rfl) (by kernel_rfl) (fun _ _ _ h => h) (Or.inl ⟨by rfl, ?hy138⟩) (by assumption) ?rest138
                case hy138 => (intro w hSw; (try dsimp only at hSw); go_simp; first | done | rfl | (congr 1; (try rw [IntKind.wrap_i64]); omega) | (rw [IntKind.wrap_i64]; congr 3; omega) | (simp; omega))
                case rest138 =>
                try simp only [Act.put, List.setIfInBounds_toArray, List.set_cons_zero, List.set_cons_succ]
                refine takeH (i := 16) (v := ?v139) rfl (by kernel_rfl) (by kernel_rfl) (by kernel_rfl) (fun _ _ _ h => h) (Or.inl ⟨by rfl, ?hy139⟩) (by assumption) ?rest139
                case hy139 => (intro w hSw; (try dsimp only at hSw); go_simp; try (with_reducible rfl))
                case rest139 =>
                try simp only [Act.put, List.setIfInBounds_toArray, List.set_cons_zero, List.set_cons_succ]
                refine takeH (i := 17) (v := (.agg #[.string ⟨#[]⟩, .int .i64 0, .bool false])) rfl (by kernel_rfl) (by kernel_rfl) (by kernel_rfl) (fun _ _ _ h => h) (Or.inl ⟨by rfl, ?hy140⟩) (by assumption) ?rest140
                case hy140 => (intro w hSw; (try dsimp only at hSw); obtain ⟨y0, y1, y2⟩ := HXB.out _ hSw; go_simp; first | done | rfl)
                case rest140 =>
                try simp only [Act.put, List.setIfInBounds_toArray, List.set_cons_zero, List.set_cons_succ]
                refine takeH (i := 18) (v := (.agg #[.string ⟨#[]⟩, .int .i64 0, .bool false])) rfl (by kernel_rfl) (by kernel_rfl) (by kernel_rfl) (fun _ _ _ h => h) (Or.inl ⟨by rfl, ?hy141⟩) (by assumption) ?rest141
                case hy141 => (intro w hSw; (try dsimp only at hSw); go_simp; first | done | rfl)
                case rest141 =>
                try simp only [Act.put, List.setIfInBounds_toArray, List.set_cons_zero, List.set_cons_succ]
                refine takeH (i := 19) (v := (.bool false)) rfl (by kernel_rfl) (by kernel_rfl) (by kernel_rfl) (fun _ _ _ h => h) (Or.inl ⟨by rfl, ?hy142⟩) (by assumption) ?rest142
                case hy142 => (intro w hSw; (try dsimp only at hSw); go_simp; first | done | rfl | simp)
                case rest142 =>
                try simp only [Act.put, List.setIfInBounds_toArray, List.set_cons_zero, List.set_cons_succ]
                refine takeH (i := 20) (v := (.bool false)) rfl (by kernel_rfl) (by kernel_rfl) (by kernel_rfl) (fun _ _ _ h => h) (Or.inl ⟨by rfl, ?hy143⟩) (by assumption) ?rest143
                case hy143 => (intro w hSw; (try dsimp only at hSw); go_simp; first | done | rfl | omega | (rw [Int.tmod_eq_emod_of_nonneg (by omega)]; first | done | rfl | omega) | (congr 1; omega) | (simp; omega))
                case rest143 =>
                try simp only [Act.put, List.setIfInBounds_toArray, List.set_cons_zero, List.set_cons_succ]
                refine takeH (i := 21) (v := ?v144) rfl (by kernel_rfl) (by kernel_rfl) (by kernel_rfl) (fun _ _ _ h => h) (Or.inl ⟨by rfl, ?hy144⟩) (by assumption) ?rest144
                case hy144 => (intro w hSw; (try dsimp only at hSw); go_simp; try (with_reducible rfl))
                case rest144 =>
                try simp only [Act.put, List.setIfInBounds_toArray, List.set_cons_zero, List.set_cons_succ]
                refine takeH (i := 22) (v := ?v145) rfl (by kernel_rfl) (by kernel_rfl) (by kernel_rfl) (fun _ _ _ h => h) (Or.inl ⟨by rfl, ?hy145⟩) (by assumption) ?rest145
                case hy145 => (intro w hSw; (try dsimp only at hSw); go_simp; try (with_reducible rfl))
                case rest145 =>
                try simp only [Act.put, List.setIfInBounds_toArray, List.set_cons_zero, List.set_cons_succ]
                refine takeH (i := 23) (v := (.int .i64 1)) rfl (by kernel_rfl) (by kernel_rfl) (by kernel_rfl) (fun _ _ _ h => h) (Or.inl ⟨by rfl, ?hy146⟩) (by assumption) ?rest146
                case hy146 => (intro w hSw; (try dsimp only at hSw); go_simp; first | done | rfl | omega | (rw [Int.tmod_eq_emod_of_nonneg (by omega)]; first | done | rfl | omega) | (congr 1; omega) | (simp; omega))
                case rest146 =>
                try simp only [Act.put, List.setIfInBounds_toArray, List.set_cons_zero, List.set_cons_succ]
                refine takeH (i := 24) (v := (.bool true)) rfl (by kernel_rfl) (by kernel_rfl) (by kernel_rfl) (fun _ _ _ h => h) (Or.inl ⟨by rfl, ?hy147⟩) (by assumption) ?rest147
                case hy147 => (intro w hSw; (try dsimp only at hSw); go_simp; first | done | rfl | omega | (rw [Int.tmod_eq_emod_of_nonneg (by omega)]; first | done | rfl | omega) | (congr 1; omega) | (simp; omega))
                case rest147 =>
                try simp only [Act.put, List.setIfInBounds_toArray, List.set_cons_zero, List.set_cons_succ]
                refine takeH (i := 25) (v := ?v148) rfl (by kernel_rfl) (by kernel_rfl) (by kernel_rfl) (fun _ _ _ h => h) (Or.inl ⟨by rfl, ?hy148⟩) (by assumption) ?rest148
                case hy148 => (intro w hSw; (try dsimp only at hSw); go_simp; try (with_reducible rfl))
                case rest148 =>
                try simp only [Act.put, List.setIfInBounds_toArray, List.set_cons_zero, List.set_cons_succ]
                refine takeH (i := 26) (v := ?v149) rfl (by kernel_rfl) (by kernel_rfl) (by kernel_rfl) (fun _ _ _ h => h) (Or.inl ⟨by rfl, ?hy149⟩) (by assumption) ?rest149
                case hy149 => (intro w hSw; (try dsimp only at hSw); go_simp; try (with_reducible rfl))
                case rest149 =>
                try simp only [Act.put, List.setIfInBounds_toArray, List.set_cons_zero, List.set_cons_succ]
                refine takeH (i := 27) (v := ?v150) rfl (by kernel_rfl) (by kernel_rfl) (by kernel_rfl) (fun _ _ _ h => h) (Or.inl ⟨by rfl, ?hy150⟩) (by assumption) ?rest150
                case hy150 => (intro w hSw; (try dsimp only at hSw); go_simp; try (with_reducible rfl))
                case rest150 =>
                try simp only [Act.put, List.setIfInBounds_toArray, List.set_cons_zero, List.set_cons_succ]
                refine takeH (i := 28) (v := (.int .i64 (D : Int))) rfl (by kernel_rfl) (by kernel_rfl) (by kernel_rfl) (fun _ _ _ h => h) (Or.inl ⟨by rfl, ?hy151⟩) (by assumption) ?rest151
                case hy151 => (intro w hSw; (try dsimp only at hSw); go_simp; first | done | rfl | (congr 1; (try rw [IntKind.wrap_i64]); omega) | (rw [IntKind.wrap_i64]; congr 3; omega) | (simp; omega))
                case rest151 =>
                try simp only [Act.put, List.setIfInBounds_toArray, List.set_cons_zero, List.set_cons_succ]
                refine takeH (i := 29) (v := ?v152) rfl (by kernel_rfl) (by kernel_rfl) (by kernel_rfl) (fun _ _ _ h => h) (Or.inl ⟨by rfl, ?hy152⟩) (by assumption) ?rest152
                case hy152 => (intro w hSw; (try dsimp only at hSw); go_simp; try (with_reducible rfl))
                case rest152 =>
                try simp only [Act.put, List.setIfInBounds_toArray, List.set_cons_zero, List.set_cons_succ]
                refine takeH (i := 30) (v := (.agg #[.string ⟨#[32]⟩, .int .i64 1, .bool false])) rfl (by kernel_rfl) (by kernel_rfl) (by kernel_rfl) (fun _ _ _ h => h) (Or.inl ⟨by rfl, ?hy153⟩) (by assumption) ?rest153
                case hy153 => (intro w hSw; (try dsimp only at hSw); obtain ⟨y0, y1, y2⟩ := HXC.out _ hSw; go_simp; first | done | rfl)
                case rest153 =>
                try simp only [Act.put, List.setIfInBounds_toArray, List.set_cons_zero, List.set_cons_succ]
                refine wpAnyH_ready (rs := [31]) (by kernel_rfl) (by simp) ?_
                refine consH rfl (fun K hK => ?_) AllReadyH.nil
                go_simp
                go_at_call 25
                with_reducible refine (blank2_calls _).mono ?_
                rintro _ wq ⟨rfl, hb2⟩
                have hHd2 : (fun w' : World => RowAt w' r (lineW E C k i)) wq := RowAt.below hHd hb2
                have hBd2 := hBd.trans (hb2.mono hBd.size)
                clear hb2 hHd hBd
                have hHd := hHd2
                have hBd := hBd2
                clear hHd2 hBd2
                go_simp
                refine hK.out _ _ hHd ?_
                clear hK K
                try simp only [Act.put, List.setIfInBounds_toArray, List.set_cons_zero, List.set_cons_succ]
                refine takeH (i := 32) (v := (.bool false)) rfl (by kernel_rfl) (by kernel_rfl) (by kernel_rfl) (fun _ _ _ h => h) (Or.inl ⟨by rfl, ?hy154⟩) (by assumption) ?rest154
                case hy154 => (intro w hSw; (try dsimp only at hSw); go_simp; first | done | rfl | simp)
                case rest154 =>
                try simp only [Act.put, List.setIfInBounds_toArray, List.set_cons_zero, List.set_cons_succ]
                refine takeH (i := 33) (v := (.bool false)) rfl (by kernel_rfl) (by kernel_rfl) (by kernel_rfl) (fun _ _ _ h => h) (Or.inl ⟨by rfl, ?hy155⟩) (by assumption) ?rest155
                case hy155 => (intro w hSw; (try dsimp only at hSw); go_simp; first | done | rfl | omega | (rw [Int.tmod_eq_emod_of_nonneg (by omega)]; first | done | rfl | omega) | (congr 1; omega) | (simp; omega))
                case rest155 =>
                try simp only [Act.put, List.setIfInBounds_toArray, List.set_cons_zero, List.set_cons_succ]
                refine takeH (i := 34) (v := (.bool false)) rfl (by kernel_rfl) (by kernel_rfl) (by kernel_rfl) (fun _ _ _ h => h) (Or.inl ⟨by rfl, ?hy156⟩) (by assumption) ?rest156
                case hy156 => (intro w hSw; (try dsimp only at hSw); go_simp; first | done | rfl | omega | (rw [Int.tmod_eq_emod_of_nonneg (by omega)]; first | done | rfl | omega) | (congr 1; omega) | (simp; omega))
                case rest156 =>
                try simp only [Act.put, List.setIfInBounds_toArray, List.set_cons_zero, List.set_cons_succ]
                refine wpAnyH_done (by kernel_rfl) ?_ _
                refine hKQ _ _ ?_
                have HBz := Hd.mk (HB6.out.trans (hBd.mono HB6.out.size))
                clear hHd hBd HB6 HXA HXB HXC
                go_wp2
                go_roundg d2
                case measure => omega
                case rel => exact ⟨j + 1, by simp, ⟨by omega⟩, HBz⟩
            · have m1 : decide ((j : Int) < (k : Int)) = false := decide_eq_false (by omega)
              have m2 : decide (j < k) = false := decide_eq_false (by omega)
              clear HB H4
              go_wp2_with fail
              have XA := Hd.mk (alive_calls wr (HT.out.below H5.out.bl))
              go_wp2_with fail
              go_at_call 11
              with_reducible refine XA.out.mono ?_
              rintro _ w7 ⟨rfl, hb⟩
              have H8 := Hd.mk (H5.out.to hb)
              clear XA hb H5
              go_wp2_with fail
              go_ret
              exact ⟨rfl, H8.out.bl⟩
      · by_cases he : C % 2 = 0
        · have E8 : (C : Int) % 2 = 0 := by omega
          have HFU : Hd (s.full = false) := ⟨by rw [HFL.out]; exact decide_eq_false (fun h => by omega)⟩
          clear he HC2 hkm
          have hz2 : ¬ (km : Int) = 0 := by omega
          go_upto_region 11 with fail
          rename_i KQ hKQ
          refine regionH (fun w' : World => St w w' F T s) (by kernel_rfl) (fun wd hb => ?_)
          have hHd : (fun w' : World => St w w' F T s) wd := H3.out.to hb
          clear hb H3
          refine takeH (i := 0) (v := ?v157) rfl (by kernel_rfl) (by kernel_rfl) (by kernel_rfl) (fun _ _ _ h => h) (Or.inl ⟨by rfl, ?hy157⟩) (by assumption) ?rest157
          case hy157 => (intro w hSw; (try dsimp only at hSw); go_simp; try (with_reducible rfl))
          case rest157 =>
          try simp only [Act.put, List.setIfInBounds_toArray, List.set_cons_zero, List.set_cons_succ]
          refine takeH (i := 2) (v := ?v158) rfl (by kernel_rfl) (by kernel_rfl) (by kernel_rfl) (fun _ _ _ h => h) (Or.inl ⟨by rfl, ?hy158⟩) (by assumption) ?rest158
          case hy158 => (intro w hSw; (try dsimp only at hSw); go_simp; try (with_reducible rfl))
          case rest158 =>
          try simp only [Act.put, List.setIfInBounds_toArray, List.set_cons_zero, List.set_cons_succ]
          refine wpAnyH_ready (rs := [1]) (by kernel_rfl) (by simp) ?_
          refine consH rfl (fun K hK => ?_) AllReadyH.nil
          go_simp
          go_at_call 21
          with_reducible refine (off_calls hHd.ta.t).mono ?_
          rintro _ wa ⟨rfl, hb2⟩
          have hHd2 : (fun w' : World => St w w' F T s) wa := St.to hHd hb2
          clear hb2 hHd
          have hHd := hHd2
          clear hHd2
          go_simp
          refine hK.out _ _ hHd ?_
          clear hK K
          try simp only [Act.put, List.setIfInBounds_toArray, List.set_cons_zero, List.set_cons_succ]
          refine takeH (i := 3) (v := (.bool false)) rfl (by kernel_rfl) (by kernel_rfl) (by kernel_rfl) (fun _ _ _ h => h) (Or.inl ⟨by rfl, ?hy159⟩) (by assumption) ?rest159
          case hy159 => (intro w hSw; (try dsimp only at hSw); go_simp; first | done | rfl | omega | (rw [Int.tmod_eq_emod_of_nonneg (by omega)]; first | done | rfl | omega) | (congr 1; omega) | (simp; omega))
          case rest159 =>
          try simp only [Act.put, List.setIfInBounds_toArray, List.set_cons_zero, List.set_cons_succ]
          refine takeH (i := 4) (v := ?v160) rfl (by kernel_rfl) (by kernel_rfl) (by kernel_rfl) (fun _ _ _ h => h) (Or.inl ⟨by rfl, ?hy160⟩) (by assumption) ?rest160
          case hy160 => (intro w hSw; (try dsimp only at hSw); go_simp; try (with_reducible rfl))
          case rest160 =>
          try simp only [Act.put, List.setIfInBounds_toArray, List.set_cons_zero, List.set_cons_succ]
          refine takeH (i := 5) (v := ?v161) rfl (by kernel_rfl) (by kernel_rfl) (by kernel_rfl) (fun _ _ _ h => h) (Or.inl ⟨by rfl, ?hy161⟩) (by assumption) ?rest161
          case hy161 => (intro w hSw; (try dsimp only at hSw); go_simp; try (with_reducible rfl))
          case rest161 =>
          try simp only [Act.put, List.setIfInBounds_toArray, List.set_cons_zero, List.set_cons_succ]
          refine takeH (i := 7) (v := ?v162) rfl (by kernel_rfl) (by kernel_rfl) (by kernel_rfl) (fun _ _ _ h => h) (Or.inl ⟨by rfl, ?hy162⟩) (by assumption) ?rest162
          case hy162 => (intro w hSw; (try dsimp only at hSw); go_simp; try (with_reducible rfl))
          case rest162 =>
          try simp only [Act.put, List.setIfInBounds_toArray, List.set_cons_zero, List.set_cons_succ]
          refine takeH (i := 8) (v := ?v163) rfl (by kernel_rfl) (by kernel_rfl) (by kernel_rfl) (fun _ _ _ h => h) (Or.inl ⟨by rfl, ?hy163⟩) (by assumption) ?rest163
          case hy163 => (intro w hSw; (try dsimp only at hSw); go_simp; try (with_reducible rfl))
          case rest163 =>
          try simp only [Act.put, List.setIfInBounds_toArray, List.set_cons_zero, List.set_cons_succ]
          refine takeH (i := 9) (v := (.int .i64 (km : Int))) rfl (by kernel_rfl) (by kernel_rfl) (by kernel_rfl) (fun _ _ _ h => h) (Or.inl ⟨by rfl, ?hy164⟩) (by assumption) ?rest164
          case hy164 => (intro w hSw; (try dsimp only at hSw); go_simp; first | done | rfl | omega | (rw [Int.tmod_eq_emod_of_nonneg (by omega)]; first | done | rfl | omega) | (congr 1; omega) | (simp; omega))
          case rest164 =>
          try simp only [Act.put, List.setIfInBounds_toArray, List.set_cons_zero, List.set_cons_succ]
          refine takeH (i := 10) (v := (.bool false)) rfl (by kernel_rfl) (by kernel_rfl) (by kernel_rfl) (fun _ _ _ h => h) (Or.inl ⟨by rfl, ?hy165⟩) (by assumption) ?rest165
          case hy165 => (intro w hSw; (try dsimp only at hSw); go_simp; first | done | rfl | omega | (rw [Int.tmod_eq_emod_of_nonneg (by omega)]; first | done | rfl | omega) | (congr 1; omega) | (simp; omega))
          case rest165 =>
          try simp only [Act.put, List.setIfInBounds_toArray, List.set_cons_zero, List.set_cons_succ]
          refine wpAnyH_ready (rs := [6]) (by kernel_rfl) (by simp) ?_
          refine consH rfl (fun K hK => ?_) AllReadyH.nil
          go_simp
          go_at_call 15
          with_reducible refine (full_calls hHd.ta.t).mono ?_
          rintro _ wb ⟨rfl, hb2⟩
          have hHd2 : (fun w' : World => St w w' F T s) wb := St.to hHd hb2
          clear hb2 hHd
          have hHd := hHd2
          clear hHd2
          go_simp
          refine hK.out _ _ hHd ?_
          clear hK K
          try simp only [Act.put, List.setIfInBounds_toArray, List.set_cons_zero, List.set_cons_succ]
          refine takeH (i := 11) (v := ?v166) rfl (by kernel_rfl) (by kernel_rfl) (by kernel_rfl) (fun _ _ _ h => h) (Or.inl ⟨by rfl, ?hy166⟩) (by assumption) ?rest166
          case hy166 => (intro w hSw; (try dsimp only at hSw); go_simp; try (with_reducible rfl))
          case rest166 =>
          try simp only [Act.put, List.setIfInBounds_toArray, List.set_cons_zero, List.set_cons_succ]
          refine takeH (i := 12) (v := undef) rfl (by kernel_rfl) (by kernel_rfl) (by kernel_rfl) (fun _ _ _ h => h) (Or.inr ⟨by rfl, by rfl⟩) (by assumption) ?_
          try simp only [Act.put, List.setIfInBounds_toArray, List.set_cons_zero, List.set_cons_succ]
          refine takeH (i := 13) (v := undef) rfl (by kernel_rfl) (by kernel_rfl) (by kernel_rfl) (fun _ _ _ h => h) (Or.inr ⟨by rfl, by rfl⟩) (by assumption) ?_
          try simp only [Act.put, List.setIfInBounds_toArray, List.set_cons_zero, List.set_cons_succ]
          refine takeH (i := 14) (v := undef) rfl (by kernel_rfl) (by kernel_rfl) (by kernel_rfl) (fun _ _ _ h => h) (Or.inr ⟨by rfl, by rfl⟩) (by assumption) ?_
          try simp only [Act.put, List.setIfInBounds_toArray, List.set_cons_zero, List.set_cons_succ]
          refine takeH (i := 15) (v := (.bool false)) rfl (by kernel_rfl) (by kernel_rfl) (by kernel_rfl) (fun _ _ _ h => h) (Or.inl ⟨by rfl, ?hy167⟩) (by assumption) ?rest167
          case hy167 => (intro w hSw; (try dsimp only at hSw); go_simp; first | done | rfl | omega | (rw [Int.tmod_eq_emod_of_nonneg (by omega)]; first | done | rfl | omega) | (congr 1; omega) | (simp; omega))
          case rest167 =>
          try simp only [Act.put, List.setIfInBounds_toArray, List.set_cons_zero, List.set_cons_succ]
          refine takeH (i := 16) (v := (.bool false)) rfl (by kernel_rfl) (by kernel_rfl) (by kernel_rfl) (fun _ _ _ h => h) (Or.inl ⟨by rfl, ?hy168⟩) (by assumption) ?rest168
          case hy168 => (intro w hSw; (try dsimp only at hSw); first | (rw [HFU.out]; go_simp; done) | (go_simp; rw [HFU.out]; done) | (go_simp; simp [HFU.out]))
          case rest168 =>
          try simp only [Act.put, List.setIfInBounds_toArray, List.set_cons_zero, List.set_cons_succ]
          refine takeH (i := 17) (v := (.bool false)) rfl (by kernel_rfl) (by kernel_rfl) (by kernel_rfl) (fun _ _ _ h => h) (Or.inl ⟨by rfl, ?hy169⟩) (by assumption) ?rest169
          case hy169 => (intro w hSw; (try dsimp only at hSw); go_simp; first | done | rfl | omega | (rw [Int.tmod_eq_emod_of_nonneg (by omega)]; first | done | rfl | omega) | (congr 1; omega) | (simp; omega))
          case rest169 =>
          try simp only [Act.put, List.setIfInBounds_toArray, List.set_cons_zero, List.set_cons_succ]
          refine wpAnyH_done (by kernel_rfl) ?_ _
          refine hKQ _ _ ?_
          go_wp2_with fail
          have H4 := Hd.mk (show St w wb F T s from hHd)
          clear hHd HFU HFL
          go_loopg [87] k (fun gk vj wx => ∃ (j : Nat), vj = .int .i64 (j : Int) ∧ Hd (j + gk = k) ∧ Hd (Below wb.heap.size wb wx))
          case atStart => exact ⟨0, rfl, ⟨by omega⟩, ⟨Below.refl _ _⟩⟩
          case round =>
            obtain ⟨j, rfl, HJ2, HB⟩ := hrel
            have h2 := HJ2.out
            have H5 := Hd.mk (H4.out.to HB.out)
            by_cases hlt : j < k
            · obtain ⟨d2, rfl⟩ : ∃ d, gk = d + 1 := ⟨gk - 1, by omega⟩
              have m1 : decide ((j : Int) < (k : Int)) = true := decide_eq_true (by omega)
              have m2 : decide (j < k) = true := decide_eq_true hlt
              have m3 : (j : Int) < (k : Int) := by omega
              have m4 : (0 : Int) ≤ (j : Int) := by omega
              have m5 : (j : Int) ≤ 200 := by omega
              have hjm := Nat.mod_lt j (show 0 < E by omega)
              obtain ⟨i, hi⟩ : ∃ i, j / E = i := ⟨_, rfl⟩
              have hij : i * E + j % E = j := by rw [← hi, Nat.mul_comm]; exact Nat.div_add_mod j E
              have E3 : (j : Int) / (E : Int) = (i : Int) := by rw [← hi]; exact (Int.natCast_ediv _ _).symm
              obtain ⟨m, hm⟩ : ∃ m, j % E = m := ⟨_, rfl⟩
              have E4 : (j : Int) % (E : Int) = (m : Int) := by rw [← hm]; exact (Int.natCast_emod _ _).symm
              rw [hm] at hjm hij
              have hiq : i ≤ q := div_le_q hE1 hlt HQ.out hi
              have hi4 : (i : Int) ≤ 200 := by omega
              clear hm hi
              obtain ⟨p, hp⟩ : ∃ p, 2 * m = p := ⟨_, rfl⟩
              have E5 : 2 * (m : Int) = (p : Int) := by omega
              have p0 : (0 : Int) ≤ (p : Int) := by omega
              have p1 : (p : Int) < (C : Int) := by omega
              have p2 : (p : Int) + 1 < (C : Int) := by omega
              have p3 : (p : Int) ≤ 120 := by omega
              obtain ⟨pp, hpp⟩ : ∃ pp, p + 1 = pp := ⟨_, rfl⟩
              have pp0 : (0 : Int) ≤ (pp : Int) := by omega
              have pp1 : (pp : Int) < (C : Int) := by omega
              have q1 : (m : Int) < (E : Int) := by omega
              have q0 : (0 : Int) ≤ (m : Int) := by omega
              have HXA : Hd (∀ (r : RR) (w' : World), RowAt w' r (lineW E C k i) → w'.cell? ⟨r.g, p * 3, none⟩ = some (.string ⟨#[228, 184, 173]⟩) ∧ w'.cell? ⟨r.g, p * 3 + 1, none⟩ = some (.int .i64 2) ∧ w'.cell? ⟨r.g, p * 3 + 2, none⟩ = some (.bool false)) := ⟨fun r w' h => wide_three h (by omega) (by omega) (by omega) (by omega)⟩
              have HXB : Hd (∀ (r : RR) (w' : World), RowAt w' r (lineW E C k i) → w'.cell? ⟨r.g, pp * 3, none⟩ = some (.string ⟨#[]⟩) ∧ w'.cell? ⟨r.g, pp * 3 + 1, none⟩ = some (.int .i64 0) ∧ w'.cell? ⟨r.g, pp * 3 + 2, none⟩ = some (.bool false)) := ⟨fun r w' h => by rw [← hpp]; exact half_three h (by omega) (by omega) (by omega) (by omega)⟩
              clear hij hp
              by_cases hoff : i < s.off
              · have XG := Hd.mk (gone_at H5.out.ta.t K3.out.ok (by omega) (k := i) (j := i) (by rw [HSC.out.glen]; exact hoff) (by rw [HSC.out.glen]; omega))
                rw [HSC.out.gone i hoff, lineW_len] at XG
                have o1 : decide ((s.off : Int) ≤ (i : Int)) = false := decide_eq_false (by omega)
                have o2 : decide (s.off ≤ i) = false := decide_eq_false (by omega)
                have o3 : (i : Int) < (s.off : Int) := by omega
                go_wp2_with fail
                go_wp2_with fail
                go_at_call 22
                with_reducible refine XG.out.mono ?_
                rintro _ w5 ⟨r, rfl, hrn, hrg, hr, hb⟩
                have HB5 := Hd.mk (HB.out.trans (hb.mono HB.out.size))
                have HR := Hd.mk hr
                clear XG hrg hr hb HB H5
                have HXA := Hd.mk (HXA.out r)
                have HXB := Hd.mk (HXB.out r)
                unfold RR.v
                rw [hrn]
                go_upto_region 20 with fail
                rename_i KQ hKQ
                refine regionH (fun w' : World => RowAt w' r (lineW E C k i)) (by kernel_rfl) (fun wd hb => ?_)
                have hHd : (fun w' : World => RowAt w' r (lineW E C k i)) wd := RowAt.below HR.out hb
                have hBd := hb
                clear hb HR
                refine takeH (i := 0) (v := ?v170) rfl (by kernel_rfl) (by kernel_rfl) (by kernel_rfl) (fun _ _ _ h => h) (Or.inl ⟨by rfl, ?hy170⟩) (by assumption) ?rest170
                case hy170 => (intro w hSw; (try dsimp only at hSw); go_simp; try (with_reducible rfl))
                case rest170 =>
                try simp only [Act.put, List.setIfInBounds_toArray, List.set_cons_zero, List.set_cons_succ]
                refine takeH (i := 1) (v := ?v171) rfl (by kernel_rfl) (by kernel_rfl) (by kernel_rfl) (fun _ _ _ h => h) (Or.inl ⟨by rfl, ?hy171⟩) (by assumption) ?rest171
                case hy171 => (intro w hSw; (try dsimp only at hSw); go_simp; try (with_reducible rfl))
                case rest171 =>
                try simp only [Act.put, List.setIfInBounds_toArray, List.set_cons_zero, List.set_cons_succ]
                refine takeH (i := 2) (v := ?v172) rfl (by kernel_rfl) (by kernel_rfl) (by kernel_rfl) (fun _ _ _ h => h) (Or.inl ⟨by rfl, ?hy172⟩) (by assumption) ?rest172
                case hy172 => (intro w hSw; (try dsimp only at hSw); go_simp; try (with_reducible rfl))
                case rest172 =>
                try simp only [Act.put, List.setIfInBounds_toArray, List.set_cons_zero, List.set_cons_succ]
                refine takeH (i := 3) (v := (.bool false)) rfl (by kernel_rfl) (by kernel_rfl) (by kernel_rfl) (fun _ _ _ h => h) (Or.inl ⟨by rfl, ?hy173⟩) (by assumption) ?rest173
                case hy173 => (intro w hSw; (try dsimp only at hSw); go_simp; first | done | rfl | omega | (rw [Int.tmod_eq_emod_of_nonneg (by omega)]; first | done | rfl | omega) | (congr 1; omega) | (simp; omega))
                case rest173 =>
                try simp only [Act.put, List.setIfInBounds_toArray, List.set_cons_zero, List.set_cons_succ]
                refine takeH (i := 4) (v := ?v174) rfl (by kernel_rfl) (by kernel_rfl) (by kernel_rfl) (fun _ _ _ h => h) (Or.inl ⟨by rfl, ?hy174⟩) (by assumption) ?rest174
                case hy174 => (intro w hSw; (try dsimp only at hSw); go_simp; try (with_reducible rfl))
                case rest174 =>
                try simp only [Act.put, List.setIfInBounds_toArray, List.set_cons_zero, List.set_cons_succ]
                refine takeH (i := 5) (v := ?v175) rfl (by kernel_rfl) (by kernel_rfl) (by kernel_rfl) (fun _ _ _ h => h) (Or.inl ⟨by rfl, ?hy175⟩) (by assumption) ?rest175
                case hy175 => (intro w hSw; (try dsimp only at hSw); go_simp; try (with_reducible rfl))
                case rest175 =>
                try simp only [Act.put, List.setIfInBounds_toArray, List.set_cons_zero, List.set_cons_succ]
                refine takeH (i := 6) (v := ?v176) rfl (by kernel_rfl) (by kernel_rfl) (by kernel_rfl) (fun _ _ _ h => h) (Or.inl ⟨by rfl, ?hy176⟩) (by assumption) ?rest176
                case hy176 => (intro w hSw; (try dsimp only at hSw); go_simp; try (with_reducible rfl))
                case rest176 =>
                try simp only [Act.put, List.setIfInBounds_toArray, List.set_cons_zero, List.set_cons_succ]
                refine takeH (i := 7) (v := ?v177) rfl (by kernel_rfl) (by kernel_rfl) (by kernel_rfl) (fun _ _ _ h => h) (Or.inl ⟨by rfl, ?hy177⟩) (by assumption) ?rest177
                case hy177 => (intro w hSw; (try dsimp only at hSw); go_simp; try (with_reducible rfl))
                case rest177 =>
                try simp only [Act.put, List.setIfInBounds_toArray, List.set_cons_zero, List.set_cons_succ]
                refine takeH (i := 8) (v := (.agg #[.string ⟨#[228, 184, 173]⟩, .int .i64 2, .bool false])) rfl (by kernel_rfl) (by kernel_rfl) (by kernel_rfl) (fun _ _ _ h => h) (Or.inl ⟨by rfl, ?hy178⟩) (by assumption) ?rest178
                case hy178 => (intro w hSw; (try dsimp only at hSw); obtain ⟨y0, y1, y2⟩ := HXA.out _ hSw; go_simp; first | done | rfl)
                case rest178 =>
                try simp only [Act.put, List.setIfInBounds_toArray, List.set_cons_zero, List.set_cons_succ]
                refine takeH (i := 9) (v := ?v179) rfl (by kernel_rfl) (by kernel_rfl) (by kernel_rfl) (fun _ _ _ h => h) (Or.inl ⟨by rfl, ?hy179⟩) (by assumption) ?rest179
                case hy179 => (intro w hSw; (try dsimp only at hSw); go_simp; try (with_reducible rfl))
                case rest179 =>
                try simp only [Act.put, List.setIfInBounds_toArray, List.set_cons_zero, List.set_cons_succ]
                refine takeH (i := 10) (v := (.bool false)) rfl (by kernel_rfl) (by kernel_rfl) (by kernel_rfl) (fun _ _ _ h => h) (Or.inl ⟨by rfl, ?hy180⟩) (by assumption) ?rest180
                case hy180 => (intro w hSw; (try dsimp only at hSw); go_simp; first | done | rfl | simp)
                case rest180 =>
                try simp only [Act.put, List.setIfInBounds_toArray, List.set_cons_zero, List.set_cons_succ]
                refine takeH (i := 11) (v := (.bool false)) rfl (by kernel_rfl) (by kernel_rfl) (by kernel_rfl) (fun _ _ _ h => h) (Or.inl ⟨by rfl, ?hy181⟩) (by assumption) ?rest181
                case hy181 => (intro w hSw; (try dsimp only at hSw); go_simp; first | done | rfl | omega | (rw [Int.tmod_eq_emod_of_nonneg (by omega)]; first | done | rfl | omega) | (congr 1; omega) | (simp; omega))
                case rest181 =>
                try simp only [Act.put, List.setIfInBounds_toArray, List.set_cons_zero, List.set_cons_succ]
                refine takeH (i := 12) (v := ?v182) rfl (by kernel_rfl) (by kernel_rfl) (by kernel_rfl) (fun _ _ _ h => h) (Or.inl ⟨by rfl, ?hy182⟩) (by assumption) ?rest182
                case hy182 => (intro w hSw; (try dsimp only at hSw); go_simp; try (with_reducible rfl))
                case rest182 =>
                try simp only [Act.put, List.setIfInBounds_toArray, List.set_cons_zero, List.set_cons_succ]
                refine takeH (i := 13) (v := ?v183) rfl (by kernel_rfl) (by kernel_rfl) (by kernel_rfl) (fun _ _ _ h => h) (Or.inl ⟨by rfl, ?hy183⟩) (by assumption) ?rest183
                case hy183 => (intro w hSw; (try dsimp only at hSw); go_simp; try (with_reducible rfl))
                case rest183 =>
                try simp only [Act.put, List.setIfInBounds_toArray, List.set_cons_zero, List.set_cons_succ]
                refine takeH (i := 14) (v := ?v184) rfl (by kernel_rfl) (by kernel_rfl) (by kernel_rfl) (fun _ _ _ h => h) (Or.inl ⟨by rfl, ?hy184⟩) (by assumption) ?rest184
                case hy184 => (intro w hSw; (try dsimp only at hSw); go_simp; try (with_reducible rfl))
                case rest184 =>
                try simp only [Act.put, List.setIfInBounds_toArray, List.set_cons_zero, List.set_cons_succ]
                refine takeH (i := 15) (v := (.int .i64 (pp : Int))) rfl (by kernel_rfl) (by kernel_rfl) (by kernel_rfl) (fun _ _ _ h => h) (Or.inl ⟨by rfl, ?hy185⟩) (by assumption) ?rest185
                case hy185 => (intro w hSw; (try dsimp only at hSw); go_simp; first | done | rfl | (congr 1; (try rw [IntKind.wrap_i64]); omega) | (rw [IntKind.wrap_i64]; congr 3; omega) | (simp; omega))
                case rest185 =>
                try simp only [Act.put, List.setIfInBounds_toArray, List.set_cons_zero, List.set_cons_succ]
                refine takeH (i := 16) (v := ?v186) rfl (by kernel_rfl) (by kernel_rfl) (by kernel_rfl) (fun _ _ _ h => h) (Or.inl ⟨by rfl, ?hy186⟩) (by assumption) ?rest186
                case hy186 => (intro w hSw; (try dsimp only at hSw); go_simp; try (with_reducible rfl))
                case rest186 =>
                try simp only [Act.put, List.setIfInBounds_toArray, List.set_cons_zero, List.set_cons_succ]
                refine takeH (i := 17) (v := (.agg #[.string ⟨#[]⟩, .int .i64 0, .bool false])) rfl (by kernel_rfl) (by kernel_rfl) (by kernel_rfl) (fun _ _ _ h => h) (Or.inl ⟨by rfl, ?hy187⟩) (by assumption) ?rest187
                case hy187 => (intro w hSw; (try dsimp only at hSw); obtain ⟨y0, y1, y2⟩ := HXB.out _ hSw; go_simp; first | done | rfl)
                case rest187 =>
                try simp only [Act.put, List.setIfInBounds_toArray, List.set_cons_zero, List.set_cons_succ]
                refine takeH (i := 18) (v := (.agg #[.string ⟨#[]⟩, .int .i64 0, .bool false])) rfl (by kernel_rfl) (by kernel_rfl) (by kernel_rfl) (fun _ _ _ h => h) (Or.inl ⟨by rfl, ?hy188⟩) (by assumption) ?rest188
                case hy188 => (intro w hSw; (try dsimp only at hSw); go_simp; first | done | rfl)
                case rest188 =>
                try simp only [Act.put, List.setIfInBounds_toArray, List.set_cons_zero, List.set_cons_succ]
                refine takeH (i := 19) (v := (.bool false)) rfl (by kernel_rfl) (by kernel_rfl) (by kernel_rfl) (fun _ _ _ h => h) (Or.inl ⟨by rfl, ?hy189⟩) (by assumption) ?rest189
                case hy189 => (intro w hSw; (try dsimp only at hSw); go_simp; first | done | rfl | simp)
                case rest189 =>
                try simp only [Act.put, List.setIfInBounds_toArray, List.set_cons_zero, List.set_cons_succ]
                refine takeH (i := 20) (v := (.bool false)) rfl (by kernel_rfl) (by kernel_rfl) (by kernel_rfl) (fun _ _ _ h => h) (Or.inl ⟨by rfl, ?hy190⟩) (by assumption) ?rest190
                case hy190 => (intro w hSw; (try dsimp only at hSw); go_simp; first | done | rfl | omega | (rw [Int.tmod_eq_emod_of_nonneg (by omega)]; first | done | rfl | omega) | (congr 1; omega) | (simp; omega))
                case rest190 =>
                try simp only [Act.put, List.setIfInBounds_toArray, List.set_cons_zero, List.set_cons_succ]
                refine takeH (i := 21) (v := ?v191) rfl (by kernel_rfl) (by kernel_rfl) (by kernel_rfl) (fun _ _ _ h => h) (Or.inl ⟨by rfl, ?hy191⟩) (by assumption) ?rest191
                case hy191 => (intro w hSw; (try dsimp only at hSw); go_simp; try (with_reducible rfl))
                case rest191 =>
                try simp only [Act.put, List.setIfInBounds_toArray, List.set_cons_zero, List.set_cons_succ]
                refine takeH (i := 22) (v := ?v192) rfl (by kernel_rfl) (by kernel_rfl) (by kernel_rfl) (fun _ _ _ h => h) (Or.inl ⟨by rfl, ?hy192⟩) (by assumption) ?rest192
                case hy192 => (intro w hSw; (try dsimp only at hSw); go_simp; try (with_reducible rfl))
                case rest192 =>
                try simp only [Act.put, List.setIfInBounds_toArray, List.set_cons_zero, List.set_cons_succ]
                refine takeH (i := 23) (v := (.int .i64 0)) rfl (by kernel_rfl) (by kernel_rfl) (by kernel_rfl) (fun _ _ _ h => h) (Or.inl ⟨by rfl, ?hy193⟩) (by assumption) ?rest193
                case hy193 => (intro w hSw; (try dsimp only at hSw); go_simp; first | done | rfl | omega | (rw [Int.tmod_eq_emod_of_nonneg (by omega)]; first | done | rfl | omega) | (congr 1; omega) | (simp; omega))
                case rest193 =>
                try simp only [Act.put, List.setIfInBounds_toArray, List.set_cons_zero, List.set_cons_succ]
                refine takeH (i := 24) (v := (.bool false)) rfl (by kernel_rfl) (by kernel_rfl) (by kernel_rfl) (fun _ _ _ h => h) (Or.inl ⟨by rfl, ?hy194⟩) (by assumption) ?rest194
                case hy194 => (intro w hSw; (try dsimp only at hSw); go_simp; first | done | rfl | omega | (rw [Int.tmod_eq_emod_of_nonneg (by omega)]; first | done | rfl | omega) | (congr 1; omega) | (simp; omega))
                case rest194 =>
                try simp only [Act.put, List.setIfInBounds_toArray, List.set_cons_zero, List.set_cons_succ]
                refine takeH (i := 25) (v := ?v195) rfl (by kernel_rfl) (by kernel_rfl) (by kernel_rfl) (fun _ _ _ h => h) (Or.inl ⟨by rfl, ?hy195⟩) (by assumption) ?rest195
                case hy195 => (intro w hSw; (try dsimp only at hSw); go_simp; try (with_reducible rfl))
                case rest195 =>
                try simp only [Act.put, List.setIfInBounds_toArray, List.set_cons_zero, List.set_cons_succ]
                refine takeH (i := 26) (v := undef) rfl (by kernel_rfl) (by kernel_rfl) (by kernel_rfl) (fun _ _ _ h => h) (Or.inr ⟨by rfl, by rfl⟩) (by assumption) ?_
                try simp only [Act.put, List.setIfInBounds_toArray, List.set_cons_zero, List.set_cons_succ]
                refine takeH (i := 27) (v := undef) rfl (by kernel_rfl) (by kernel_rfl) (by kernel_rfl) (fun _ _ _ h => h) (Or.inr ⟨by rfl, by rfl⟩) (by assumption) ?_
                try simp only [Act.put, List.setIfInBounds_toArray, List.set_cons_zero, List.set_cons_succ]
                refine takeH (i := 28) (v := undef) rfl (by kernel_rfl) (by kernel_rfl) (by kernel_rfl) (fun _ _ _ h => h) (Or.inr ⟨by rfl, by rfl⟩) (by assumption) ?_
                try simp only [Act.put, List.setIfInBounds_toArray, List.set_cons_zero, List.set_cons_succ]
                refine takeH (i := 29) (v := undef) rfl (by kernel_rfl) (by kernel_rfl) (by kernel_rfl) (fun _ _ _ h => h) (Or.inr ⟨by rfl, by rfl⟩) (by assumption) ?_
                try simp only [Act.put, List.setIfInBounds_toArray, List.set_cons_zero, List.set_cons_succ]
                refine takeH (i := 30) (v := undef) rfl (by kernel_rfl) (by kernel_rfl) (by kernel_rfl) (fun _ _ _ h => h) (Or.inr ⟨by rfl, by rfl⟩) (by assumption) ?_
                try simp only [Act.put, List.setIfInBounds_toArray, List.set_cons_zero, List.set_cons_succ]
                refine takeH (i := 31) (v := undef) rfl (by kernel_rfl) (by kernel_rfl) (by kernel_rfl) (fun _ _ _ h => h) (Or.inr ⟨by rfl, by rfl⟩) (by assumption) ?_
                try simp only [Act.put, List.setIfInBounds_toArray, List.set_cons_zero, List.set_cons_succ]
                refine takeH (i := 32) (v := undef) rfl (by kernel_rfl) (by kernel_rfl) (by kernel_rfl) (fun _ _ _ h => h) (Or.inr ⟨by rfl, by rfl⟩) (by assumption) ?_
                try simp only [Act.put, List.setIfInBounds_toArray, List.set_cons_zero, List.set_cons_succ]
                refine takeH (i := 33) (v := (.bool false)) rfl (by kernel_rfl) (by kernel_rfl) (by kernel_rfl) (fun _ _ _ h => h) (Or.inl ⟨by rfl, ?hy196⟩) (by assumption) ?rest196
                case hy196 => (intro w hSw; (try dsimp only at hSw); go_simp; first | done | rfl | omega | (rw [Int.tmod_eq_emod_of_nonneg (by omega)]; first | done | rfl | omega) | (congr 1; omega) | (simp; omega))
                case rest196 =>
                try simp only [Act.put, List.setIfInBounds_toArray, List.set_cons_zero, List.set_cons_succ]
                refine takeH (i := 34) (v := (.bool false)) rfl (by kernel_rfl) (by kernel_rfl) (by kernel_rfl) (fun _ _ _ h => h) (Or.inl ⟨by rfl, ?hy197⟩) (by assumption) ?rest197
                case hy197 => (intro w hSw; (try dsimp only at hSw); go_simp; first | done | rfl | omega | (rw [Int.tmod_eq_emod_of_nonneg (by omega)]; first | done | rfl | omega) | (congr 1; omega) | (simp; omega))
                case rest197 =>
                try simp only [Act.put, List.setIfInBounds_toArray, List.set_cons_zero, List.set_cons_succ]
                refine wpAnyH_done (by kernel_rfl) ?_ _
                refine hKQ _ _ ?_
                have HBz := Hd.mk (HB5.out.trans (hBd.mono HB5.out.size))
                clear hHd hBd HB5 HXA HXB
                go_wp2
                go_roundg d2
                case measure => omega
                case rel => exact ⟨j + 1, by simp, ⟨by omega⟩, HBz⟩
              · have XG := Hd.mk (gone_none H5.out.ta.t K3.out.ok (by omega) (k := i) (by omega) (by omega))
                have o1 : decide ((s.off : Int) ≤ (i : Int)) = true := decide_eq_true (by omega)
                have o2 : decide (s.off ≤ i) = true := decide_eq_true (by omega)
                have o3 : (s.off : Int) ≤ (i : Int) := by omega
                have hmr := HSC.out.more
                have hrr := HSC.out.row
                have hir : i - s.off < R := by omega
                have o4 : (i : Int) - (s.off : Int) = ((i - s.off : Nat) : Int) := by omega
                have o5 : (0 : Int) ≤ (s.off : Int) := Int.natCast_nonneg _
                go_wp2_with fail
                go_wp2_with fail
                go_at_call 22
                with_reducible refine XG.out.mono ?_
                rintro _ w5 ⟨rfl, hb⟩
                have HB5 := Hd.mk (HB.out.trans (hb.mono HB.out.size))
                have H6 := Hd.mk (H5.out.to hb)
                clear XG hb HB H5
                have XR := Hd.mk (row_at H6.out.ta.t K3.out.ok (k := i - s.off) (by rw [HSC.out.len]; exact hir))
                rw [HSC.out.rows _ hir, show s.off + (i - s.off) = i by omega, HSC.out.cols] at XR
                clear hmr hrr hir
                go_wp2_with fail
                go_wp2_with fail
                go_at_call 14
                with_reducible refine XR.out.mono ?_
                rintro _ w6 ⟨r, rfl, hrn, hrg, hr, hb⟩
                have HB6 := Hd.mk (HB5.out.trans (hb.mono HB5.out.size))
                have HR := Hd.mk hr
                clear XR hrg hr hb HB5 H6
                have HXA := Hd.mk (HXA.out r)
                have HXB := Hd.mk (HXB.out r)
                unfold RR.v
                rw [hrn]
                go_upto_region 20 with fail
                rename_i KQ hKQ
                refine regionH (fun w' : World => RowAt w' r (lineW E C k i)) (by kernel_rfl) (fun wd hb => ?_)
                have hHd : (fun w' : World => RowAt w' r (lineW E C k i)) wd := RowAt.below HR.out hb
                have hBd := hb
                clear hb HR
                refine takeH (i := 0) (v := ?v198) rfl (by kernel_rfl) (by kernel_rfl) (by kernel_rfl) (fun _ _ _ h => h) (Or.inl ⟨by rfl, ?hy198⟩) (by assumption) ?rest198
                case hy198 => (intro w hSw; (try dsimp only at hSw); go_simp; try (with_reducible rfl))
                case rest198 =>
                try simp only [Act.put, List.setIfInBounds_toArray, List.set_cons_zero, List.set_cons_succ]
                refine takeH (i := 1) (v := ?v199) rfl (by kernel_rfl) (by kernel_rfl) (by kernel_rfl) (fun _ _ _ h => h) (Or.inl ⟨by rfl, ?hy199⟩) (by assumption) ?rest199
                case hy199 => (intro w hSw; (try dsimp only at hSw); go_simp; try (with_reducible rfl))
                case rest199 =>
                try simp only [Act.put, List.setIfInBounds_toArray, List.set_cons_zero, List.set_cons_succ]
                refine takeH (i := 2) (v := ?v200) rfl (by kernel_rfl) (by kernel_rfl) (by kernel_rfl) (fun _ _ _ h => h) (Or.inl ⟨by rfl, ?hy200⟩) (by assumption) ?rest200
                case hy200 => (intro w hSw; (try dsimp only at hSw); go_simp; try (with_reducible rfl))
                case rest200 =>
                try simp only [Act.put, List.setIfInBounds_toArray, List.set_cons_zero, List.set_cons_succ]
                refine takeH (i := 3) (v := (.bool false)) rfl (by kernel_rfl) (by kernel_rfl) (by kernel_rfl) (fun _ _ _ h => h) (Or.inl ⟨by rfl, ?hy201⟩) (by assumption) ?rest201
                case hy201 => (intro w hSw; (try dsimp only at hSw); go_simp; first | done | rfl | omega | (rw [Int.tmod_eq_emod_of_nonneg (by omega)]; first | done | rfl | omega) | (congr 1; omega) | (simp; omega))
                case rest201 =>
                try simp only [Act.put, List.setIfInBounds_toArray, List.set_cons_zero, List.set_cons_succ]
                refine takeH (i := 4) (v := ?v202) rfl (by kernel_rfl) (by kernel_rfl) (by kernel_rfl) (fun _ _ _ h => h) (Or.inl ⟨by rfl, ?hy202⟩) (by assumption) ?rest202
                case hy202 => (intro w hSw; (try dsimp only at hSw); go_simp; try (with_reducible rfl))
                case rest202 =>
                try simp only [Act.put, List.setIfInBounds_toArray, List.set_cons_zero, List.set_cons_succ]
                refine takeH (i := 5) (v := ?v203) rfl (by kernel_rfl) (by kernel_rfl) (by kernel_rfl) (fun _ _ _ h => h) (Or.inl ⟨by rfl, ?hy203⟩) (by assumption) ?rest203
                case hy203 => (intro w hSw; (try dsimp only at hSw); go_simp; try (with_reducible rfl))
                case rest203 =>
                try simp only [Act.put, List.setIfInBounds_toArray, List.set_cons_zero, List.set_cons_succ]
                refine takeH (i := 6) (v := ?v204) rfl (by kernel_rfl) (by kernel_rfl) (by kernel_rfl) (fun _ _ _ h => h) (Or.inl ⟨by rfl, ?hy204⟩) (by assumption) ?rest204
                case hy204 => (intro w hSw; (try dsimp only at hSw); go_simp; try (with_reducible rfl))
                case rest204 =>
                try simp only [Act.put, List.setIfInBounds_toArray, List.set_cons_zero, List.set_cons_succ]
                refine takeH (i := 7) (v := ?v205) rfl (by kernel_rfl) (by kernel_rfl) (by kernel_rfl) (fun _ _ _ h => h) (Or.inl ⟨by rfl, ?hy205⟩) (by assumption) ?rest205
                case hy205 => (intro w hSw; (try dsimp only at hSw); go_simp; try (with_reducible rfl))
                case rest205 =>
                try simp only [Act.put, List.setIfInBounds_toArray, List.set_cons_zero, List.set_cons_succ]
                refine takeH (i := 8) (v := (.agg #[.string ⟨#[228, 184, 173]⟩, .int .i64 2, .bool false])) rfl (by kernel_rfl) (by kernel_rfl) (by kernel_rfl) (fun _ _ _ h => h) (Or.inl ⟨by rfl, ?hy206⟩) (by assumption) ?rest206
                case hy206 => (intro w hSw; (try dsimp only at hSw); obtain ⟨y0, y1, y2⟩ := HXA.out _ hSw; go_simp; first | done | rfl)
                case rest206 =>
                try simp only [Act.put, List.setIfInBounds_toArray, List.set_cons_zero, List.set_cons_succ]
                refine takeH (i := 9) (v := ?v207) rfl (by kernel_rfl) (by kernel_rfl) (by kernel_rfl) (fun _ _ _ h => h) (Or.inl ⟨by rfl, ?hy207⟩) (by assumption) ?rest207
                case hy207 => (intro w hSw; (try dsimp only at hSw); go_simp; try (with_reducible rfl))
                case rest207 =>
                try simp only [Act.put, List.setIfInBounds_toArray, List.set_cons_zero, List.set_cons_succ]
                refine takeH (i := 10) (v := (.bool false)) rfl (by kernel_rfl) (by kernel_rfl) (by kernel_rfl) (fun _ _ _ h => h) (Or.inl ⟨by rfl, ?hy208⟩) (by assumption) ?rest208
                case hy208 => (intro w hSw; (try dsimp only at hSw); go_simp; first | done | rfl | simp)
                case rest208 =>
                try simp only [Act.put, List.setIfInBounds_toArray, List.set_cons_zero, List.set_cons_succ]
                refine takeH (i := 11) (v := (.bool false)) rfl (by kernel_rfl) (by kernel_rfl) (by kernel_rfl) (fun _ _ _ h => h) (Or.inl ⟨by rfl, ?hy209⟩) (by assumption) ?rest209
                case hy209 => (intro w hSw; (try dsimp only at hSw); go_simp; first | done | rfl | omega | (rw [Int.tmod_eq_emod_of_nonneg (by omega)]; first | done | rfl | omega) | (congr 1; omega) | (simp; omega))
                case rest209 =>
                try simp only [Act.put, List.setIfInBounds_toArray, List.set_cons_zero, List.set_cons_succ]
                refine takeH (i := 12) (v := ?v210) rfl (by kernel_rfl) (by kernel_rfl) (by kernel_rfl) (fun _ _ _ h => h) (Or.inl ⟨by rfl, ?hy210⟩) (by assumption) ?rest210
                case hy210 => (intro w hSw; (try dsimp only at hSw); go_simp; try (with_reducible rfl))
                case rest210 =>
                try simp only [Act.put, List.setIfInBounds_toArray, List.set_cons_zero, List.set_cons_succ]
                refine takeH (i := 13) (v := ?v211) rfl (by kernel_rfl) (by kernel_rfl) (by kernel_rfl) (fun _ _ _ h => h) (Or.inl ⟨by rfl, ?hy211⟩) (by assumption) ?rest211
                case hy211 => (intro w hSw; (try dsimp only at hSw); go_simp; try (with_reducible rfl))
                case rest211 =>
                try simp only [Act.put, List.setIfInBounds_toArray, List.set_cons_zero, List.set_cons_succ]
                refine takeH (i := 14) (v := ?v212) rfl (by kernel_rfl) (by kernel_rfl) (by kernel_rfl) (fun _ _ _ h => h) (Or.inl ⟨by rfl, ?hy212⟩) (by assumption) ?rest212
                case hy212 => (intro w hSw; (try dsimp only at hSw); go_simp; try (with_reducible rfl))
                case rest212 =>
                try simp only [Act.put, List.setIfInBounds_toArray, List.set_cons_zero, List.set_cons_succ]
                refine takeH (i := 15) (v := (.int .i64 (pp : Int))) rfl (by kernel_rfl) (by kernel_rfl) (by kernel_rfl) (fun _ _ _ h => h) (Or.inl ⟨by rfl, ?hy213⟩) (by assumption) ?rest213
                case hy213 => (intro w hSw; (try dsimp only at hSw); go_simp; first | done | rfl | (congr 1; (try rw [IntKind.wrap_i64]); omega) | (rw [IntKind.wrap_i64]; congr 3; omega) | (simp; omega))
                case rest213 =>
                try simp only [Act.put, List.setIfInBounds_toArray, List.set_cons_zero, List.set_cons_succ]
                refine takeH (i := 16) (v := ?v214) rfl (by kernel_rfl) (by kernel_rfl) (by kernel_rfl) (fun _ _ _ h => h) (Or.inl ⟨by rfl, ?hy214⟩) (by assumption) ?rest214
                case hy214 => (intro w hSw; (try dsimp only at hSw); go_simp; try (with_reducible rfl))
                case rest214 =>
                try simp only [Act.put, List.setIfInBounds_toArray, List.set_cons_zero, List.set_cons_succ]
                refine takeH (i := 17) (v := (.agg #[.string ⟨#[]⟩, .int .i64 0, .bool false])) rfl (by kernel_rfl) (by kernel_rfl) (by kernel_rfl) (fun _ _ _ h => h) (Or.inl ⟨by rfl, ?hy215⟩) (by assumption) ?rest215
                case hy215 => (intro w hSw; (try dsimp only at hSw); obtain ⟨y0, y1, y2⟩ := HXB.out _ hSw; go_simp; first | done | rfl)
                case rest215 =>
                try simp only [Act.put, List.setIfInBounds_toArray, List.set_cons_zero, List.set_cons_succ]
                refine takeH (i := 18) (v := (.agg #[.string ⟨#[]⟩, .int .i64 0, .bool false])) rfl (by kernel_rfl) (by kernel_rfl) (by kernel_rfl) (fun _ _ _ h => h) (Or.inl ⟨by rfl, ?hy216⟩) (by assumption) ?rest216
                case hy216 => (intro w hSw; (try dsimp only at hSw); go_simp; first | done | rfl)
                case rest216 =>
                try simp only [Act.put, List.setIfInBounds_toArray, List.set_cons_zero, List.set_cons_succ]
                refine takeH (i := 19) (v := (.bool false)) rfl (by kernel_rfl) (by kernel_rfl) (by kernel_rfl) (fun _ _ _ h => h) (Or.inl ⟨by rfl, ?hy217⟩) (by assumption) ?rest217
                case hy217 => (intro w hSw; (try dsimp only at hSw); go_simp; first | done | rfl | simp)
                case rest217 =>
                try simp only [Act.put, List.setIfInBounds_toArray, List.set_cons_zero, List.set_cons_succ]
                refine takeH (i := 20) (v := (.bool false)) rfl (by kernel_rfl) (by kernel_rfl) (by kernel_rfl) (fun _ _ _ h => h) (Or.inl ⟨by rfl, ?hy218⟩) (by assumption) ?rest218
                case hy218 => (intro w hSw; (try dsimp only at hSw); go_simp; first | done | rfl | omega | (rw [Int.tmod_eq_emod_of_nonneg (by omega)]; first | done | rfl | omega) | (congr 1; omega) | (simp; omega))
                case rest218 =>
                try simp only [Act.put, List.setIfInBounds_toArray, List.set_cons_zero, List.set_cons_succ]
                refine takeH (i := 21) (v := ?v219) rfl (by kernel_rfl) (by kernel_rfl) (by kernel_rfl) (fun _ _ _ h => h) (Or.inl ⟨by rfl, ?hy219⟩) (by assumption) ?rest219
                case hy219 => (intro w hSw; (try dsimp only at hSw); go_simp; try (with_reducible rfl))
                case rest219 =>
                try simp only [Act.put, List.setIfInBounds_toArray, List.set_cons_zero, List.set_cons_succ]
                refine takeH (i := 22) (v := ?v220) rfl (by kernel_rfl) (by kernel_rfl) (by kernel_rfl) (fun _ _ _ h => h) (Or.inl ⟨by rfl, ?hy220⟩) (by assumption) ?rest220
                case hy220 => (intro w hSw; (try dsimp only at hSw); go_simp; try (with_reducible rfl))
                case rest220 =>
                try simp only [Act.put, List.setIfInBounds_toArray, List.set_cons_zero, List.set_cons_succ]
                refine takeH (i := 23) (v := (.int .i64 0)) rfl (by kernel_rfl) (by kernel_rfl) (by kernel_rfl) (fun _ _ _ h => h) (Or.inl ⟨by rfl, ?hy221⟩) (by assumption) ?rest221
                case hy221 => (intro w hSw; (try dsimp only at hSw); go_simp; first | done | rfl | omega | (rw [Int.tmod_eq_emod_of_nonneg (by omega)]; first | done | rfl | omega) | (congr 1; omega) | (simp; omega))
                case rest221 =>
                try simp only [Act.put, List.setIfInBounds_toArray, List.set_cons_zero, List.set_cons_succ]
                refine takeH (i := 24) (v := (.bool false)) rfl (by kernel_rfl) (by kernel_rfl) (by kernel_rfl) (fun _ _ _ h => h) (Or.inl ⟨by rfl, ?hy222⟩) (by assumption) ?rest222
                case hy222 => (intro w hSw; (try dsimp only at hSw); go_simp; first | done | rfl | omega | (rw [Int.tmod_eq_emod_of_nonneg (by omega)]; first | done | rfl | omega) | (congr 1; omega) | (simp; omega))
                case rest222 =>
                try simp only [Act.put, List.setIfInBounds_toArray, List.set_cons_zero, List.set_cons_succ]
                refine takeH (i := 25) (v := ?v223) rfl (by kernel_rfl) (by kernel_rfl) (by kernel_rfl) (fun _ _ _ h => h) (Or.inl ⟨by rfl, ?hy223⟩) (by assumption) ?rest223
                case hy223 => (intro w hSw; (try dsimp only at hSw); go_simp; try (with_reducible rfl))
                case rest223 =>
                try simp only [Act.put, List.setIfInBounds_toArray, List.set_cons_zero, List.set_cons_succ]
                refine takeH (i := 26) (v := undef) rfl (by kernel_rfl) (by kernel_rfl) (by kernel_rfl) (fun _ _ _ h => h) (Or.inr ⟨by rfl, by rfl⟩) (by assumption) ?_
                try simp only [Act.put, List.setIfInBounds_toArray, List.set_cons_zero, List.set_cons_succ]
                refine takeH (i := 27) (v := undef) rfl (by kernel_rfl) (by kernel_rfl) (by kernel_rfl) (fun _ _ _ h => h) (Or.inr ⟨by rfl, by rfl⟩) (by assumption) ?_
                try simp only [Act.put, List.setIfInBounds_toArray, List.set_cons_zero, List.set_cons_succ]
                refine takeH (i := 28) (v := undef) rfl (by kernel_rfl) (by kernel_rfl) (by kernel_rfl) (fun _ _ _ h => h) (Or.inr ⟨by rfl, by rfl⟩) (by assumption) ?_
                try simp only [Act.put, List.setIfInBounds_toArray, List.set_cons_zero, List.set_cons_succ]
                refine takeH (i := 29) (v := undef) rfl (by kernel_rfl) (by kernel_rfl) (by kernel_rfl) (fun _ _ _ h => h) (Or.inr ⟨by rfl, by rfl⟩) (by assumption) ?_
                try simp only [Act.put, List.setIfInBounds_toArray, List.set_cons_zero, List.set_cons_succ]
                refine takeH (i := 30) (v := undef) rfl (by kernel_rfl) (by kernel_rfl) (by kernel_rfl) (fun _ _ _ h => h) (Or.inr ⟨by rfl, by rfl⟩) (by assumption) ?_
                try simp only [Act.put, List.setIfInBounds_toArray, List.set_cons_zero, List.set_cons_succ]
                refine takeH (i := 31) (v := undef) rfl (by kernel_rfl) (by kernel_rfl) (by kernel_rfl) (fun _ _ _ h => h) (Or.inr ⟨by rfl, by rfl⟩) (by assumption) ?_
                try simp only [Act.put, List.setIfInBounds_toArray, List.set_cons_zero, List.set_cons_succ]
                refine takeH (i := 32) (v := undef) rfl (by kernel_rfl) (by kernel_rfl) (by kernel_rfl) (fun _ _ _ h => h) (Or.inr ⟨by rfl, by rfl⟩) (by assumption) ?_
                try simp only [Act.put, List.setIfInBounds_toArray, List.set_cons_zero, List.set_cons_succ]
                refine takeH (i := 33) (v := (.bool false)) rfl (by kernel_rfl) (by kernel_rfl) (by kernel_rfl) (fun _ _ _ h => h) (Or.inl ⟨by rfl, ?hy224⟩) (by assumption) ?rest224
                case hy224 => (intro w hSw; (try dsimp only at hSw); go_simp; first | done | rfl | omega | (rw [Int.tmod_eq_emod_of_nonneg (by omega)]; first | done | rfl | omega) | (congr 1; omega) | (simp; omega))
                case rest224 =>
                try simp only [Act.put, List.setIfInBounds_toArray, List.set_cons_zero, List.set_cons_succ]
                refine takeH (i := 34) (v := (.bool false)) rfl (by kernel_rfl) (by kernel_rfl) (by kernel_rfl) (fun _ _ _ h => h) (Or.inl ⟨by rfl, ?hy225⟩) (by assumption) ?rest225
                case hy225 => (intro w hSw; (try dsimp only at hSw); go_simp; first | done | rfl | omega | (rw [Int.tmod_eq_emod_of_nonneg (by omega)]; first | done | rfl | omega) | (congr 1; omega) | (simp; omega))
                case rest225 =>
                try simp only [Act.put, List.setIfInBounds_toArray, List.set_cons_zero, List.set_cons_succ]
                refine wpAnyH_done (by kernel_rfl) ?_ _
                refine hKQ _ _ ?_
                have HBz := Hd.mk (HB6.out.trans (hBd.mono HB6.out.size))
                clear hHd hBd HB6 HXA HXB
                go_wp2
                go_roundg d2
                case measure => omega
                case rel => exact ⟨j + 1, by simp, ⟨by omega⟩, HBz⟩
            · have m1 : decide ((j : Int) < (k : Int)) = false := decide_eq_false (by omega)
              have m2 : decide (j < k) = false := decide_eq_false (by omega)
              clear HB H4
              go_wp2_with fail
              have XA := Hd.mk (alive_calls wr (HT.out.below H5.out.bl))
              go_wp2_with fail
              go_at_call 11
              with_reducible refine XA.out.mono ?_
              rintro _ w7 ⟨rfl, hb⟩
              have H8 := Hd.mk (H5.out.to hb)
              clear XA hb H5
              go_wp2_with fail
              go_ret
              exact ⟨rfl, H8.out.bl⟩
        · have E8 : (C : Int) % 2 = 1 := by omega
          have HFU : Hd (s.full = false) := ⟨by rw [HFL.out]; exact decide_eq_false (fun h => by omega)⟩
          clear he HC2 hkm
          have hz2 : ¬ (km : Int) = 0 := by omega
          go_upto_region 11 with fail
          rename_i KQ hKQ
          refine regionH (fun w' : World => St w w' F T s) (by kernel_rfl) (fun wd hb => ?_)
          have hHd : (fun w' : World => St w w' F T s) wd := H3.out.to hb
          clear hb H3
          refine takeH (i := 0) (v := ?v226) rfl (by kernel_rfl) (by kernel_rfl) (by kernel_rfl) (fun _ _ _ h => h) (Or.inl ⟨by rfl, ?hy226⟩) (by assumption) ?rest226
          case hy226 => (intro w hSw; (try dsimp only at hSw); go_simp; try (with_reducible rfl))
          case rest226 =>
          try simp only [Act.put, List.setIfInBounds_toArray, List.set_cons_zero, List.set_cons_succ]
          refine takeH (i := 2) (v := ?v227) rfl (by kernel_rfl) (by kernel_rfl) (by kernel_rfl) (fun _ _ _ h => h) (Or.inl ⟨by rfl, ?hy227⟩) (by assumption) ?rest227
          case hy227 => (intro w hSw; (try dsimp only at hSw); go_simp; try (with_reducible rfl))
          case rest227 =>
          try simp only [Act.put, List.setIfInBounds_toArray, List.set_cons_zero, List.set_cons_succ]
          refine wpAnyH_ready (rs := [1]) (by kernel_rfl) (by simp) ?_
          refine consH rfl (fun K hK => ?_) AllReadyH.nil
          go_simp
          go_at_call 21
          with_reducible refine (off_calls hHd.ta.t).mono ?_
          rintro _ wa ⟨rfl, hb2⟩
          have hHd2 : (fun w' : World => St w w' F T s) wa := St.to hHd hb2
          clear hb2 hHd
          have hHd := hHd2
          clear hHd2
          go_simp
          refine hK.out _ _ hHd ?_
          clear hK K
          try simp only [Act.put, List.setIfInBounds_toArray, List.set_cons_zero, List.set_cons_succ]
          refine takeH (i := 3) (v := (.bool false)) rfl (by kernel_rfl) (by kernel_rfl) (by kernel_rfl) (fun _ _ _ h => h) (Or.inl ⟨by rfl, ?hy228⟩) (by assumption) ?rest228
          case hy228 => (intro w hSw; (try dsimp only at hSw); go_simp; first | done | rfl | omega | (rw [Int.tmod_eq_emod_of_nonneg (by omega)]; first | done | rfl | omega) | (congr 1; omega) | (simp; omega))
          case rest228 =>
          try simp only [Act.put, List.setIfInBounds_toArray, List.set_cons_zero, List.set_cons_succ]
          refine takeH (i := 4) (v := ?v229) rfl (by kernel_rfl) (by kernel_rfl) (by kernel_rfl) (fun _ _ _ h => h) (Or.inl ⟨by rfl, ?hy229⟩) (by assumption) ?rest229
          case hy229 => (intro w hSw; (try dsimp only at hSw); go_simp; try (with_reducible rfl))
          case rest229 =>
          try simp only [Act.put, List.setIfInBounds_toArray, List.set_cons_zero, List.set_cons_succ]
          refine takeH (i := 5) (v := ?v230) rfl (by kernel_rfl) (by kernel_rfl) (by kernel_rfl) (fun _ _ _ h => h) (Or.inl ⟨by rfl, ?hy230⟩) (by assumption) ?rest230
          case hy230 => (intro w hSw; (try dsimp only at hSw); go_simp; try (with_reducible rfl))
          case rest230 =>
          try simp only [Act.put, List.setIfInBounds_toArray, List.set_cons_zero, List.set_cons_succ]
          refine takeH (i := 7) (v := ?v231) rfl (by kernel_rfl) (by kernel_rfl) (by kernel_rfl) (fun _ _ _ h => h) (Or.inl ⟨by rfl, ?hy231⟩) (by assumption) ?rest231
          case hy231 => (intro w hSw; (try dsimp only at hSw); go_simp; try (with_reducible rfl))
          case rest231 =>
          try simp only [Act.put, List.setIfInBounds_toArray, List.set_cons_zero, List.set_cons_succ]
          refine takeH (i := 8) (v := ?v232) rfl (by kernel_rfl) (by kernel_rfl) (by kernel_rfl) (fun _ _ _ h => h) (Or.inl ⟨by rfl, ?hy232⟩) (by assumption) ?rest232
          case hy232 => (intro w hSw; (try dsimp only at hSw); go_simp; try (with_reducible rfl))
          case rest232 =>
          try simp only [Act.put, List.setIfInBounds_toArray, List.set_cons_zero, List.set_cons_succ]
          refine takeH (i := 9) (v := (.int .i64 (km : Int))) rfl (by kernel_rfl) (by kernel_rfl) (by kernel_rfl) (fun _ _ _ h => h) (Or.inl ⟨by rfl, ?hy233⟩) (by assumption) ?rest233
          case hy233 => (intro w hSw; (try dsimp only at hSw); go_simp; first | done | rfl | omega | (rw [Int.tmod_eq_emod_of_nonneg (by omega)]; first | done | rfl | omega) | (congr 1; omega) | (simp; omega))
          case rest233 =>
          try simp only [Act.put, List.setIfInBounds_toArray, List.set_cons_zero, List.set_cons_succ]
          refine takeH (i := 10) (v := (.bool false)) rfl (by kernel_rfl) (by kernel_rfl) (by kernel_rfl) (fun _ _ _ h => h) (Or.inl ⟨by rfl, ?hy234⟩) (by assumption) ?rest234
          case hy234 => (intro w hSw; (try dsimp only at hSw); go_simp; first | done | rfl | omega | (rw [Int.tmod_eq_emod_of_nonneg (by omega)]; first | done | rfl | omega) | (congr 1; omega) | (simp; omega))
          case rest234 =>
          try simp only [Act.put, List.setIfInBounds_toArray, List.set_cons_zero, List.set_cons_succ]
          refine wpAnyH_ready (rs := [6]) (by kernel_rfl) (by simp) ?_
          refine consH rfl (fun K hK => ?_) AllReadyH.nil
          go_simp
          go_at_call 15
          with_reducible refine (full_calls hHd.ta.t).mono ?_
          rintro _ wb ⟨rfl, hb2⟩
          have hHd2 : (fun w' : World => St w w' F T s) wb := St.to hHd hb2
          clear hb2 hHd
          have hHd := hHd2
          clear hHd2
          go_simp
          refine hK.out _ _ hHd ?_
          clear hK K
          try simp only [Act.put, List.setIfInBounds_toArray, List.set_cons_zero, List.set_cons_succ]
          refine takeH (i := 11) (v := ?v235) rfl (by kernel_rfl) (by kernel_rfl) (by kernel_rfl) (fun _ _ _ h => h) (Or.inl ⟨by rfl, ?hy235⟩) (by assumption) ?rest235
          case hy235 => (intro w hSw; (try dsimp only at hSw); go_simp; try (with_reducible rfl))
          case rest235 =>
          try simp only [Act.put, List.setIfInBounds_toArray, List.set_cons_zero, List.set_cons_succ]
          refine takeH (i := 12) (v := undef) rfl (by kernel_rfl) (by kernel_rfl) (by kernel_rfl) (fun _ _ _ h => h) (Or.inr ⟨by rfl, by rfl⟩) (by assumption) ?_
          try simp only [Act.put, List.setIfInBounds_toArray, List.set_cons_zero, List.set_cons_succ]
          refine takeH (i := 13) (v := undef) rfl (by kernel_rfl) (by kernel_rfl) (by kernel_rfl) (fun _ _ _ h => h) (Or.inr ⟨by rfl, by rfl⟩) (by assumption) ?_
          try simp only [Act.put, List.setIfInBounds_toArray, List.set_cons_zero, List.set_cons_succ]
          refine takeH (i := 14) (v := undef) rfl (by kernel_rfl) (by kernel_rfl) (by kernel_rfl) (fun _ _ _ h => h) (Or.inr ⟨by rfl, by rfl⟩) (by assumption) ?_
          try simp only [Act.put, List.setIfInBounds_toArray, List.set_cons_zero, List.set_cons_succ]
          refine takeH (i := 15) (v := (.bool false)) rfl (by kernel_rfl) (by kernel_rfl) (by kernel_rfl) (fun _ _ _ h => h) (Or.inl ⟨by rfl, ?hy236⟩) (by assumption) ?rest236
          case hy236 => (intro w hSw; (try dsimp only at hSw); go_simp; first | done | rfl | omega | (rw [Int.tmod_eq_emod_of_nonneg (by omega)]; first | done | rfl | omega) | (congr 1; omega) | (simp; omega))
          case rest236 =>
          try simp only [Act.put, List.setIfInBounds_toArray, List.set_cons_zero, List.set_cons_succ]
          refine takeH (i := 16) (v := (.bool false)) rfl (by kernel_rfl) (by kernel_rfl) (by kernel_rfl) (fun _ _ _ h => h) (Or.inl ⟨by rfl, ?hy237⟩) (by assumption) ?rest237
          case hy237 => (intro w hSw; (try dsimp only at hSw); first | (rw [HFU.out]; go_simp; done) | (go_simp; rw [HFU.out]; done) | (go_simp; simp [HFU.out]))
          case rest237 =>
          try simp only [Act.put, List.setIfInBounds_toArray, List.set_cons_zero, List.set_cons_succ]
          refine takeH (i := 17) (v := (.bool false)) rfl (by kernel_rfl) (by kernel_rfl) (by kernel_rfl) (fun _ _ _ h => h) (Or.inl ⟨by rfl, ?hy238⟩) (by assumption) ?rest238
          case hy238 => (intro w hSw; (try dsimp only at hSw); go_simp; first | done | rfl | omega | (rw [Int.tmod_eq_emod_of_nonneg (by omega)]; first | done | rfl | omega) | (congr 1; omega) | (simp; omega))
          case rest238 =>
          try simp only [Act.put, List.setIfInBounds_toArray, List.set_cons_zero, List.set_cons_succ]
          refine wpAnyH_done (by kernel_rfl) ?_ _
          refine hKQ _ _ ?_
          go_wp2_with fail
          have H4 := Hd.mk (show St w wb F T s from hHd)
          clear hHd HFU HFL
          go_loopg [87] k (fun gk vj wx => ∃ (j : Nat), vj = .int .i64 (j : Int) ∧ Hd (j + gk = k) ∧ Hd (Below wb.heap.size wb wx))
          case atStart => exact ⟨0, rfl, ⟨by omega⟩, ⟨Below.refl _ _⟩⟩
          case round =>
            obtain ⟨j, rfl, HJ2, HB⟩ := hrel
            have h2 := HJ2.out
            have H5 := Hd.mk (H4.out.to HB.out)
            by_cases hlt : j < k
            · obtain ⟨d2, rfl⟩ : ∃ d, gk = d + 1 := ⟨gk - 1, by omega⟩
              have m1 : decide ((j : Int) < (k : Int)) = true := decide_eq_true (by omega)
              have m2 : decide (j < k) = true := decide_eq_true hlt
              have m3 : (j : Int) < (k : Int) := by omega
              have m4 : (0 : Int) ≤ (j : Int) := by omega
              have m5 : (j : Int) ≤ 200 := by omega
              have hjm := Nat.mod_lt j (show 0 < E by omega)
              obtain ⟨i, hi⟩ : ∃ i, j / E = i := ⟨_, rfl⟩
              have hij : i * E + j % E = j := by rw [← hi, Nat.mul_comm]; exact Nat.div_add_mod j E
              have E3 : (j : Int) / (E : Int) = (i : Int) := by rw [← hi]; exact (Int.natCast_ediv _ _).symm
              obtain ⟨m, hm⟩ : ∃ m, j % E = m := ⟨_, rfl⟩
              have E4 : (j : Int) % (E : Int) = (m : Int) := by rw [← hm]; exact (Int.natCast_emod _ _).symm
              rw [hm] at hjm hij
              have hiq : i ≤ q := div_le_q hE1 hlt HQ.out hi
              have hi4 : (i : Int) ≤ 200 := by omega
              clear hm hi
              obtain ⟨p, hp⟩ : ∃ p, 2 * m = p := ⟨_, rfl⟩
              have E5 : 2 * (m : Int) = (p : Int) := by omega
              have p0 : (0 : Int) ≤ (p : Int) := by omega
              have p1 : (p : Int) < (C : Int) := by omega
              have p2 : (p : Int) + 1 < (C : Int) := by omega
              have p3 : (p : Int) ≤ 120 := by omega
              obtain ⟨pp, hpp⟩ : ∃ pp, p + 1 = pp := ⟨_, rfl⟩
              have pp0 : (0 : Int) ≤ (pp : Int) := by omega
              have pp1 : (pp : Int) < (C : Int) := by omega
              have q1 : (m : Int) < (E : Int) := by omega
              have q0 : (0 : Int) ≤ (m : Int) := by omega
              have HXA : Hd (∀ (r : RR) (w' : World), RowAt w' r (lineW E C k i) → w'.cell? ⟨r.g, p * 3, none⟩ = some (.string ⟨#[228, 184, 173]⟩) ∧ w'.cell? ⟨r.g, p * 3 + 1, none⟩ = some (.int .i64 2) ∧ w'.cell? ⟨r.g, p * 3 + 2, none⟩ = some (.bool false)) := ⟨fun r w' h => wide_three h (by omega) (by omega) (by omega) (by omega)⟩
              have HXB : Hd (∀ (r : RR) (w' : World), RowAt w' r (lineW E C k i) → w'.cell? ⟨r.g, pp * 3, none⟩ = some (.string ⟨#[]⟩) ∧ w'.cell? ⟨r.g, pp * 3 + 1, none⟩ = some (.int .i64 0) ∧ w'.cell? ⟨r.g, pp * 3 + 2, none⟩ = some (.bool false)) := ⟨fun r w' h => by rw [← hpp]; exact half_three h (by omega) (by omega) (by omega) (by omega)⟩
              have HXC : Hd (∀ (r : RR) (w' : World), RowAt w' r (lineW E C k i) → w'.cell? ⟨r.g, (C - 1) * 3, none⟩ = some (.string ⟨#[32]⟩) ∧ w'.cell? ⟨r.g, (C - 1) * 3 + 1, none⟩ = some (.int .i64 1) ∧ w'.cell? ⟨r.g, (C - 1) * 3 + 2, none⟩ = some (.bool false)) := ⟨fun r w' h => last_three h (by omega) (by omega)⟩
              obtain ⟨D, hD⟩ : ∃ D, C - 1 = D := ⟨_, rfl⟩
              rw [hD] at HXC
              have E6 : (C : Int) - 1 = (D : Int) := by omega
              have D1 : (D : Int) < (C : Int) := by omega
              have D0 : (0 : Int) ≤ (D : Int) := by omega
              clear hD
              clear hij hp
              by_cases hoff : i < s.off
              · have XG := Hd.mk (gone_at H5.out.ta.t K3.out.ok (by omega) (k := i) (j := i) (by rw [HSC.out.glen]; exact hoff) (by rw [HSC.out.glen]; omega))
                rw [HSC.out.gone i hoff, lineW_len] at XG
                have o1 : decide ((s.off : Int) ≤ (i : Int)) = false := decide_eq_false (by omega)
                have o2 : decide (s.off ≤ i) = false := decide_eq_false (by omega)
                have o3 : (i : Int) < (s.off : Int) := by omega
                go_wp2_with fail
                go_wp2_with fail
                go_at_call 22
                with_reducible refine XG.out.mono ?_
                rintro _ w5 ⟨r, rfl, hrn, hrg, hr, hb⟩
                have HB5 := Hd.mk (HB.out.trans (hb.mono HB.out.size))
                have HR := Hd.mk hr
                clear XG hrg hr hb HB H5
                have HXA := Hd.mk (HXA.out r)
                have HXB := Hd.mk (HXB.out r)
                have HXC := Hd.mk (HXC.out r)
                unfold RR.v
                rw [hrn]
                go_upto_region 20 with fail
                rename_i KQ hKQ
                refine regionH (fun w' : World => RowAt w' r (lineW E C k i)) (by kernel_rfl) (fun wd hb => ?_)
                have hHd : (fun w' : World => RowAt w' r (lineW E C k i)) wd := RowAt.below HR.out hb
                have hBd := hb
                clear hb HR
                refine takeH (i := 0) (v := ?v239) rfl (by kernel_rfl) (by kernel_rfl) (by kernel_rfl) (fun _ _ _ h => h) (Or.inl ⟨by rfl, ?hy239⟩) (by assumption) ?rest239
                case hy239 => (intro w hSw; (try dsimp only at hSw); go_simp; try (with_reducible rfl))
                case rest239 =>
                try simp only [Act.put, List.setIfInBounds_toArray, List.set_cons_zero, List.set_cons_succ]
                refine takeH (i := 1) (v := ?v240) rfl (by kernel_rfl) (by kernel_rfl) (by kernel_rfl) (fun _ _ _ h => h) (Or.inl ⟨by rfl, ?hy240⟩) (by assumption) ?rest240
                case hy240 => (intro w hSw; (try dsimp only at hSw); go_simp; try (with_reducible rfl))
                case rest240 =>
                try simp only [Act.put, List.setIfInBounds_toArray, List.set_cons_zero, List.set_cons_succ]
                refine takeH (i := 2) (v := ?v241) rfl (by kernel_rfl) (by kernel_rfl) (by kernel_rfl) (fun _ _ _ h => h) (Or.inl ⟨by rfl, ?hy241⟩) (by assumption) ?rest241
                case hy241 => (intro w hSw; (try dsimp only at hSw); go_simp; try (with_reducible rfl))
                case rest241 =>
                try simp only [Act.put, List.setIfInBounds_toArray, List.set_cons_zero, List.set_cons_succ]
                refine takeH (i := 3) (v := (.bool false)) rfl (by kernel_rfl) (by kernel_rfl) (by kernel_rfl) (fun _ _ _ h => h) (Or.inl ⟨by rfl, ?hy242⟩) (by assumption) ?rest242
                case hy242 => (intro w hSw; (try dsimp only at hSw); go_simp; first | done | rfl | omega | (rw [Int.tmod_eq_emod_of_nonneg (by omega)]; first | done | rfl | omega) | (congr 1; omega) | (simp; omega))
                case rest242 =>
                try simp only [Act.put, List.setIfInBounds_toArray, List.set_cons_zero, List.set_cons_succ]
                refine takeH (i := 4) (v := ?v243) rfl (by kernel_rfl) (by kernel_rfl) (by kernel_rfl) (fun _ _ _ h => h) (Or.inl ⟨by rfl, ?hy243⟩) (by assumption) ?rest243
                case hy243 => (intro w hSw; (try dsimp only at hSw); go_simp; try (with_reducible rfl))
                case rest243 =>
                try simp only [Act.put, List.setIfInBounds_toArray, List.set_cons_zero, List.set_cons_succ]
                refine takeH (i := 5) (v := ?v244) rfl (by kernel_rfl) (by kernel_rfl) (by kernel_rfl) (fun _ _ _ h => h) (Or.inl ⟨by rfl, ?hy244⟩) (by assumption) ?rest244
                case hy244 => (intro w hSw; (try dsimp only at hSw); go_simp; try (with_reducible rfl))
                case rest244 =>
                try simp only [Act.put, List.setIfInBounds_toArray, List.set_cons_zero, List.set_cons_succ]
                refine takeH (i := 6) (v := ?v245) rfl (by kernel_rfl) (by kernel_rfl) (by kernel_rfl) (fun _ _ _ h => h) (Or.inl ⟨by rfl, ?hy245⟩) (by assumption) ?rest245
                case hy245 => (intro w hSw; (try dsimp only at hSw); go_simp; try (with_reducible rfl))
                case rest245 =>
                try simp only [Act.put, List.setIfInBounds_toArray, List.set_cons_zero, List.set_cons_succ]
                refine takeH (i := 7) (v := ?v246) rfl (by kernel_rfl) (by kernel_rfl) (by kernel_rfl) (fun _ _ _ h => h) (Or.inl ⟨by rfl, ?hy246⟩) (by assumption) ?rest246
                case hy246 => (intro w hSw; (try dsimp only at hSw); go_simp; try (with_reducible rfl))
                case rest246 =>
                try simp only [Act.put, List.setIfInBounds_toArray, List.set_cons_zero, List.set_cons_succ]
                refine takeH (i := 8) (v := (.agg #[.string ⟨#[228, 184, 173]⟩, .int .i64 2, .bool false])) rfl (by kernel_rfl) (by kernel_rfl) (by kernel_rfl) (fun _ _ _ h => h) (Or.inl ⟨by rfl, ?hy247⟩) (by assumption) ?rest247
                case hy247 => (intro w hSw; (try dsimp only at hSw); obtain ⟨y0, y1, y2⟩ := HXA.out _ hSw; go_simp; first | done | rfl)
                case rest247 =>
                try simp only [Act.put, List.setIfInBounds_toArray, List.set_cons_zero, List.set_cons_succ]
                refine takeH (i := 9) (v := ?v248) rfl (by kernel_rfl) (by kernel_rfl) (by kernel_rfl) (fun _ _ _ h => h) (Or.inl ⟨by rfl, ?hy248⟩) (by assumption) ?rest248
                case hy248 => (intro w hSw; (try dsimp only at hSw); go_simp; try (with_reducible rfl))
                case rest248 =>
                try simp only [Act.put, List.setIfInBounds_toArray, List.set_cons_zero, List.set_cons_succ]
                refine takeH (i := 10) (v := (.bool false)) rfl (by kernel_rfl) (by kernel_rfl) (by kernel_rfl) (fun _ _ _ h => h) (Or.inl ⟨by rfl, ?hy249⟩) (by assumption) ?rest249
                case hy249 => (intro w hSw; (try dsimp only at hSw); go_simp; first | done | rfl | simp)
                case rest249 =>
                try simp only [Act.put, List.setIfInBounds_toArray, List.set_cons_zero, List.set_cons_succ]
                refine takeH (i := 11) (v := (.bool false)) rfl (by kernel_rfl) (by kernel_rfl) (by kernel_rfl) (fun _ _ _ h => h) (Or.inl ⟨by rfl, ?hy250⟩) (by assumption) ?rest250
                case hy250 => (intro w hSw; (try dsimp only at hSw); go_simp; first | done | rfl | omega | (rw [Int.tmod_eq_emod_of_nonneg (by omega)]; first | done | rfl | omega) | (congr 1; omega) | (simp; omega))
                case rest250 =>
                try simp only [Act.put, List.setIfInBounds_toArray, List.set_cons_zero, List.set_cons_succ]
                refine takeH (i := 12) (v := ?v251) rfl (by kernel_rfl) (by kernel_rfl) (by kernel_rfl) (fun _ _ _ h => h) (Or.inl ⟨by rfl, ?hy251⟩) (by assumption) ?rest251
                case hy251 => (intro w hSw; (try dsimp only at hSw); go_simp; try (with_reducible rfl))
                case rest251 =>
                try simp only [Act.put, List.setIfInBounds_toArray, List.set_cons_zero, List.set_cons_succ]
                refine takeH (i := 13) (v := ?v252) rfl (by kernel_rfl) (by kernel_rfl) (by kernel_rfl) (fun _ _ _ h => h) (Or.inl ⟨by rfl, ?hy252⟩) (by assumption) ?rest252
                case hy252 => (intro w hSw; (try dsimp only at hSw); go_simp; try (with_reducible rfl))
                case rest252 =>
                try simp only [Act.put, List.setIfInBounds_toArray, List.set_cons_zero, List.set_cons_succ]
                refine takeH (i := 14) (v := ?v253) rfl (by kernel_rfl) (by kernel_rfl) (by kernel_rfl) (fun _ _ _ h => h) (Or.inl ⟨by rfl, ?hy253⟩) (by assumption) ?rest253
                case hy253 => (intro w hSw; (try dsimp only at hSw); go_simp; try (with_reducible rfl))
                case rest253 =>
                try simp only [Act.put, List.setIfInBounds_toArray, List.set_cons_zero, List.set_cons_succ]
                refine takeH (i := 15) (v := (.int .i64 (pp : Int))) rfl (by kernel_rfl) (by kernel_rfl) (by kernel_rfl) (fun _ _ _ h => h) (Or.inl ⟨by rfl, ?hy254⟩) (by assumption) ?rest254
                case hy254 => (intro w hSw; (try dsimp only at hSw); go_simp; first | done | rfl | (congr 1; (try rw [IntKind.wrap_i64]); omega) | (rw [IntKind.wrap_i64]; congr 3; omega) | (simp; omega))
                case rest254 =>
                try simp only [Act.put, List.setIfInBounds_toArray, List.set_cons_zero, List.set_cons_succ]
                refine takeH (i := 16) (v := ?v255) rfl (by kernel_rfl) (by kernel_rfl) (by kernel_rfl) (fun _ _ _ h => h) (Or.inl ⟨by rfl, ?hy255⟩) (by assumption) ?rest255
                case hy255 => (intro w hSw; (try dsimp only at hSw); go_simp; try (with_reducible rfl))
                case rest255 =>
                try simp only [Act.put, List.setIfInBounds_toArray, List.set_cons_zero, List.set_cons_succ]
                refine takeH (i := 17) (v := (.agg #[.string ⟨#[]⟩, .int .i64 0, .bool false])) rfl (by kernel_rfl) (by kernel_rfl) (by kernel_rfl) (fun _ _ _ h => h) (Or.inl ⟨by rfl, ?hy256⟩) (by assumption) ?rest256
                case hy256 => (intro w hSw; (try dsimp only at hSw); obtain ⟨y0, y1, y2⟩ := HXB.out _ hSw; go_simp; first | done | rfl)
                case rest256 =>
                try simp only [Act.put, List.setIfInBounds_toArray, List.set_cons_zero, List.set_cons_succ]
                refine takeH (i := 18) (v := (.agg #[.string ⟨#[]⟩, .int .i64 0, .bool false])) rfl (by kernel_rfl) (by kernel_rfl) (by kernel_rfl) (fun _ _ _ h => h) (Or.inl ⟨by rfl, ?hy257⟩) (by assumption) ?rest257
                case hy257 => (intro w hSw; (try dsimp only at hSw); go_simp; first | done | rfl)
                case rest257 =>
                try simp only [Act.put, List.setIfInBounds_toArray, List.set_cons_zero, List.set_cons_succ]
                refine takeH (i := 19) (v := (.bool false)) rfl (by kernel_rfl) (by kernel_rfl) (by kernel_rfl) (fun _ _ _ h => h) (Or.inl ⟨by rfl, ?hy258⟩) (by assumption) ?rest258
                case hy258 => (intro w hSw; (try dsimp only at hSw); go_simp; first | done | rfl | simp)
                case rest258 =>
                try simp only [Act.put, List.setIfInBounds_toArray, List.set_cons_zero, List.set_cons_succ]
                refine takeH (i := 20) (v := (.bool false)) rfl (by kernel_rfl) (by kernel_rfl) (by kernel_rfl) (fun _ _ _ h => h) (Or.inl ⟨by rfl, ?hy259⟩) (by assumption) ?rest259
                case hy259 => (intro w hSw; (try dsimp only at hSw); go_simp; first | done | rfl | omega | (rw [Int.tmod_eq_emod_of_nonneg (by omega)]; first | done | rfl | omega) | (congr 1; omega) | (simp; omega))
                case rest259 =>
                try simp only [Act.put, List.setIfInBounds_toArray, List.set_cons_zero, List.set_cons_succ]
                refine takeH (i := 21) (v := ?v260) rfl (by kernel_rfl) (by kernel_rfl) (by kernel_rfl) (fun _ _ _ h => h) (Or.inl ⟨by rfl, ?hy260⟩) (by assumption) ?rest260
                case hy260 => (intro w hSw; (try dsimp only at hSw); go_simp; try (with_reducible rfl))
                case rest260 =>
                try simp only [Act.put, List.setIfInBounds_toArray, List.set_cons_zero, List.set_cons_succ]
                refine takeH (i := 22) (v := ?v261) rfl (by kernel_rfl) (by kernel_rfl) (by kernel_rfl) (fun _ _ _ h => h) (Or.inl ⟨by rfl, ?hy261⟩) (by assumption) ?rest261
                case hy261 => (intro w hSw; (try dsimp only at hSw); go_simp; try (with_reducible rfl))
                case rest261 =>
                try simp only [Act.put, List.setIfInBounds_toArray, List.set_cons_zero, List.set_cons_succ]
                refine takeH (i := 23) (v := (.int .i64 1)) rfl (by kernel_rfl) (by kernel_rfl) (by kernel_rfl) (fun _ _ _ h => h) (Or.inl ⟨by rfl, ?hy262⟩) (by assumption) ?rest262
                case hy262 => (intro w hSw; (try dsimp only at hSw); go_simp; first | done | rfl | omega | (rw [Int.tmod_eq_emod_of_nonneg (by omega)]; first | done | rfl | omega) | (congr 1; omega) | (simp; omega))
                case rest262 =>
                try simp only [Act.put, List.setIfInBounds_toArray, List.set_cons_zero, List.set_cons_succ]
                refine takeH (i := 24) (v := (.bool true)) rfl (by kernel_rfl) (by kernel_rfl) (by kernel_rfl) (fun _ _ _ h => h) (Or.inl ⟨by rfl, ?hy263⟩) (by assumption) ?rest263
                case hy263 => (intro w hSw; (try dsimp only at hSw); go_simp; first | done | rfl | omega | (rw [Int.tmod_eq_emod_of_nonneg (by omega)]; first | done | rfl | omega) | (congr 1; omega) | (simp; omega))
                case rest263 =>
                try simp only [Act.put, List.setIfInBounds_toArray, List.set_cons_zero, List.set_cons_succ]
                refine takeH (i := 25) (v := ?v264) rfl (by kernel_rfl) (by kernel_rfl) (by kernel_rfl) (fun _ _ _ h => h) (Or.inl ⟨by rfl, ?hy264⟩) (by assumption) ?rest264
                case hy264 => (intro w hSw; (try dsimp only at hSw); go_simp; try (with_reducible rfl))
                case rest264 =>
                try simp only [Act.put, List.setIfInBounds_toArray, List.set_cons_zero, List.set_cons_succ]
                refine takeH (i := 26) (v := ?v265) rfl (by kernel_rfl) (by kernel_rfl) (by kernel_rfl) (fun _ _ _ h => h) (Or.inl ⟨by rfl, ?hy265⟩) (by assumption) ?rest265
                case hy265 => (intro w hSw; (try dsimp only at hSw); go_simp; try (with_reducible rfl))
                case rest265 =>
                try simp only [Act.put, List.setIfInBounds_toArray, List.set_cons_zero, List.set_cons_succ]
                refine takeH (i := 27) (v := ?v266) rfl (by kernel_rfl) (by kernel_rfl) (by kernel_rfl) (fun _ _ _ h => h) (Or.inl ⟨by rfl, ?hy266⟩) (by assumption) ?rest266
                case hy266 => (intro w hSw; (try dsimp only at hSw); go_simp; try (with_reducible rfl))
                case rest266 =>
                try simp only [Act.put, List.setIfInBounds_toArray, List.set_cons_zero, List.set_cons_succ]
                refine takeH (i := 28) (v := (.int .i64 (D : Int))) rfl (by kernel_rfl) (by kernel_rfl) (by kernel_rfl) (fun _ _ _ h => h) (Or.inl ⟨by rfl, ?hy267⟩) (by assumption) ?rest267
                case hy267 => (intro w hSw; (try dsimp only at hSw); go_simp; first | done | rfl | (congr 1; (try rw [IntKind.wrap_i64]); omega) | (rw [IntKind.wrap_i64]; congr 3; omega) | (simp; omega))
                case rest267 =>
                try simp only [Act.put, List.setIfInBounds_toArray, List.set_cons_zero, List.set_cons_succ]
                refine takeH (i := 29) (v := ?v268) rfl (by kernel_rfl) (by kernel_rfl) (by kernel_rfl) (fun _ _ _ h => h) (Or.inl ⟨by rfl, ?hy268⟩) (by assumption) ?rest268
                case hy268 => (intro w hSw; (try dsimp only at hSw); go_simp; try (with_reducible rfl))
                case rest268 =>
                try simp only [Act.put, List.setIfInBounds_toArray, List.set_cons_zero, List.set_cons_succ]
                refine takeH (i := 30) (v := (.agg #[.string ⟨#[32]⟩, .int .i64 1, .bool false])) rfl (by kernel_rfl) (by kernel_rfl) (by kernel_rfl) (fun _ _ _ h => h) (Or.inl ⟨by rfl, ?hy269⟩) (by assumption) ?rest269
                case hy269 => (intro w hSw; (try dsimp only at hSw); obtain ⟨y0, y1, y2⟩ := HXC.out _ hSw; go_simp; first | done | rfl)
                case rest269 =>
                try simp only [Act.put, List.setIfInBounds_toArray, List.set_cons_zero, List.set_cons_succ]
                refine wpAnyH_ready (rs := [31]) (by kernel_rfl) (by simp) ?_
                refine consH rfl (fun K hK => ?_) AllReadyH.nil
                go_simp
                go_at_call 25
                with_reducible refine (blank2_calls _).mono ?_
                rintro _ wq ⟨rfl, hb2⟩
                have hHd2 : (fun w' : World => RowAt w' r (lineW E C k i)) wq := RowAt.below hHd hb2
                have hBd2 := hBd.trans (hb2.mono hBd.size)
                clear hb2 hHd hBd
                have hHd := hHd2
                have hBd := hBd2
                clear hHd2 hBd2
                go_simp
                refine hK.out _ _ hHd ?_
                clear hK K
                try simp only [Act.put, List.setIfInBounds_toArray, List.set_cons_zero, List.set_cons_succ]
                refine takeH (i := 32) (v := (.bool false)) rfl (by kernel_rfl) (by kernel_rfl) (by kernel_rfl) (fun _ _ _ h => h) (Or.inl ⟨by rfl, ?hy270⟩) (by assumption) ?rest270
                case hy270 => (intro w hSw; (try dsimp only at hSw); go_simp; first | done | rfl | simp)
                case rest270 =>
                try simp only [Act.put, List.setIfInBounds_toArray, List.set_cons_zero, List.set_cons_succ]
                refine takeH (i := 33) (v := (.bool false)) rfl (by kernel_rfl) (by kernel_rfl) (by kernel_rfl) (fun _ _ _ h => h) (Or.inl ⟨by rfl, ?hy271⟩) (by assumption) ?rest271
                case hy271 => (intro w hSw; (try dsimp only at hSw); go_simp; first | done | rfl | omega | (rw [Int.tmod_eq_emod_of_nonneg (by omega)]; first | done | rfl | omega) | (congr 1; omega) | (simp; omega))
                case rest271 =>
                try simp only [Act.put, List.setIfInBounds_toArray, List.set_cons_zero, List.set_cons_succ]
                refine takeH (i := 34) (v := (.bool false)) rfl (by kernel_rfl) (by kernel_rfl) (by kernel_rfl) (fun _ _ _ h => h) (Or.inl ⟨by rfl, ?hy272⟩) (by assumption) ?rest272
                case hy272 => (intro w hSw; (try dsimp only at hSw); go_simp; first | done | rfl | omega | (rw [Int.tmod_eq_emod_of_nonneg (by omega)]; first | done | rfl | omega) | (congr 1; omega) | (simp; omega))
                case rest272 =>
                try simp only [Act.put, List.setIfInBounds_toArray, List.set_cons_zero, List.set_cons_succ]
                refine wpAnyH_done (by kernel_rfl) ?_ _
                refine hKQ _ _ ?_
                have HBz := Hd.mk (HB5.out.trans (hBd.mono HB5.out.size))
                clear hHd hBd HB5 HXA HXB HXC
                go_wp2
                go_roundg d2
                case measure => omega
                case rel => exact ⟨j + 1, by simp, ⟨by omega⟩, HBz⟩
              · have XG := Hd.mk (gone_none H5.out.ta.t K3.out.ok (by omega) (k := i) (by omega) (by omega))
                have o1 : decide ((s.off : Int) ≤ (i : Int)) = true := decide_eq_true (by omega)
                have o2 : decide (s.off ≤ i) = true := decide_eq_true (by omega)
                have o3 : (s.off : Int) ≤ (i : Int) := by omega
                have hmr := HSC.out.more
                have hrr := HSC.out.row
                have hir : i - s.off < R := by omega
                have o4 : (i : Int) - (s.off : Int) = ((i - s.off : Nat) : Int) := by omega
                have o5 : (0 : Int) ≤ (s.off : Int) := Int.natCast_nonneg _
                go_wp2_with fail
                go_wp2_with fail
                go_at_call 22
                with_reducible refine XG.out.mono ?_
                rintro _ w5 ⟨rfl, hb⟩
                have HB5 := Hd.mk (HB.out.trans (hb.mono HB.out.size))
                have H6 := Hd.mk (H5.out.to hb)
                clear XG hb HB H5
                have XR := Hd.mk (row_at H6.out.ta.t K3.out.ok (k := i - s.off) (by rw [HSC.out.len]; exact hir))
                rw [HSC.out.rows _ hir, show s.off + (i - s.off) = i by omega, HSC.out.cols] at XR
                clear hmr hrr hir
                go_wp2_with fail
                go_wp2_with fail
                go_at_call 14
                with_reducible refine XR.out.mono ?_
                rintro _ w6 ⟨r, rfl, hrn, hrg, hr, hb⟩
                have HB6 := Hd.mk (HB5.out.trans (hb.mono HB5.out.size))
                have HR := Hd.mk hr
                clear XR hrg hr hb HB5 H6
                have HXA := Hd.mk (HXA.out r)
                have HXB := Hd.mk (HXB.out r)
                have HXC := Hd.mk (HXC.out r)
                unfold RR.v
                rw [hrn]
                go_upto_region 20 with fail
                rename_i KQ hKQ
                refine regionH (fun w' : World => RowAt w' r (lineW E C k i)) (by kernel_rfl) (fun wd hb => ?_)
                have hHd : (fun w' : World => RowAt w' r (lineW E C k i)) wd := RowAt.below HR.out hb
                have hBd := hb
                clear hb HR
                refine takeH (i := 0) (v := ?v273) rfl (by kernel_rfl) (by kernel_rfl) (by kernel_rfl) (fun _ _ _ h => h) (Or.inl ⟨by rfl, ?hy273⟩) (by assumption) ?rest273
                case hy273 => (intro w hSw; (try dsimp only at hSw); go_simp; try (with_reducible rfl))
                case rest273 =>
                try simp only [Act.put, List.setIfInBounds_toArray, List.set_cons_zero, List.set_cons_succ]
                refine takeH (i := 1) (v := ?v274) rfl (by kernel_rfl) (by kernel_rfl) (by kernel_rfl) (fun _ _ _ h => h) (Or.inl ⟨by rfl, ?hy274⟩) (by assumption) ?rest274
                case hy274 => (intro w hSw; (try dsimp only at hSw); go_simp; try (with_reducible rfl))
                case rest274 =>
                try simp only [Act.put, List.setIfInBounds_toArray, List.set_cons_zero, List.set_cons_succ]
                refine takeH (i := 2) (v := ?v275) rfl (by kernel_rfl) (by kernel_rfl) (by kernel_rfl) (fun _ _ _ h => h) (Or.inl ⟨by rfl, ?hy275⟩) (by assumption) ?rest275
                case hy275 => (intro w hSw; (try dsimp only at hSw); go_simp; try (with_reducible rfl))
                case rest275 =>
                try simp only [Act.put, List.setIfInBounds_toArray, List.set_cons_zero, List.set_cons_succ]
                refine takeH (i := 3) (v := (.bool false)) rfl (by kernel_rfl) (by kernel_rfl) (by kernel_rfl) (fun _ _ _ h => h) (Or.inl ⟨by rfl, ?hy276⟩) (by assumption) ?rest276
                case hy276 => (intro w hSw; (try dsimp only at hSw); go_simp; first | done | rfl | omega | (rw [Int.tmod_eq_emod_of_nonneg (by omega)]; first | done | rfl | omega) | (congr 1; omega) | (simp; omega))
                case rest276 =>
                try simp only [Act.put, List.setIfInBounds_toArray, List.set_cons_zero, List.set_cons_succ]
                refine takeH (i := 4) (v := ?v277) rfl (by kernel_rfl) (by kernel_rfl) (by kernel_rfl) (fun _ _ _ h => h) (Or.inl ⟨by rfl, ?hy277⟩) (by assumption) ?rest277
                case hy277 => (intro w hSw; (try dsimp only at hSw); go_simp; try (with_reducible rfl))
                case rest277 =>
                try simp only [Act.put, List.setIfInBounds_toArray, List.set_cons_zero, List.set_cons_succ]
                refine takeH (i := 5) (v := ?v278) rfl (by kernel_rfl) (by kernel_rfl) (by kernel_rfl) (fun _ _ _ h => h) (Or.inl ⟨by rfl, ?hy278⟩) (by assumption) ?rest278
                case hy278 => (intro w hSw; (try dsimp only at hSw); go_simp; try (with_reducible rfl))
                case rest278 =>
                try simp only [Act.put, List.setIfInBounds_toArray, List.set_cons_zero, List.set_cons_succ]
                refine takeH (i := 6) (v := ?v279) rfl (by kernel_rfl) (by kernel_rfl) (by kernel_rfl) (fun _ _ _ h => h) (Or.inl ⟨by rfl, ?hy279⟩) (by assumption) ?rest279
                case hy279 => (intro w hSw; (try dsimp only at hSw); go_simp; try (with_reducible rfl))
                case rest279 =>
                try simp only [Act.put, List.setIfInBounds_toArray, List.set_cons_zero, List.set_cons_succ]
                refine takeH (i := 7) (v := ?v280) rfl (by kernel_rfl) (by kernel_rfl) (by kernel_rfl) (fun _ _ _ h => h) (Or.inl ⟨by rfl, ?hy280⟩) (by assumption) ?rest280
                case hy280 => (intro w hSw; (try dsimp only at hSw); go_simp; try (with_reducible rfl))
                case rest280 =>
                try simp only [Act.put, List.setIfInBounds_toArray, List.set_cons_zero, List.set_cons_succ]
                refine takeH (i := 8) (v := (.agg #[.string ⟨#[228, 184, 173]⟩, .int .i64 2, .bool false])) rfl (by kernel_rfl) (by kernel_rfl) (by kernel_rfl) (fun _ _ _ h => h) (Or.inl ⟨by rfl, ?hy281⟩) (by assumption) ?rest281
                case hy281 => (intro w hSw; (try dsimp only at hSw); obtain ⟨y0, y1, y2⟩ := HXA.out _ hSw; go_simp; first | done | rfl)
                case rest281 =>
                try simp only [Act.put, List.setIfInBounds_toArray, List.set_cons_zero, List.set_cons_succ]
                refine takeH (i := 9) (v := ?v282) rfl (by kernel_rfl) (by kernel_rfl) (by kernel_rfl) (fun _ _ _ h => h) (Or.inl ⟨by rfl, ?hy282⟩) (by assumption) ?rest282
                case hy282 => (intro w hSw; (try dsimp only at hSw); go_simp; try (with_reducible rfl))
                case rest282 =>
                try simp only [Act.put, List.setIfInBounds_toArray, List.set_cons_zero, List.set_cons_succ]
                refine takeH (i := 10) (v := (.bool false)) rfl (by kernel_rfl) (by kernel_rfl) (by kernel_rfl) (fun _ _ _ h => h) (Or.inl ⟨by rfl, ?hy283⟩) (by assumption) ?rest283
                case hy283 => (intro w hSw; (try dsimp only at hSw); go_simp; first | done | rfl | simp)
                case rest283 =>
                try simp only [Act.put, List.setIfInBounds_toArray, List.set_cons_zero, List.set_cons_succ]
                refine takeH (i := 11) (v := (.bool false)) rfl (by kernel_rfl) (by kernel_rfl) (by kernel_rfl) (fun _ _ _ h => h) (Or.inl ⟨by rfl, ?hy284⟩) (by assumption) ?rest284
                case hy284 => (intro w hSw; (try dsimp only at hSw); go_simp; first | done | rfl | omega | (rw [Int.tmod_eq_emod_of_nonneg (by omega)]; first | done | rfl | omega) | (congr 1; omega) | (simp; omega))
                case rest284 =>
                try simp only [Act.put, List.setIfInBounds_toArray, List.set_cons_zero, List.set_cons_succ]
                refine takeH (i := 12) (v := ?v285) rfl (by kernel_rfl) (by kernel_rfl) (by kernel_rfl) (fun _ _ _ h => h) (Or.inl ⟨by rfl, ?hy285⟩) (by assumption) ?rest285
                case hy285 => (intro w hSw; (try dsimp only at hSw); go_simp; try (with_reducible rfl))
                case rest285 =>
                try simp only [Act.put, List.setIfInBounds_toArray, List.set_cons_zero, List.set_cons_succ]
                refine takeH (i := 13) (v := ?v286) rfl (by kernel_rfl) (by kernel_rfl) (by kernel_rfl) (fun _ _ _ h => h) (Or.inl ⟨by rfl, ?hy286⟩) (by assumption) ?rest286
                case hy286 => (intro w hSw; (try dsimp only at hSw); go_simp; try (with_reducible rfl))
                case rest286 =>
                try simp only [Act.put, List.setIfInBounds_toArray, List.set_cons_zero, List.set_cons_succ]
                refine takeH (i := 14) (v := ?v287) rfl (by kernel_rfl) (by kernel_rfl) (by kernel_rfl) (fun _ _ _ h => h) (Or.inl ⟨by rfl, ?hy287⟩) (by assumption) ?rest287
                case hy287 => (intro w hSw; (try dsimp only at hSw); go_simp; try (with_reducible rfl))
                case rest287 =>
                try simp only [Act.put, List.setIfInBounds_toArray, List.set_cons_zero, List.set_cons_succ]
                refine takeH (i := 15) (v := (.int .i64 (pp : Int))) rfl (by kernel_rfl) (by kernel_rfl) (by kernel_rfl) (fun _ _ _ h => h) (Or.inl ⟨by rfl, ?hy288⟩) (by assumption) ?rest288
                case hy288 => (intro w hSw; (try dsimp only at hSw); go_simp; first | done | rfl | (congr 1; (try rw [IntKind.wrap_i64]); omega) | (rw [IntKind.wrap_i64]; congr 3; omega) | (simp; omega))
                case rest288 =>
                try simp only [Act.put, List.setIfInBounds_toArray, List.set_cons_zero, List.set_cons_succ]
                refine takeH (i := 16) (v := ?v289) rfl (by kernel_rfl) (by kernel_rfl) (by kernel_rfl) (fun _ _ _ h => h) (Or.inl ⟨by rfl, ?hy289⟩) (by assumption) ?rest289
                case hy289 => (intro w hSw; (try dsimp only at hSw); go_simp; try (with_reducible rfl))
                case rest289 =>
                try simp only [Act.put, List.setIfInBounds_toArray, List.set_cons_zero, List.set_cons_succ]
                refine takeH (i := 17) (v := (.agg #[.string ⟨#[]⟩, .int .i64 0, .bool false])) rfl (by kernel_rfl) (by kernel_rfl) (by kernel_rfl) (fun _ _ _ h => h) (Or.inl ⟨by rfl, ?hy290⟩) (by assumption) ?rest290
                case hy290 => (intro w hSw; (try dsimp only at hSw); obtain ⟨y0, y1, y2⟩ := HXB.out _ hSw; go_simp; first | done | rfl)
                case rest290 =>
                try simp only [Act.put, List.setIfInBounds_toArray, List.set_cons_zero, List.set_cons_succ]
                refine takeH (i := 18) (v := (.agg #[.string ⟨#[]⟩, .int .i64 0, .bool false])) rfl (by kernel_rfl) (by kernel_rfl) (by kernel_rfl) (fun _ _ _ h => h) (Or.inl ⟨by rfl, ?hy291⟩) (by assumption) ?rest291
                case hy291 => (intro w hSw; (try dsimp only at hSw); go_simp; first | done | rfl)
                case rest291 =>
                try simp only [Act.put, List.setIfInBounds_toArray, List.set_cons_zero, List.set_cons_succ]
                refine takeH (i := 19) (v := (.bool false)) rfl (by kernel_rfl) (by kernel_rfl) (by kernel_rfl) (fun _ _ _ h => h) (Or.inl ⟨by rfl, ?hy292⟩) (by assumption) ?rest292
                case hy292 => (intro w hSw; (try dsimp only at hSw); go_simp; first | done | rfl | simp)
                case rest292 =>
                try simp only [Act.put, List.setIfInBounds_toArray, List.set_cons_zero, List.set_cons_succ]
                refine takeH (i := 20) (v := (.bool false)) rfl (by kernel_rfl) (by kernel_rfl) (by kernel_rfl) (fun _ _ _ h => h) (Or.inl ⟨by rfl, ?hy293⟩) (by assumption) ?rest293
                case hy293 => (intro w hSw; (try dsimp only at hSw); go_simp; first | done | rfl | omega | (rw [Int.tmod_eq_emod_of_nonneg (by omega)]; first | done | rfl | omega) | (congr 1; omega) | (simp; omega))
                case rest293 =>
                try simp only [Act.put, List.setIfInBounds_toArray, List.set_cons_zero, List.set_cons_succ]
                refine takeH (i := 21) (v := ?v294) rfl (by kernel_rfl) (by kernel_rfl) (by kernel_rfl) (fun _ _ _ h => h) (Or.inl ⟨by rfl, ?hy294⟩) (by assumption) ?rest294
                case hy294 => (intro w hSw; (try dsimp only at hSw); go_simp; try (with_reducible rfl))
                case rest294 =>
                try simp only [Act.put, List.setIfInBounds_toArray, List.set_cons_zero, List.set_cons_succ]
                refine takeH (i := 22) (v := ?v295) rfl (by kernel_rfl) (by kernel_rfl) (by kernel_rfl) (fun _ _ _ h => h) (Or.inl ⟨by rfl, ?hy295⟩) (by assumption) ?rest295
                case hy295 => (intro w hSw; (try dsimp only at hSw); go_simp; try (with_reducible rfl))
                case rest295 =>
                try simp only [Act.put, List.setIfInBounds_toArray, List.set_cons_zero, List.set_cons_succ]
                refine takeH (i := 23) (v := (.int .i64 1)) rfl (by kernel_rfl) (by kernel_rfl) (by kernel_rfl) (fun _ _ _ h => h) (Or.inl ⟨by rfl, ?hy296⟩) (by assumption) ?rest296
                case hy296 => (intro w hSw; (try dsimp only at hSw); go_simp; first | done | rfl | omega | (rw [Int.tmod_eq_emod_of_nonneg (by omega)]; first | done | rfl | omega) | (congr 1; omega) | (simp; omega))
                case rest296 =>
                try simp only [Act.put, List.setIfInBounds_toArray, List.set_cons_zero, List.set_cons_succ]
                refine takeH (i := 24) (v := (.bool true)) rfl (by kernel_rfl) (by kernel_rfl) (by kernel_rfl) (fun _ _ _ h => h) (Or.inl ⟨by rfl, ?hy297⟩) (by assumption) ?rest297
                case hy297 => (intro w hSw; (try dsimp only at hSw); go_simp; first | done | rfl | omega | (rw [Int.tmod_eq_emod_of_nonneg (by omega)]; first | done | rfl | omega) | (congr 1; omega) | (simp; omega))
                case rest297 =>
                try simp only [Act.put, List.setIfInBounds_toArray, List.set_cons_zero, List.set_cons_succ]
                refine takeH (i := 25) (v := ?v298) rfl (by kernel_rfl) (by kernel_rfl) (by kernel_rfl) (fun _ _ _ h => h) (Or.inl ⟨by rfl, ?hy298⟩) (by assumption) ?rest298
                case hy298 => (intro w hSw; (try dsimp only at hSw); go_simp; try (with_reducible rfl))
                case rest298 =>
                try simp only [Act.put, List.setIfInBounds_toArray, List.set_cons_zero, List.set_cons_succ]
                refine takeH (i := 26) (v := ?v299) rfl (by kernel_rfl) (by kernel_rfl) (by kernel_rfl) (fun _ _ _ h => h) (Or.inl ⟨by rfl, ?hy299⟩) (by assumption) ?rest299
                case hy299 => (intro w hSw; (try dsimp only at hSw); go_simp; try (with_reducible rfl))
                case rest299 =>
                try simp only [Act.put, List.setIfInBounds_toArray, List.set_cons_zero, List.set_cons_succ]
                refine takeH (i := 27) (v := ?v300) rfl (by kernel_rfl) (by kernel_rfl) (by kernel_rfl) (fun _ _ _ h => h) (Or.inl ⟨by rfl, ?hy300⟩) (by assumption) ?rest300
                case hy300 => (intro w hSw; (try dsimp only at hSw); go_simp; try (with_reducible rfl))
                case rest300 =>
                try simp only [Act.put, List.setIfInBounds_toArray, List.set_cons_zero, List.set_cons_succ]
                refine takeH (i := 28) (v := (.int .i64 (D : Int))) rfl (by kernel_rfl) (by kernel_rfl) (by kernel_rfl) (fun _ _ _ h => h) (Or.inl ⟨by rfl, ?hy301⟩) (by assumption) ?rest301
                case hy301 => (intro w hSw; (try dsimp only at hSw); go_simp; first | done | rfl | (congr 1; (try rw [IntKind.wrap_i64]); omega) | (rw [IntKind.wrap_i64]; congr 3; omega) | (simp; omega))
                case rest301 =>
                try simp only [Act.put, List.setIfInBounds_toArray, List.set_cons_zero, List.set_cons_succ]
                refine takeH (i := 29) (v := ?v302) rfl (by kernel_rfl) (by kernel_rfl) (by kernel_rfl) (fun _ _ _ h => h) (Or.inl ⟨by rfl, ?hy302⟩) (by assumption) ?rest302
                case hy302 => (intro w hSw; (try dsimp only at hSw); go_simp; try (with_reducible rfl))
                case rest302 =>
                try simp only [Act.put, List.setIfInBounds_toArray, List.set_cons_zero, List.set_cons_succ]
                refine takeH (i := 30) (v := (.agg #[.string ⟨#[32]⟩, .int .i64 1, .bool false])) rfl (by kernel_rfl) (by kernel_rfl) (by kernel_rfl) (fun _ _ _ h => h) (Or.inl ⟨by rfl, ?hy303⟩) (by assumption) ?rest303
                case hy303 => (intro w hSw; (try dsimp only at hSw); obtain ⟨y0, y1, y2⟩ := HXC.out _ hSw; go_simp; first | done | rfl)
                case rest303 =>
                try simp only [Act.put, List.setIfInBounds_toArray, List.set_cons_zero, List.set_cons_succ]
                refine wpAnyH_ready (rs := [31]) (by kernel_rfl) (by simp) ?_
                refine consH rfl (fun K hK => ?_) AllReadyH.nil
                go_simp
                go_at_call 25
                with_reducible refine (blank2_calls _).mono ?_
                rintro _ wq ⟨rfl, hb2⟩
                have hHd2 : (fun w' : World => RowAt w' r (lineW E C k i)) wq := RowAt.below hHd hb2
                have hBd2 := hBd.trans (hb2.mono hBd.size)
                clear hb2 hHd hBd
                have hHd := hHd2
                have hBd := hBd2
                clear hHd2 hBd2
                go_simp
                refine hK.out _ _ hHd ?_
                clear hK K
                try simp only [Act.put, List.setIfInBounds_toArray, List.set_cons_zero, List.set_cons_succ]
                refine takeH (i := 32) (v := (.bool false)) rfl (by kernel_rfl) (by kernel_rfl) (by kernel_rfl) (fun _ _ _ h => h) (Or.inl ⟨by rfl, ?hy304⟩) (by assumption) ?rest304
                case hy304 => (intro w hSw; (try dsimp only at hSw); go_simp; first | done | rfl | simp)
                case rest304 =>
                try simp only [Act.put, List.setIfInBounds_toArray, List.set_cons_zero, List.set_cons_succ]
                refine takeH (i := 33) (v := (.bool false)) rfl (by kernel_rfl) (by kernel_rfl) (by kernel_rfl) (fun _ _ _ h => h) (Or.inl ⟨by rfl, ?hy305⟩) (by assumption) ?rest305
                case hy305 => (intro w hSw; (try dsimp only at hSw); go_simp; first | done | rfl | omega | (rw [Int.tmod_eq_emod_of_nonneg (by omega)]; first | done | rfl | omega) | (congr 1; omega) | (simp; omega))
                case rest305 =>
                try simp only [Act.put, List.setIfInBounds_toArray, List.set_cons_zero, List.set_cons_succ]
                refine takeH (i := 34) (v := (.bool false)) rfl (by kernel_rfl) (by kernel_rfl) (by kernel_rfl) (fun _ _ _ h => h) (Or.inl ⟨by rfl, ?hy306⟩) (by assumption) ?rest306
                case hy306 => (intro w hSw; (try dsimp only at hSw); go_simp; first | done | rfl | omega | (rw [Int.tmod_eq_emod_of_nonneg (by omega)]; first | done | rfl | omega) | (congr 1; omega) | (simp; omega))
                case rest306 =>
                try simp only [Act.put, List.setIfInBounds_toArray, List.set_cons_zero, List.set_cons_succ]
                refine wpAnyH_done (by kernel_rfl) ?_ _
                refine hKQ _ _ ?_
                have HBz := Hd.mk (HB6.out.trans (hBd.mono HB6.out.size))
                clear hHd hBd HB6 HXA HXB HXC
                go_wp2
                go_roundg d2
                case measure => omega
                case rel => exact ⟨j + 1, by simp, ⟨by omega⟩, HBz⟩
            · have m1 : decide ((j : Int) < (k : Int)) = false := decide_eq_false (by omega)
              have m2 : decide (j < k) = false := decide_eq_false (by omega)
              clear HB H4
              go_wp2_with fail
              have XA := Hd.mk (alive_calls wr (HT.out.below H5.out.bl))
              go_wp2_with fail
              go_at_call 11
              with_reducible refine XA.out.mono ?_
              rintro _ w7 ⟨rfl, hb⟩
              have H8 := Hd.mk (H5.out.to hb)
              clear XA hb H5
              go_wp2_with fail
              go_ret
              exact ⟨rfl, H8.out.bl⟩
theorem wides_walk (a b n : Int) (w : World) (hT : TabsT w) : Calls Tryz.prog 9 #[.int .i64 a, .int .i64 b, .int .i64 n] w fun e w' => e = .returned (.bool true) ∧ Below w.heap.size w w' := by
  by_cases h : 1 ≤ n ∧ n ≤ 200 ∧ 1 ≤ a ∧ a ≤ 60 ∧ 2 ≤ b ∧ b ≤ 120
  · obtain ⟨N, rfl⟩ : ∃ N : Nat, n = N := ⟨n.toNat, by omega⟩
    obtain ⟨R, rfl⟩ : ∃ R : Nat, a = R := ⟨a.toNat, by omega⟩
    obtain ⟨C, rfl⟩ : ∃ C : Nat, b = C := ⟨b.toNat, by omega⟩
    exact wides_good R C (C / 2) N w hT (by omega) (by omega) (by omega) (by omega) (by omega) (by omega) rfl
  · exact wides_bad a b n w hT h
end Go.Proofs.YtgifpkjcggnhgaaGreatDoorL

