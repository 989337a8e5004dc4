/- Parts of the proof of the law that the last file states; declarations that nothing mentions are left out by a program. No conditions. -/
import Derived.Test.YtgifpkjcggnhgaaGreatDoorLTermSzq
set_option linter.unusedVariables false
set_option linter.unusedSimpArgs false
namespace Go.Proofs.YtgifpkjcggnhgaaGreatDoorL
open Go Go.RowKit Go.Proofs.YtgifpkjcggnhgaaGreatDoorW.PrintWords
theorem lines_q {C k q : Nat} (hC : 1 ≤ C) (hk : 1 ≤ k) (hq : (if 0 < k ∧ k % C = 0 then k / C - 1 else k / C) = q) : (k + C - 1) / C = q + 1 := by
  have hd := Nat.div_add_mod k C
  have hm := Nat.mod_lt k (show 0 < C by omega)
  have hC0 : 0 < C := by omega
  by_cases h : 0 < k ∧ k % C = 0
  · rw [if_pos h] at hq
    have h1 : 1 ≤ k / C := by
      rcases Nat.eq_zero_or_pos (k / C) with e | e
      · rw [e] at hd
        omega
      · exact e
    rw [show k + C - 1 = (C - 1) + C * (k / C) by omega, Nat.add_mul_div_left _ _ hC0, Nat.div_eq_of_lt (by omega)]
    omega
  · rw [if_neg h] at hq
    rw [show k + C - 1 = (k % C - 1) + C * (k / C + 1) by rw [Nat.mul_add, Nat.mul_one]; omega, Nat.add_mul_div_left _ _ hC0, Nat.div_eq_of_lt (by omega)]
    omega
set_option maxRecDepth 100000 in
theorem letC_cell (k : Nat) : (letC k).S = Utf8.encode (97 + (k : Int) % 26) ∧ ((letC k).wide : Int) = 1 ∧ (letC k).dim = false := by
  have e : (letR k : Int) = 97 + (k : Int) % 26 := by unfold letR; omega
  have e1 : letC k = ⟨Utf8.encode (letR k : Int), 1, false⟩ := rfl
  rw [e1, e]
  exact ⟨by dsimp only, by dsimp only; rfl, by dsimp only⟩
theorem div_le_q {C k q i j : Nat} (hC : 1 ≤ C) (hj : j < k) (hq : (if 0 < k ∧ k % C = 0 then k / C - 1 else k / C) = q) (hi : j / C = i) : i ≤ q := by
  have h1 : j / C ≤ (k - 1) / C := Nat.div_le_div_right (by omega)
  have hd := Nat.div_add_mod k C
  have hm := Nat.mod_lt k (show 0 < C by omega)
  have hC0 : 0 < C := by omega
  by_cases h : 0 < k ∧ k % C = 0
  · rw [if_pos h] at hq
    have h2 : 1 ≤ k / C := by
      rcases Nat.eq_zero_or_pos (k / C) with e | e
      · rw [e] at hd
        omega
      · exact e
    have e : C * (k / C) = C * (k / C - 1) + C := by rw [← Nat.mul_succ]; congr 1; omega
    have h3 : (k - 1) / C = k / C - 1 := by
      rw [show k - 1 = (C - 1) + C * (k / C - 1) by omega, Nat.add_mul_div_left _ _ hC0, Nat.div_eq_of_lt (by omega)]
      omega
    omega
  · rw [if_neg h] at hq
    have h3 : (k - 1) / C ≤ k / C := Nat.div_le_div_right (by omega)
    omega
set_option maxRecDepth 100000 in
set_option maxHeartbeats 4000000 in
theorem letters_bad (a b n : Int) (w : World) (hT : TabsT w) (hbad : ¬ (1 ≤ n ∧ n ≤ 400 ∧ 1 ≤ a ∧ a ≤ 60 ∧ 1 ≤ b ∧ b ≤ 120)) :
    Calls Tryz.prog 5 #[.int .i64 a, .int .i64 b, .int .i64 n] w fun e w' => e = .returned (.bool true) ∧ Below w.heap.size w w' := by
  have HT := Hd.mk hT
  have X0 := Hd.mk (new_ta a b w)
  have HBAD := Hd.mk hbad
  clear hT hbad
  go_enter Tryz.func5, Tryz.ntmps5
  go_wp2_with fail
  go_at_call 16
  with_reducible refine X0.out.mono ?_
  rintro _ w1 ⟨T, rfl, ⟨F1, hta, hF⟩, hb⟩
  have HB := Hd.mk hb
  have XA := Hd.mk (alive_calls w1 (HT.out.below hb))
  clear hta hF hb X0
  by_cases c0 : n < 1
  · have d0 : decide (n < 1) = true := decide_eq_true c0
    go_wp2_with fail
    go_at_call 11
    with_reducible refine XA.out.mono ?_
    rintro _ w3 ⟨rfl, hb⟩
    have HB2 := Hd.mk (HB.out.trans (hb.mono HB.out.size))
    clear hb XA HB
    go_wp2_with fail
    go_ret
    exact ⟨rfl, HB2.out⟩
  have d0 : decide (n < 1) = false := decide_eq_false c0
  by_cases c1 : 400 < n
  · have d1 : decide (400 < n) = true := decide_eq_true c1
    go_wp2_with fail
    go_at_call 11
    with_reducible refine XA.out.mono ?_
    rintro _ w3 ⟨rfl, hb⟩
    have HB2 := Hd.mk (HB.out.trans (hb.mono HB.out.size))
    clear hb XA HB
    go_wp2_with fail
    go_ret
    exact ⟨rfl, HB2.out⟩
  have d1 : decide (400 < n) = false := decide_eq_false c1
  by_cases c2 : a < 1
  · have d2 : decide (a < 1) = true := decide_eq_true c2
    go_wp2_with fail
    go_at_call 11
    with_reducible refine XA.out.mono ?_
    rintro _ w3 ⟨rfl, hb⟩
    have HB2 := Hd.mk (HB.out.trans (hb.mono HB.out.size))
    clear hb XA HB
    go_wp2_with fail
    go_ret
    exact ⟨rfl, HB2.out⟩
  have d2 : decide (a < 1) = false := decide_eq_false c2
  by_cases c3 : 60 < a
  · have d3 : decide (60 < a) = true := decide_eq_true c3
    go_wp2_with fail
    go_at_call 11
    with_reducible refine XA.out.mono ?_
    rintro _ w3 ⟨rfl, hb⟩
    have HB2 := Hd.mk (HB.out.trans (hb.mono HB.out.size))
    clear hb XA HB
    go_wp2_with fail
    go_ret
    exact ⟨rfl, HB2.out⟩
  have d3 : decide (60 < a) = false := decide_eq_false c3
  by_cases c4 : b < 1
  · have d4 : decide (b < 1) = true := decide_eq_true c4
    go_wp2_with fail
    go_at_call 11
    with_reducible refine XA.out.mono ?_
    rintro _ w3 ⟨rfl, hb⟩
    have HB2 := Hd.mk (HB.out.trans (hb.mono HB.out.size))
    clear hb XA HB
    go_wp2_with fail
    go_ret
    exact ⟨rfl, HB2.out⟩
  have d4 : decide (b < 1) = false := decide_eq_false c4
  by_cases c5 : 120 < b
  · have d5 : decide (120 < b) = true := decide_eq_true c5
    go_wp2_with fail
    go_at_call 11
    with_reducible refine XA.out.mono ?_
    rintro _ w3 ⟨rfl, hb⟩
    have HB2 := Hd.mk (HB.out.trans (hb.mono HB.out.size))
    clear hb XA HB
    go_wp2_with fail
    go_ret
    exact ⟨rfl, HB2.out⟩
  have d5 : decide (120 < b) = false := decide_eq_false c5
  exact absurd (show 1 ≤ n ∧ n ≤ 400 ∧ 1 ≤ a ∧ a ≤ 60 ∧ 1 ≤ b ∧ b ≤ 120 by omega) HBAD.out
set_option maxRecDepth 100000 in
set_option maxHeartbeats 4000000 in
theorem letters_good (R C n : Nat) (w : World) (hT : TabsT w) (hn1 : 1 ≤ n) (hn2 : n ≤ 400) (hR1 : 1 ≤ R) (hR2 : R ≤ 60) (hC1 : 1 ≤ C) (hC2 : C ≤ 120) :
    Calls Tryz.prog 5 #[.int .i64 (R : Int), .int .i64 (C : Int), .int .i64 (n : Int)] w fun e w' => e = .returned (.bool true) ∧ Below w.heap.size w w' := by
  have HT := Hd.mk hT
  have X0 := Hd.mk (new_ta R C w)
  have K1 := Hd.mk (TK.new R C)
  have L1 := Hd.mk (newT_let R C hR1 hR2 hC1 hC2)
  have I1 : Hd ((newT (R : Int) (C : Int)).inn = 0 ∧ (newT (R : Int) (C : Int)).b = []) := ⟨⟨rfl, rfl⟩⟩
  generalize newT (R : Int) (C : Int) = s0 at *
  have i1 : (1 : Int) ≤ (n : Int) := by omega
  have i2 : (n : Int) ≤ 400 := by omega
  have i3 : (1 : Int) ≤ (R : Int) := by omega
  have i4 : (R : Int) ≤ 60 := by omega
  have i5 : (1 : Int) ≤ (C : Int) := by omega
  have i6 : (C : Int) ≤ 120 := by omega
  clear hT
  go_enter Tryz.func5, Tryz.ntmps5
  go_wp2_with fail
  go_at_call 16
  with_reducible refine X0.out.mono ?_
  rintro _ w1 ⟨T, rfl, ⟨F1, hta, hF⟩, hb⟩
  have H1 := Hd.mk (St.new (Below.refl _ w) hta hF hb)
  clear hta hF hb X0
  go_wp2_with fail
  go_loopg [48] n (fun gk vj wx => ∃ (k : Nat) (F : Nat → Prop) (s : Tm), vj = .int .i64 (k : Int) ∧ Hd (k + gk = n) ∧ Hd (St w wx F T s) ∧ Hd (TK (4 + 64 * k) s) ∧ Hd (LetS R C k s ∧ s.inn = 0 ∧ s.b = []))
  case atStart => exact ⟨0, F1, s0, rfl, ⟨by omega⟩, H1, K1, ⟨L1.out, I1.out⟩⟩
  case round =>
    clear K1 H1 L1 I1
    obtain ⟨k, F, s, rfl, HJ, H3, K3, L3⟩ := hrel
    have h1 := HJ.out
    by_cases hlt : k < n
    · obtain ⟨d, rfl⟩ : ∃ d, gk = d + 1 := ⟨gk - 1, by omega⟩
      have hkm : Int.tmod (k : Int) 26 = ((k % 26 : Nat) : Int) := by rw [Int.tmod_eq_emod_of_nonneg (by omega)]; rfl
      have hlr : letR k = 97 + k % 26 := rfl
      have hm26 : k % 26 < 26 := Nat.mod_lt _ (by decide)
      have hx : (UInt8.ofNat (letR k)).toNat = letR k := by rw [UInt8.toNat_ofNat']; omega
      have XF := Hd.mk (feed_lit (n := 1) (c := 1) (l := [UInt8.ofNat (letR k)]) H3.out.ta K3.out rfl (by show 4 + 64 * k + 32 * 1 + 64 ≤ 900000; omega) (HT.out.below H3.out.bl) (H3.out.outT HT.out) (0, 0))
      rw [show (List.map (fun b : UInt8 => Value.int .u8 (b.toNat : Int)) [UInt8.ofNat (letR k)]).toArray = #[.int .u8 (((UInt8.ofNat (letR k)).toNat : Nat) : Int)] from rfl, hx] at XF
      have hfd : s.feed [UInt8.ofNat (letR k)] = s.sign (letR k : Int) := by show s.byte _ = _; rw [byte_let L3.out.2.1 L3.out.2.2 _ (by rw [hx]; omega) (by rw [hx]; omega), hx]
      have K4 : Hd (TK (4 + 64 * (k + 1)) (s.sign (letR k : Int))) := ⟨by rw [← hfd]; exact (K3.out.feed [UInt8.ofNat (letR k)]).mono (by show 4 + 64 * k + 32 * 1 ≤ _; omega)⟩
      have L4 : Hd (LetS R C (k + 1) (s.sign (letR k : Int)) ∧ (s.sign (letR k : Int)).inn = 0 ∧ (s.sign (letR k : Int)).b = []) := ⟨by have h9 := sign_keeps s (letR k : Int); exact ⟨L3.out.1.next hC1 (by omega), h9.1.trans L3.out.2.1, h9.2.2.1.trans L3.out.2.2⟩⟩
      rw [hfd] at XF
      have HA := Hd.mk (H3.out.alloc (.cells #[.int .u8 (letR k : Int)] 5))
      have e97 : (97 : Int) + ((k % 26 : Nat) : Int) = (letR k : Int) := by omega
      have b97 : (letR k : Int) ≤ 122 := by omega
      have c97 : (97 : Int) ≤ (letR k : Int) := by omega
      clear hfd hx hlr H3 K3 L3 hC1 hC2 hR1 hR2
      have l1 : decide ((k : Int) < (n : Int)) = true := decide_eq_true (by omega)
      have l2 : decide (k < n) = true := decide_eq_true hlt
      have l3 : (k : Int) < (n : Int) := by omega
      have l4 : (0 : Int) ≤ (k : Int) := by omega
      have l5 : (k : Int) ≤ 400 := by omega
      go_wp2_with fail
      rw [show (97 : Int) + (k : Int) % 26 = (letR k : Int) by omega]
      go_at_call 17
      with_reducible refine XF.out.mono ?_
      rintro _ w4 ⟨rfl, ht⟩
      obtain ⟨F4, S4, hsub, hon⟩ := St.told HA.out ht
      have H4 := Hd.mk S4
      clear ht S4 hsub hon XF HA
      go_wp2
      go_roundg d
      case measure => omega
      case rel => exact ⟨k + 1, F4, _, by simp, ⟨by omega⟩, H4, K4, L4⟩
    · obtain rfl : k = n := by omega
      have l1 : decide ((k : Int) < (k : Int)) = false := decide_eq_false (by omega)
      have l2 : decide (k < k) = false := decide_eq_false (by omega)
      obtain ⟨q, hq⟩ : ∃ q, (if 0 < k ∧ k % C = 0 then k / C - 1 else k / C) = q := ⟨_, rfl⟩
      have HSC := Hd.mk L3.out.1.scr
      rw [hq] at HSC
      have HFL := Hd.mk L3.out.1.full
      have hln : (k + C - 1) / C = q + 1 := lines_q hC1 hn1 hq
      have HOF := Hd.mk HSC.out.off
      have E1 : ((k : Int) + (C : Int) - 1) / (C : Int) = ((q + 1 : Nat) : Int) := by (have e : ((k + C - 1 : Nat) : Int) = (k : Int) + (C : Int) - 1 := (by omega)); rw [← hln, ← e]; exact (Int.natCast_ediv _ _).symm
      have hqk : q ≤ 400 := by rw [← hq]; have := Nat.div_le_self k C; split <;> omega
      have E2 : max ((q : Int) + 1 - (R : Int)) 0 = (s.off : Int) := by have := HOF.out; omega
      have HQ := Hd.mk hq
      clear hq hln L3
      have hC0 : ¬ C = 0 := by omega
      by_cases hz : k % C = 0
      · have HFU : Hd (s.full = true) := ⟨by rw [HFL.out]; exact decide_eq_true ⟨by omega, hz⟩⟩
        have HZI : Hd ((k : Int) % (C : Int) = 0) := ⟨by rw [← Int.natCast_emod, hz]; rfl⟩
        go_upto_region 11 with fail
        rename_i KQ hKQ
        refine regionH (fun w' : World => St w w' F T s) (by kernel_rfl) (fun wd hb => ?_)
        have hHd : (fun w' : World => St w w' F T s) wd := H3.out.to hb
        clear hb H3
        refine takeH (i := 0) (v := ?v1) rfl (by kernel_rfl) (by kernel_rfl) (by kernel_rfl) (fun _ _ _ h => h) (Or.inl ⟨by rfl, ?hy1⟩) (by assumption) ?rest1
        case hy1 => (intro w hSw; (try dsimp only at hSw); go_simp; try (with_reducible rfl))
        case rest1 =>
        try simp only [Act.put, List.setIfInBounds_toArray, List.set_cons_zero, List.set_cons_succ]
        refine takeH (i := 2) (v := ?v2) rfl (by kernel_rfl) (by kernel_rfl) (by kernel_rfl) (fun _ _ _ h => h) (Or.inl ⟨by rfl, ?hy2⟩) (by assumption) ?rest2
        case hy2 => (intro w hSw; (try dsimp only at hSw); go_simp; try (with_reducible rfl))
        case rest2 =>
        try simp only [Act.put, List.setIfInBounds_toArray, List.set_cons_zero, List.set_cons_succ]
        refine wpAnyH_ready (rs := [1]) (by kernel_rfl) (by simp) ?_
        refine consH rfl (fun K hK => ?_) AllReadyH.nil
        go_simp
        go_at_call 21
        with_reducible refine (off_calls hHd.ta.t).mono ?_
        rintro _ wa ⟨rfl, hb2⟩
        have hHd2 : (fun w' : World => St w w' F T s) wa := St.to hHd hb2
        clear hb2 hHd
        have hHd := hHd2
        clear hHd2
        go_simp
        refine hK.out _ _ hHd ?_
        clear hK K
        try simp only [Act.put, List.setIfInBounds_toArray, List.set_cons_zero, List.set_cons_succ]
        refine takeH (i := 3) (v := (.bool false)) rfl (by kernel_rfl) (by kernel_rfl) (by kernel_rfl) (fun _ _ _ h => h) (Or.inl ⟨by rfl, ?hy3⟩) (by assumption) ?rest3
        case hy3 => (intro w hSw; (try dsimp only at hSw); go_simp; first | done | omega | exact hz | (simp; omega))
        case rest3 =>
        try simp only [Act.put, List.setIfInBounds_toArray, List.set_cons_zero, List.set_cons_succ]
        refine takeH (i := 4) (v := ?v4) rfl (by kernel_rfl) (by kernel_rfl) (by kernel_rfl) (fun _ _ _ h => h) (Or.inl ⟨by rfl, ?hy4⟩) (by assumption) ?rest4
        case hy4 => (intro w hSw; (try dsimp only at hSw); go_simp; try (with_reducible rfl))
        case rest4 =>
        try simp only [Act.put, List.setIfInBounds_toArray, List.set_cons_zero, List.set_cons_succ]
        refine takeH (i := 5) (v := ?v5) rfl (by kernel_rfl) (by kernel_rfl) (by kernel_rfl) (fun _ _ _ h => h) (Or.inl ⟨by rfl, ?hy5⟩) (by assumption) ?rest5
        case hy5 => (intro w hSw; (try dsimp only at hSw); go_simp; try (with_reducible rfl))
        case rest5 =>
        try simp only [Act.put, List.setIfInBounds_toArray, List.set_cons_zero, List.set_cons_succ]
        refine takeH (i := 7) (v := ?v6) rfl (by kernel_rfl) (by kernel_rfl) (by kernel_rfl) (fun _ _ _ h => h) (Or.inl ⟨by rfl, ?hy6⟩) (by assumption) ?rest6
        case hy6 => (intro w hSw; (try dsimp only at hSw); go_simp; try (with_reducible rfl))
        case rest6 =>
        try simp only [Act.put, List.setIfInBounds_toArray, List.set_cons_zero, List.set_cons_succ]
        refine takeH (i := 8) (v := ?v7) rfl (by kernel_rfl) (by kernel_rfl) (by kernel_rfl) (fun _ _ _ h => h) (Or.inl ⟨by rfl, ?hy7⟩) (by assumption) ?rest7
        case hy7 => (intro w hSw; (try dsimp only at hSw); go_simp; try (with_reducible rfl))
        case rest7 =>
        try simp only [Act.put, List.setIfInBounds_toArray, List.set_cons_zero, List.set_cons_succ]
        refine takeH (i := 9) (v := (.int .i64 ((k % C : Nat) : Int))) rfl (by kernel_rfl) (by kernel_rfl) (by kernel_rfl) (fun _ _ _ h => h) (Or.inl ⟨by rfl, ?hy8⟩) (by assumption) ?rest8
        case hy8 => (intro w hSw; (try dsimp only at hSw); go_simp; rw [Int.tmod_eq_emod_of_nonneg (by omega)]; first | done | rfl | exact HZI.out)
        case rest8 =>
        try simp only [Act.put, List.setIfInBounds_toArray, List.set_cons_zero, List.set_cons_succ]
        refine takeH (i := 10) (v := (.bool true)) rfl (by kernel_rfl) (by kernel_rfl) (by kernel_rfl) (fun _ _ _ h => h) (Or.inl ⟨by rfl, ?hy9⟩) (by assumption) ?rest9
        case hy9 => (intro w hSw; (try dsimp only at hSw); go_simp; first | done | omega | exact hz | (simp; omega))
        case rest9 =>
        try simp only [Act.put, List.setIfInBounds_toArray, List.set_cons_zero, List.set_cons_succ]
        refine wpAnyH_ready (rs := [6]) (by kernel_rfl) (by simp) ?_
        refine consH rfl (fun K hK => ?_) AllReadyH.nil
        go_simp
        go_at_call 15
        with_reducible refine (full_calls hHd.ta.t).mono ?_
        rintro _ wb ⟨rfl, hb2⟩
        have hHd2 : (fun w' : World => St w w' F T s) wb := St.to hHd hb2
        clear hb2 hHd
        have hHd := hHd2
        clear hHd2
        go_simp
        refine hK.out _ _ hHd ?_
        clear hK K
        try simp only [Act.put, List.setIfInBounds_toArray, List.set_cons_zero, List.set_cons_succ]
        refine takeH (i := 11) (v := (.bool false)) rfl (by kernel_rfl) (by kernel_rfl) (by kernel_rfl) (fun _ _ _ h => h) (Or.inl ⟨by rfl, ?hy10⟩) (by assumption) ?rest10
        case hy10 => (intro w hSw; (try dsimp only at hSw); first | (rw [HFU.out]; go_simp; done) | (go_simp; rw [HFU.out]; done) | (go_simp; simp [HFU.out]))
        case rest10 =>
        try simp only [Act.put, List.setIfInBounds_toArray, List.set_cons_zero, List.set_cons_succ]
        refine takeH (i := 12) (v := ?v11) rfl (by kernel_rfl) (by kernel_rfl) (by kernel_rfl) (fun _ _ _ h => h) (Or.inl ⟨by rfl, ?hy11⟩) (by assumption) ?rest11
        case hy11 => (intro w hSw; (try dsimp only at hSw); go_simp; try (with_reducible rfl))
        case rest11 =>
        try simp only [Act.put, List.setIfInBounds_toArray, List.set_cons_zero, List.set_cons_succ]
        refine wpAnyH_done (by kernel_rfl) ?_ _
        refine hKQ _ _ ?_
        go_wp2_with fail
        have H4 := Hd.mk (show St w wb F T s from hHd)
        clear hHd HFU HFL
        go_loopg [83] k (fun gk vj wx => ∃ (j : Nat), vj = .int .i64 (j : Int) ∧ Hd (j + gk = k) ∧ Hd (Below wb.heap.size wb wx))
        case atStart => exact ⟨0, rfl, ⟨by omega⟩, ⟨Below.refl _ _⟩⟩
        case round =>
          obtain ⟨j, rfl, HJ2, HB⟩ := hrel
          have h2 := HJ2.out
          have H5 := Hd.mk (H4.out.to HB.out)
          by_cases hlt : j < k
          · obtain ⟨d2, rfl⟩ : ∃ d, gk = d + 1 := ⟨gk - 1, by omega⟩
            have m1 : decide ((j : Int) < (k : Int)) = true := decide_eq_true (by omega)
            have m2 : decide (j < k) = true := decide_eq_true hlt
            have m3 : (j : Int) < (k : Int) := by omega
            have m4 : (0 : Int) ≤ (j : Int) := by omega
            have m5 : (j : Int) ≤ 400 := by omega
            have hjm := Nat.mod_lt j (show 0 < C by omega)
            obtain ⟨i, hi⟩ : ∃ i, j / C = i := ⟨_, rfl⟩
            have hij : i * C + j % C = j := by rw [← hi, Nat.mul_comm]; exact Nat.div_add_mod j C
            have E3 : (j : Int) / (C : Int) = (i : Int) := by rw [← hi]; exact (Int.natCast_ediv _ _).symm
            obtain ⟨m, hm⟩ : ∃ m, j % C = m := ⟨_, rfl⟩
            have E4 : (j : Int) % (C : Int) = (m : Int) := by rw [← hm]; exact (Int.natCast_emod _ _).symm
            rw [hm] at hjm hij
            have hiq : i ≤ q := div_le_q hC1 hlt HQ.out hi
            have hi4 : (i : Int) ≤ 400 := by omega
            have hlj : (letR j : Int) = 97 + (j : Int) % 26 := by unfold letR; omega
            have hm1 : (m : Int) < (C : Int) := by omega
            have hm0 : (0 : Int) ≤ (m : Int) := by omega
            clear hm
            by_cases hoff : i < s.off
            · have XG := Hd.mk (gone_at H5.out.ta.t K3.out.ok (by omega) (k := i) (j := i) (by rw [HSC.out.glen]; exact hoff) (by rw [HSC.out.glen]; omega))
              rw [HSC.out.gone i hoff, lineL_len] at XG
              have o1 : decide ((s.off : Int) ≤ (i : Int)) = false := decide_eq_false (by omega)
              have o2 : decide (s.off ≤ i) = false := decide_eq_false (by omega)
              have o3 : (i : Int) < (s.off : Int) := by omega
              go_wp2_with fail
              go_wp2_with fail
              go_at_call 22
              with_reducible refine XG.out.mono ?_
              rintro _ w5 ⟨r, rfl, hrn, hrg, hr, hb⟩
              have HB5 := Hd.mk (HB.out.trans (hb.mono HB.out.size))
              have HR := Hd.mk hr
              clear XG hrg hr hb HB H5
              unfold RR.v
              rw [hrn]
              have hcell := HR.out.three (k := m) (by rw [lineL_len]; exact hjm)
              rw [lineL_get hjm, hij, if_pos hlt, (letC_cell j).1, (letC_cell j).2.1, (letC_cell j).2.2] at hcell
              obtain ⟨x0, x1, x2⟩ := hcell
              clear hij
              clear HR
              go_wp2
              go_roundg d2
              case measure => omega
              case rel => exact ⟨j + 1, by simp, ⟨by omega⟩, HB5⟩
            · have XG := Hd.mk (gone_none H5.out.ta.t K3.out.ok (by omega) (k := i) (by omega) (by omega))
              have o1 : decide ((s.off : Int) ≤ (i : Int)) = true := decide_eq_true (by omega)
              have o2 : decide (s.off ≤ i) = true := decide_eq_true (by omega)
              have o3 : (s.off : Int) ≤ (i : Int) := by omega
              have hmr := HSC.out.more
              have hrr := HSC.out.row
              have hir : i - s.off < R := by omega
              have o4 : (i : Int) - (s.off : Int) = ((i - s.off : Nat) : Int) := by omega
              have o5 : (0 : Int) ≤ (s.off : Int) := Int.natCast_nonneg _
              go_wp2_with fail
              go_wp2_with fail
              go_at_call 22
              with_reducible refine XG.out.mono ?_
              rintro _ w5 ⟨rfl, hb⟩
              have HB5 := Hd.mk (HB.out.trans (hb.mono HB.out.size))
              have H6 := Hd.mk (H5.out.to hb)
              clear XG hb HB H5
              have XR := Hd.mk (row_at H6.out.ta.t K3.out.ok (k := i - s.off) (by rw [HSC.out.len]; exact hir))
              rw [HSC.out.rows _ hir, show s.off + (i - s.off) = i by omega, HSC.out.cols] at XR
              clear hmr hrr hir
              go_wp2_with fail
              go_wp2_with fail
              go_at_call 14
              with_reducible refine XR.out.mono ?_
              rintro _ w6 ⟨r, rfl, hrn, hrg, hr, hb⟩
              have HB6 := Hd.mk (HB5.out.trans (hb.mono HB5.out.size))
              have HR := Hd.mk hr
              clear XR hrg hr hb HB5 H6
              unfold RR.v
              rw [hrn]
              have hcell := HR.out.three (k := m) (by rw [lineL_len]; exact hjm)
              rw [lineL_get hjm, hij, if_pos hlt, (letC_cell j).1, (letC_cell j).2.1, (letC_cell j).2.2] at hcell
              obtain ⟨x0, x1, x2⟩ := hcell
              clear hij
              clear HR
              go_wp2
              go_roundg d2
              case measure => omega
              case rel => exact ⟨j + 1, by simp, ⟨by omega⟩, HB6⟩
          · have m1 : decide ((j : Int) < (k : Int)) = false := decide_eq_false (by omega)
            have m2 : decide (j < k) = false := decide_eq_false (by omega)
            clear HB H4
            go_wp2_with fail
            have XA := Hd.mk (alive_calls wr (HT.out.below H5.out.bl))
            go_wp2_with fail
            go_at_call 11
            with_reducible refine XA.out.mono ?_
            rintro _ w7 ⟨rfl, hb⟩
            have H8 := Hd.mk (H5.out.to hb)
            clear XA hb H5
            go_wp2_with fail
            go_ret
            exact ⟨rfl, H8.out.bl⟩
      · have HFU : Hd (s.full = false) := ⟨by rw [HFL.out]; exact decide_eq_false (fun h => hz h.2)⟩
        go_upto_region 11 with fail
        rename_i KQ hKQ
        refine regionH (fun w' : World => St w w' F T s) (by kernel_rfl) (fun wd hb => ?_)
        have hHd : (fun w' : World => St w w' F T s) wd := H3.out.to hb
        clear hb H3
        refine takeH (i := 0) (v := ?v12) rfl (by kernel_rfl) (by kernel_rfl) (by kernel_rfl) (fun _ _ _ h => h) (Or.inl ⟨by rfl, ?hy12⟩) (by assumption) ?rest12
        case hy12 => (intro w hSw; (try dsimp only at hSw); go_simp; try (with_reducible rfl))
        case rest12 =>
        try simp only [Act.put, List.setIfInBounds_toArray, List.set_cons_zero, List.set_cons_succ]
        refine takeH (i := 2) (v := ?v13) rfl (by kernel_rfl) (by kernel_rfl) (by kernel_rfl) (fun _ _ _ h => h) (Or.inl ⟨by rfl, ?hy13⟩) (by assumption) ?rest13
        case hy13 => (intro w hSw; (try dsimp only at hSw); go_simp; try (with_reducible rfl))
        case rest13 =>
        try simp only [Act.put, List.setIfInBounds_toArray, List.set_cons_zero, List.set_cons_succ]
        refine wpAnyH_ready (rs := [1]) (by kernel_rfl) (by simp) ?_
        refine consH rfl (fun K hK => ?_) AllReadyH.nil
        go_simp
        go_at_call 21
        with_reducible refine (off_calls hHd.ta.t).mono ?_
        rintro _ wa ⟨rfl, hb2⟩
        have hHd2 : (fun w' : World => St w w' F T s) wa := St.to hHd hb2
        clear hb2 hHd
        have hHd := hHd2
        clear hHd2
        go_simp
        refine hK.out _ _ hHd ?_
        clear hK K
        try simp only [Act.put, List.setIfInBounds_toArray, List.set_cons_zero, List.set_cons_succ]
        refine takeH (i := 3) (v := (.bool false)) rfl (by kernel_rfl) (by kernel_rfl) (by kernel_rfl) (fun _ _ _ h => h) (Or.inl ⟨by rfl, ?hy14⟩) (by assumption) ?rest14
        case hy14 => (intro w hSw; (try dsimp only at hSw); go_simp; first | done | omega | exact hz | (simp; omega))
        case rest14 =>
        try simp only [Act.put, List.setIfInBounds_toArray, List.set_cons_zero, List.set_cons_succ]
        refine takeH (i := 4) (v := ?v15) rfl (by kernel_rfl) (by kernel_rfl) (by kernel_rfl) (fun _ _ _ h => h) (Or.inl ⟨by rfl, ?hy15⟩) (by assumption) ?rest15
        case hy15 => (intro w hSw; (try dsimp only at hSw); go_simp; try (with_reducible rfl))
        case rest15 =>
        try simp only [Act.put, List.setIfInBounds_toArray, List.set_cons_zero, List.set_cons_succ]
        refine takeH (i := 5) (v := ?v16) rfl (by kernel_rfl) (by kernel_rfl) (by kernel_rfl) (fun _ _ _ h => h) (Or.inl ⟨by rfl, ?hy16⟩) (by assumption) ?rest16
        case hy16 => (intro w hSw; (try dsimp only at hSw); go_simp; try (with_reducible rfl))
        case rest16 =>
        try simp only [Act.put, List.setIfInBounds_toArray, List.set_cons_zero, List.set_cons_succ]
        refine takeH (i := 7) (v := ?v17) rfl (by kernel_rfl) (by kernel_rfl) (by kernel_rfl) (fun _ _ _ h => h) (Or.inl ⟨by rfl, ?hy17⟩) (by assumption) ?rest17
        case hy17 => (intro w hSw; (try dsimp only at hSw); go_simp; try (with_reducible rfl))
        case rest17 =>
        try simp only [Act.put, List.setIfInBounds_toArray, List.set_cons_zero, List.set_cons_succ]
        refine takeH (i := 8) (v := ?v18) rfl (by kernel_rfl) (by kernel_rfl) (by kernel_rfl) (fun _ _ _ h => h) (Or.inl ⟨by rfl, ?hy18⟩) (by assumption) ?rest18
        case hy18 => (intro w hSw; (try dsimp only at hSw); go_simp; try (with_reducible rfl))
        case rest18 =>
        try simp only [Act.put, List.setIfInBounds_toArray, List.set_cons_zero, List.set_cons_succ]
        refine takeH (i := 9) (v := (.int .i64 ((k % C : Nat) : Int))) rfl (by kernel_rfl) (by kernel_rfl) (by kernel_rfl) (fun _ _ _ h => h) (Or.inl ⟨by rfl, ?hy19⟩) (by assumption) ?rest19
        case hy19 => (intro w hSw; (try dsimp only at hSw); go_simp; rw [Int.tmod_eq_emod_of_nonneg (by omega)]; first | done | rfl | exact HZI.out)
        case rest19 =>
        try simp only [Act.put, List.setIfInBounds_toArray, List.set_cons_zero, List.set_cons_succ]
        refine takeH (i := 10) (v := (.bool false)) rfl (by kernel_rfl) (by kernel_rfl) (by kernel_rfl) (fun _ _ _ h => h) (Or.inl ⟨by rfl, ?hy20⟩) (by assumption) ?rest20
        case hy20 => (intro w hSw; (try dsimp only at hSw); go_simp; first | done | omega | exact hz | (simp; omega))
        case rest20 =>
        try simp only [Act.put, List.setIfInBounds_toArray, List.set_cons_zero, List.set_cons_succ]
        refine wpAnyH_ready (rs := [6]) (by kernel_rfl) (by simp) ?_
        refine consH rfl (fun K hK => ?_) AllReadyH.nil
        go_simp
        go_at_call 15
        with_reducible refine (full_calls hHd.ta.t).mono ?_
        rintro _ wb ⟨rfl, hb2⟩
        have hHd2 : (fun w' : World => St w w' F T s) wb := St.to hHd hb2
        clear hb2 hHd
        have hHd := hHd2
        clear hHd2
        go_simp
        refine hK.out _ _ hHd ?_
        clear hK K
        try simp only [Act.put, List.setIfInBounds_toArray, List.set_cons_zero, List.set_cons_succ]
        refine takeH (i := 11) (v := (.bool false)) rfl (by kernel_rfl) (by kernel_rfl) (by kernel_rfl) (fun _ _ _ h => h) (Or.inl ⟨by rfl, ?hy21⟩) (by assumption) ?rest21
        case hy21 => (intro w hSw; (try dsimp only at hSw); first | (rw [HFU.out]; go_simp; done) | (go_simp; rw [HFU.out]; done) | (go_simp; simp [HFU.out]))
        case rest21 =>
        try simp only [Act.put, List.setIfInBounds_toArray, List.set_cons_zero, List.set_cons_succ]
        refine takeH (i := 12) (v := ?v22) rfl (by kernel_rfl) (by kernel_rfl) (by kernel_rfl) (fun _ _ _ h => h) (Or.inl ⟨by rfl, ?hy22⟩) (by assumption) ?rest22
        case hy22 => (intro w hSw; (try dsimp only at hSw); go_simp; try (with_reducible rfl))
        case rest22 =>
        try simp only [Act.put, List.setIfInBounds_toArray, List.set_cons_zero, List.set_cons_succ]
        refine wpAnyH_done (by kernel_rfl) ?_ _
        refine hKQ _ _ ?_
        go_wp2_with fail
        have H4 := Hd.mk (show St w wb F T s from hHd)
        clear hHd HFU HFL
        go_loopg [83] k (fun gk vj wx => ∃ (j : Nat), vj = .int .i64 (j : Int) ∧ Hd (j + gk = k) ∧ Hd (Below wb.heap.size wb wx))
        case atStart => exact ⟨0, rfl, ⟨by omega⟩, ⟨Below.refl _ _⟩⟩
        case round =>
          obtain ⟨j, rfl, HJ2, HB⟩ := hrel
          have h2 := HJ2.out
          have H5 := Hd.mk (H4.out.to HB.out)
          by_cases hlt : j < k
          · obtain ⟨d2, rfl⟩ : ∃ d, gk = d + 1 := ⟨gk - 1, by omega⟩
            have m1 : decide ((j : Int) < (k : Int)) = true := decide_eq_true (by omega)
            have m2 : decide (j < k) = true := decide_eq_true hlt
            have m3 : (j : Int) < (k : Int) := by omega
            have m4 : (0 : Int) ≤ (j : Int) := by omega
            have m5 : (j : Int) ≤ 400 := by omega
            have hjm := Nat.mod_lt j (show 0 < C by omega)
            obtain ⟨i, hi⟩ : ∃ i, j / C = i := ⟨_, rfl⟩
            have hij : i * C + j % C = j := by rw [← hi, Nat.mul_comm]; exact Nat.div_add_mod j C
            have E3 : (j : Int) / (C : Int) = (i : Int) := by rw [← hi]; exact (Int.natCast_ediv _ _).symm
            obtain ⟨m, hm⟩ : ∃ m, j % C = m := ⟨_, rfl⟩
            have E4 : (j : Int) % (C : Int) = (m : Int) := by rw [← hm]; exact (Int.natCast_emod _ _).symm
            rw [hm] at hjm hij
            have hiq : i ≤ q := div_le_q hC1 hlt HQ.out hi
            have hi4 : (i : Int) ≤ 400 := by omega
            have hlj : (letR j : Int) = 97 + (j : Int) % 26 := by unfold letR; omega
            have hm1 : (m : Int) < (C : Int) := by omega
            have hm0 : (0 : Int) ≤ (m : Int) := by omega
            clear hm
            by_cases hoff : i < s.off
            · have XG := Hd.mk (gone_at H5.out.ta.t K3.out.ok (by omega) (k := i) (j := i) (by rw [HSC.out.glen]; exact hoff) (by rw [HSC.out.glen]; omega))
              rw [HSC.out.gone i hoff, lineL_len] at XG
              have o1 : decide ((s.off : Int) ≤ (i : Int)) = false := decide_eq_false (by omega)
              have o2 : decide (s.off ≤ i) = false := decide_eq_false (by omega)
              have o3 : (i : Int) < (s.off : Int) := by omega
              go_wp2_with fail
              go_wp2_with fail
              go_at_call 22
              with_reducible refine XG.out.mono ?_
              rintro _ w5 ⟨r, rfl, hrn, hrg, hr, hb⟩
              have HB5 := Hd.mk (HB.out.trans (hb.mono HB.out.size))
              have HR := Hd.mk hr
              clear XG hrg hr hb HB H5
              unfold RR.v
              rw [hrn]
              have hcell := HR.out.three (k := m) (by rw [lineL_len]; exact hjm)
              rw [lineL_get hjm, hij, if_pos hlt, (letC_cell j).1, (letC_cell j).2.1, (letC_cell j).2.2] at hcell
              obtain ⟨x0, x1, x2⟩ := hcell
              clear hij
              clear HR
              go_wp2
              go_roundg d2
              case measure => omega
              case rel => exact ⟨j + 1, by simp, ⟨by omega⟩, HB5⟩
            · have XG := Hd.mk (gone_none H5.out.ta.t K3.out.ok (by omega) (k := i) (by omega) (by omega))
              have o1 : decide ((s.off : Int) ≤ (i : Int)) = true := decide_eq_true (by omega)
              have o2 : decide (s.off ≤ i) = true := decide_eq_true (by omega)
              have o3 : (s.off : Int) ≤ (i : Int) := by omega
              have hmr := HSC.out.more
              have hrr := HSC.out.row
              have hir : i - s.off < R := by omega
              have o4 : (i : Int) - (s.off : Int) = ((i - s.off : Nat) : Int) := by omega
              have o5 : (0 : Int) ≤ (s.off : Int) := Int.natCast_nonneg _
              go_wp2_with fail
              go_wp2_with fail
              go_at_call 22
              with_reducible refine XG.out.mono ?_
              rintro _ w5 ⟨rfl, hb⟩
              have HB5 := Hd.mk (HB.out.trans (hb.mono HB.out.size))
              have H6 := Hd.mk (H5.out.to hb)
              clear XG hb HB H5
              have XR := Hd.mk (row_at H6.out.ta.t K3.out.ok (k := i - s.off) (by rw [HSC.out.len]; exact hir))
              rw [HSC.out.rows _ hir, show s.off + (i - s.off) = i by omega, HSC.out.cols] at XR
              clear hmr hrr hir
              go_wp2_with fail
              go_wp2_with fail
              go_at_call 14
              with_reducible refine XR.out.mono ?_
              rintro _ w6 ⟨r, rfl, hrn, hrg, hr, hb⟩
              have HB6 := Hd.mk (HB5.out.trans (hb.mono HB5.out.size))
              have HR := Hd.mk hr
              clear XR hrg hr hb HB5 H6
              unfold RR.v
              rw [hrn]
              have hcell := HR.out.three (k := m) (by rw [lineL_len]; exact hjm)
              rw [lineL_get hjm, hij, if_pos hlt, (letC_cell j).1, (letC_cell j).2.1, (letC_cell j).2.2] at hcell
              obtain ⟨x0, x1, x2⟩ := hcell
              clear hij
              clear HR
              go_wp2
              go_roundg d2
              case measure => omega
              case rel => exact ⟨j + 1, by simp, ⟨by omega⟩, HB6⟩
          · have m1 : decide ((j : Int) < (k : Int)) = false := decide_eq_false (by omega)
            have m2 : decide (j < k) = false := decide_eq_false (by omega)
            clear HB H4
            go_wp2_with fail
            have XA := Hd.mk (alive_calls wr (HT.out.below H5.out.bl))
            go_wp2_with fail
            go_at_call 11
            with_reducible refine XA.out.mono ?_
            rintro _ w7 ⟨rfl, hb⟩
            have H8 := Hd.mk (H5.out.to hb)
            clear XA hb H5
            go_wp2_with fail
            go_ret
            exact ⟨rfl, H8.out.bl⟩
theorem letters_walk (a b n : Int) (w : World) (hT : TabsT w) : Calls Tryz.prog 5 #[.int .i64 a, .int .i64 b, .int .i64 n] w fun e w' => e = .returned (.bool true) ∧ Below w.heap.size w w' := by
  by_cases h : 1 ≤ n ∧ n ≤ 400 ∧ 1 ≤ a ∧ a ≤ 60 ∧ 1 ≤ b ∧ b ≤ 120
  · obtain ⟨N, rfl⟩ : ∃ N : Nat, n = N := ⟨n.toNat, by omega⟩
    obtain ⟨R, rfl⟩ : ∃ R : Nat, a = R := ⟨a.toNat, by omega⟩
    obtain ⟨C, rfl⟩ : ∃ C : Nat, b = C := ⟨b.toNat, by omega⟩
    exact letters_good R C N w hT (by omega) (by omega) (by omega) (by omega) (by omega) (by omega)
  · exact letters_bad a b n w hT h
end Go.Proofs.YtgifpkjcggnhgaaGreatDoorL

