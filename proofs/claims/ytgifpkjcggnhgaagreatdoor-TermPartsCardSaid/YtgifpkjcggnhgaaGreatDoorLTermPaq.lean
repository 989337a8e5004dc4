/- Parts of the proof of the law that the last file states; declarations that nothing mentions are left out by a program. No conditions. -/
import Derived.Test.YtgifpkjcggnhgaaGreatDoorLTermBq
set_option linter.unusedVariables false
set_option linter.unusedSimpArgs false
namespace Go.Proofs.YtgifpkjcggnhgaaGreatDoorL
open Go Go.RowKit Go.Proofs.YtgifpkjcggnhgaaGreatDoorW.PrintWords Go.Proofs.YtgifpkjcggnhgaaGreatDoor.K
theorem add_add_ (a : Addr) (m n : Nat) : (a.add m).add n = a.add (m + n) := by
  unfold Addr.add
  by_cases hm : m = 0
  · subst hm; simp
  · by_cases hn : n = 0
    · subst hn; simp [hm]
    · rw [if_neg hm, if_neg hn, if_neg (by omega)]
      simp [Nat.add_assoc]
theorem feed_part {w0 w : World} {F : Nat → Prop} {T M : Nat} {s : Tm} (h : St w0 w F T s) (hk : TK M s) (hT : TabsT w0) {A : Option Addr} {c m : Nat} (l : List UInt8) (hm : m = l.length) {ad : Addr} (hA : 0 < l.length → A = some ad) (hr : ∀ i (hi : i < l.length), w0.cell? (ad.add i) = some (.int .u8 ((l[i]).toNat : Int))) (hM : M + 32 * l.length + 64 ≤ 900000) :
    Calls Tryz.prog 17 #[.pointer (some ⟨T, 0, none⟩), .slice A m c] w fun e w' => e = .returned (.tuple #[]) ∧ Told F w T (s.feed l) w' := by
  subst hm
  refine feed_ta h.ta hk l hM (hT.below h.bl) (h.outT hT) (A := A) (c := c) (ad := ad) (fun hp => ⟨hA hp, fun hF => ?_, ?_⟩) (fun i hi => cell_move (hr i hi) (h.bl.block _ (Lib.lt_of_cell (hr i hi))))
  · have h1 := Lib.lt_of_cell (hr 0 hp)
    rw [add_block] at h1
    have := h.own _ hF
    omega
  · have h1 := Lib.lt_of_cell (hr 0 hp)
    rw [add_block] at h1
    have := h.bl.size
    omega
set_option maxRecDepth 100000 in
set_option maxHeartbeats 4000000 in
theorem parts_bad (a b kk : Int) {A : Option Addr} {c : Nat} {xs : List Int} {w : World} (hc : xs.length ≤ c) (hC : (Kd.int .u8).C w A xs.length xs) (hw : ∀ x ∈ xs, (Lit.int .u8 x).wf = true) (hT : TabsT w) (hbad : ¬ (xs.length ≤ 800 ∧ a ≤ 20 ∧ b ≤ 20 ∧ 0 ≤ kk ∧ kk ≤ xs.length)) :
    Calls Tryz.prog 4 #[.agg #[.int .i64 a, .int .i64 b], .slice A xs.length c, .int .i64 kk] w fun e w' => e = .returned (.bool true) ∧ Below w.heap.size w w' := by
  have HT := Hd.mk hT
  have HB0 := Hd.mk ((Below.refl w.heap.size w).alloc (Nat.le_refl _) (.cells #[.int .i64 a, .int .i64 b] 22))
  have HBX := Hd.mk (Blk.new w 22 #[.int .i64 a, .int .i64 b])
  have HBAD := Hd.mk hbad
  have bx := HBX.out.cell 0 rfl
  have by_ := HBX.out.cell 1 rfl
  have XA := Hd.mk (alive_calls _ (HT.out.below HB0.out))
  clear hT hbad hC hw
  generalize xs.length = n at *
  go_enter Tryz.func4, Tryz.ntmps4
  by_cases c0 : 800 < (n : Int)
  · have d0 : decide (800 < (n : Int)) = true := decide_eq_true c0
    have e0 : decide (800 < n) = true := decide_eq_true (by omega)
    go_wp2_with fail
    go_at_call 11
    with_reducible refine XA.out.mono ?_
    rintro _ w3 ⟨rfl, hb⟩
    have HB2 := Hd.mk (HB0.out.trans (hb.mono HB0.out.size))
    clear hb XA
    go_wp2_with fail
    go_ret
    exact ⟨rfl, HB2.out⟩
  have d0 : decide (800 < (n : Int)) = false := decide_eq_false c0
  have e0 : decide (800 < n) = false := decide_eq_false (by omega)
  by_cases c1 : 20 < a
  · have d1 : decide (20 < a) = true := decide_eq_true c1
    go_wp2_with fail
    go_at_call 11
    with_reducible refine XA.out.mono ?_
    rintro _ w3 ⟨rfl, hb⟩
    have HB2 := Hd.mk (HB0.out.trans (hb.mono HB0.out.size))
    clear hb XA
    go_wp2_with fail
    go_ret
    exact ⟨rfl, HB2.out⟩
  have d1 : decide (20 < a) = false := decide_eq_false c1
  by_cases c2 : 20 < b
  · have d2 : decide (20 < b) = true := decide_eq_true c2
    go_wp2_with fail
    go_at_call 11
    with_reducible refine XA.out.mono ?_
    rintro _ w3 ⟨rfl, hb⟩
    have HB2 := Hd.mk (HB0.out.trans (hb.mono HB0.out.size))
    clear hb XA
    go_wp2_with fail
    go_ret
    exact ⟨rfl, HB2.out⟩
  have d2 : decide (20 < b) = false := decide_eq_false c2
  by_cases c3 : kk < 0
  · have d3 : decide (kk < 0) = true := decide_eq_true c3
    go_wp2_with fail
    go_at_call 11
    with_reducible refine XA.out.mono ?_
    rintro _ w3 ⟨rfl, hb⟩
    have HB2 := Hd.mk (HB0.out.trans (hb.mono HB0.out.size))
    clear hb XA
    go_wp2_with fail
    go_ret
    exact ⟨rfl, HB2.out⟩
  have d3 : decide (kk < 0) = false := decide_eq_false c3
  by_cases c4 : (n : Int) < kk
  · have d4 : decide ((n : Int) < kk) = true := decide_eq_true c4
    go_wp2_with fail
    go_at_call 11
    with_reducible refine XA.out.mono ?_
    rintro _ w3 ⟨rfl, hb⟩
    have HB2 := Hd.mk (HB0.out.trans (hb.mono HB0.out.size))
    clear hb XA
    go_wp2_with fail
    go_ret
    exact ⟨rfl, HB2.out⟩
  have d4 : decide ((n : Int) < kk) = false := decide_eq_false c4
  exact absurd (show n ≤ 800 ∧ a ≤ 20 ∧ b ≤ 20 ∧ 0 ≤ kk ∧ kk ≤ n by omega) HBAD.out
set_option maxRecDepth 100000 in
set_option maxHeartbeats 4000000 in
theorem parts_good (a b : Int) (N : Nat) {A : Option Addr} {c : Nat} {xs : List Int} {w : World} (hc : xs.length ≤ c) (hC : (Kd.int .u8).C w A xs.length xs) (hw : ∀ x ∈ xs, (Lit.int .u8 x).wf = true) (hT : TabsT w) (hn : xs.length ≤ 800) (ha : a ≤ 20) (hb : b ≤ 20) (hN : N ≤ xs.length) :
    Calls Tryz.prog 4 #[.agg #[.int .i64 a, .int .i64 b], .slice A xs.length c, .int .i64 (N : Int)] w fun e w' => e = .returned (.bool true) ∧ Below w.heap.size w w' := by
  have HT := Hd.mk hT
  have HB0 := Hd.mk ((Below.refl w.heap.size w).alloc (Nat.le_refl _) (.cells #[.int .i64 a, .int .i64 b] 22))
  have HBX := Hd.mk (Blk.new w 22 #[.int .i64 a, .int .i64 b])
  have X0 := Hd.mk (fun w1 => new_ta a b w1)
  have K0 := Hd.mk (TK.new a b)
  generalize newT a b = s0 at *
  have HRD : Hd (∃ ad : Addr, (0 < xs.length → A = some ad) ∧ ∀ i (hi : i < (toB xs).length), w.cell? (ad.add i) = some (.int .u8 (((toB xs)[i]).toNat : Int))) := ⟨by
    by_cases h0 : 0 < xs.length
    · obtain ⟨ad, h1, h2⟩ := int_cell hC hw h0
      exact ⟨ad, fun _ => h1, h2⟩
    · exact ⟨⟨0, 0, none⟩, fun h => absurd h h0, fun i hi => by rw [toB_len] at hi; omega⟩⟩
  obtain ⟨ad, hA, hrd⟩ := HRD.out
  clear HRD
  obtain ⟨B, hB⟩ : ∃ B, toB xs = B := ⟨_, rfl⟩
  have hBl : B.length = xs.length := by rw [← hB]; exact toB_len xs
  rw [hB] at hrd
  clear hB hC hw hT
  obtain ⟨n, hxn⟩ : ∃ n, xs.length = n := ⟨_, rfl⟩
  rw [hxn] at hBl hc hn hN hA ⊢
  have HBN := Hd.mk hBl
  clear hxn hBl
  have HRD := Hd.mk hrd
  have HA := Hd.mk hA
  clear hrd hA
  have bx := HBX.out.cell 0 rfl
  have by_ := HBX.out.cell 1 rfl
  have n1 : (n : Int) ≤ 800 := by omega
  have n2 : (0 : Int) ≤ (N : Int) := by omega
  have n3 : (N : Int) ≤ (n : Int) := by omega
  have n4 : ¬ (n : Int) < (N : Int) := by omega
  have n5 : decide (20 < a) = false := decide_eq_false (by omega)
  have n6 : decide (20 < b) = false := decide_eq_false (by omega)
  have n7 : N ≤ c := by omega
  have HLA : Hd (B.take N ++ B.drop N = B) := ⟨List.take_append_drop N B⟩
  have HL1 : Hd ((B.take N).length = N ∧ (B.drop N).length = n - N) := ⟨by rw [List.length_take, HBN.out]; omega, by rw [List.length_drop, HBN.out]⟩
  go_enter Tryz.func4, Tryz.ntmps4
  go_upto_region 3 with fail
  rename_i KQ hKQ
  refine regionH (fun w' : World => Blk w' w.heap.size 22 #[.int .i64 a, .int .i64 b] ∧ Below w.heap.size w w') (by kernel_rfl) (fun wd hb => ?_)
  have hHd : (fun w' : World => Blk w' w.heap.size 22 #[.int .i64 a, .int .i64 b] ∧ Below w.heap.size w w') wd := ⟨HBX.out.belowB hb (by simp), HB0.out.trans (hb.mono HB0.out.size)⟩
  clear hb bx by_ HBX HB0
  refine takeH (i := 0) (v := ?v1) rfl (by kernel_rfl) (by kernel_rfl) (by kernel_rfl) (fun _ _ _ h => h) (Or.inl ⟨by rfl, ?hy1⟩) (by assumption) ?rest1
  case hy1 => (intro w hSw; (try dsimp only at hSw); go_simp; try (with_reducible rfl))
  case rest1 =>
  try simp only [Act.put, List.setIfInBounds_toArray, List.set_cons_zero, List.set_cons_succ]
  refine takeH (i := 1) (v := (.int .i64 a)) rfl (by kernel_rfl) (by kernel_rfl) (by kernel_rfl) (fun _ _ _ h => h) (Or.inl ⟨by rfl, ?hy2⟩) (by assumption) ?rest2
  case hy2 => (intro w hSw; (try dsimp only at hSw); obtain ⟨hB, _⟩ := hSw; have c0 := hB.cell 0 rfl; have c1 := hB.cell 1 rfl; go_simp; first | done | rfl)
  case rest2 =>
  try simp only [Act.put, List.setIfInBounds_toArray, List.set_cons_zero, List.set_cons_succ]
  refine takeH (i := 2) (v := ?v3) rfl (by kernel_rfl) (by kernel_rfl) (by kernel_rfl) (fun _ _ _ h => h) (Or.inl ⟨by rfl, ?hy3⟩) (by assumption) ?rest3
  case hy3 => (intro w hSw; (try dsimp only at hSw); go_simp; try (with_reducible rfl))
  case rest3 =>
  try simp only [Act.put, List.setIfInBounds_toArray, List.set_cons_zero, List.set_cons_succ]
  refine takeH (i := 3) (v := (.int .i64 b)) rfl (by kernel_rfl) (by kernel_rfl) (by kernel_rfl) (fun _ _ _ h => h) (Or.inl ⟨by rfl, ?hy4⟩) (by assumption) ?rest4
  case hy4 => (intro w hSw; (try dsimp only at hSw); obtain ⟨hB, _⟩ := hSw; have c0 := hB.cell 0 rfl; have c1 := hB.cell 1 rfl; go_simp; first | done | rfl)
  case rest4 =>
  try simp only [Act.put, List.setIfInBounds_toArray, List.set_cons_zero, List.set_cons_succ]
  refine takeH (i := 5) (v := ?v5) rfl (by kernel_rfl) (by kernel_rfl) (by kernel_rfl) (fun _ _ _ h => h) (Or.inl ⟨by rfl, ?hy5⟩) (by assumption) ?rest5
  case hy5 => (intro w hSw; (try dsimp only at hSw); go_simp; try (with_reducible rfl))
  case rest5 =>
  try simp only [Act.put, List.setIfInBounds_toArray, List.set_cons_zero, List.set_cons_succ]
  refine takeH (i := 6) (v := (.int .i64 a)) rfl (by kernel_rfl) (by kernel_rfl) (by kernel_rfl) (fun _ _ _ h => h) (Or.inl ⟨by rfl, ?hy6⟩) (by assumption) ?rest6
  case hy6 => (intro w hSw; (try dsimp only at hSw); obtain ⟨hB, _⟩ := hSw; have c0 := hB.cell 0 rfl; have c1 := hB.cell 1 rfl; go_simp; first | done | rfl)
  case rest6 =>
  try simp only [Act.put, List.setIfInBounds_toArray, List.set_cons_zero, List.set_cons_succ]
  refine takeH (i := 7) (v := ?v7) rfl (by kernel_rfl) (by kernel_rfl) (by kernel_rfl) (fun _ _ _ h => h) (Or.inl ⟨by rfl, ?hy7⟩) (by assumption) ?rest7
  case hy7 => (intro w hSw; (try dsimp only at hSw); go_simp; try (with_reducible rfl))
  case rest7 =>
  try simp only [Act.put, List.setIfInBounds_toArray, List.set_cons_zero, List.set_cons_succ]
  refine takeH (i := 8) (v := (.int .i64 b)) rfl (by kernel_rfl) (by kernel_rfl) (by kernel_rfl) (fun _ _ _ h => h) (Or.inl ⟨by rfl, ?hy8⟩) (by assumption) ?rest8
  case hy8 => (intro w hSw; (try dsimp only at hSw); obtain ⟨hB, _⟩ := hSw; have c0 := hB.cell 0 rfl; have c1 := hB.cell 1 rfl; go_simp; first | done | rfl)
  case rest8 =>
  try simp only [Act.put, List.setIfInBounds_toArray, List.set_cons_zero, List.set_cons_succ]
  refine wpAnyH_ready (rs := [4]) (by kernel_rfl) (by simp) ?_
  refine consH rfl (fun K hK => ?_) AllReadyH.nil
  go_simp
  go_at_call 16
  with_reducible refine (X0.out _).mono ?_
  rintro _ w1 ⟨T1, rfl, ⟨F1, hta, hF⟩, hb⟩
  have H1 := Hd.mk (St.new hHd.2 hta hF hb)
  have hHd2 : (fun w' : World => Blk w' w.heap.size 22 #[.int .i64 a, .int .i64 b] ∧ Below w.heap.size w w') w1 := ⟨hHd.1.belowB hb hHd.1.lt, hHd.2.trans (hb.mono hHd.2.size)⟩
  clear hta hF hb hHd
  have hHd := hHd2
  clear hHd2
  go_simp
  refine hK.out _ _ hHd ?_
  clear hK K
  try simp only [Act.put, List.setIfInBounds_toArray, List.set_cons_zero, List.set_cons_succ]
  refine wpAnyH_ready (rs := [9]) (by kernel_rfl) (by simp) ?_
  refine consH rfl (fun K hK => ?_) AllReadyH.nil
  go_simp
  go_at_call 16
  with_reducible refine (X0.out _).mono ?_
  rintro _ w2 ⟨T2, rfl, ⟨F2, hta, hF⟩, hb⟩
  have H2 := Hd.mk (St.new hHd.2 hta hF hb)
  have HD12 : Hd (∀ k, F2 k → ¬ F1 k) := ⟨fun k hk hk2 => by have := hF k hk; have := H1.out.ta.lt _ hk2; omega⟩
  have H1b := Hd.mk (H1.out.to hb)
  have hHd2 : (fun w' : World => Blk w' w.heap.size 22 #[.int .i64 a, .int .i64 b] ∧ Below w.heap.size w w') w2 := ⟨hHd.1.belowB hb hHd.1.lt, hHd.2.trans (hb.mono hHd.2.size)⟩
  clear hta hF hb hHd X0 H1
  have hHd := hHd2
  clear hHd2
  go_simp
  refine hK.out _ _ hHd ?_
  clear hK K
  try simp only [Act.put, List.setIfInBounds_toArray, List.set_cons_zero, List.set_cons_succ]
  refine takeH (i := 10) (v := ?v9) rfl (by kernel_rfl) (by kernel_rfl) (by kernel_rfl) (fun _ _ _ h => h) (Or.inl ⟨by rfl, ?hy9⟩) (by assumption) ?rest9
  case hy9 => (intro w hSw; (try dsimp only at hSw); go_simp; try (with_reducible rfl))
  case rest9 =>
  try simp only [Act.put, List.setIfInBounds_toArray, List.set_cons_zero, List.set_cons_succ]
  refine takeH (i := 11) (v := ?v10) rfl (by kernel_rfl) (by kernel_rfl) (by kernel_rfl) (fun _ _ _ h => h) (Or.inl ⟨by rfl, ?hy10⟩) (by assumption) ?rest10
  case hy10 => (intro w hSw; (try dsimp only at hSw); go_simp; try (with_reducible rfl))
  case rest10 =>
  try simp only [Act.put, List.setIfInBounds_toArray, List.set_cons_zero, List.set_cons_succ]
  refine wpAnyH_done (by kernel_rfl) ?_ _
  refine hKQ _ _ ?_
  clear hHd
  go_wp2_with fail
  have XF := Hd.mk (feed_part (A := A) (c := c) H1b.out K0.out HT.out B HBN.out.symm (by rw [HBN.out]; exact HA.out) HRD.out (by rw [HBN.out]; omega))
  go_wp2_with fail
  go_at_call 17
  with_reducible refine XF.out.mono ?_
  rintro _ w3 ⟨rfl, ht⟩
  obtain ⟨F3, S3, hsub, hon⟩ := St.told H1b.out ht
  have H3 := Hd.mk S3
  have HY3 := Hd.mk (St.other H2.out hon HD12.out S3.bl)
  have HD3 : Hd (∀ k, F2 k → ¬ F3 k) := ⟨fun k hk hk2 => by rcases hsub k hk2 with h | h; exact HD12.out k hk h; have := H2.out.ta.lt _ hk; omega⟩
  clear ht S3 hsub hon XF H1b H2 HD12
  go_wp2_with fail
  have XF := Hd.mk (feed_part (A := A) (c := c) HY3.out K0.out HT.out (B.take N) HL1.out.1.symm (by rw [HL1.out.1]; exact fun h => HA.out (by omega)) (fun i hi => by rw [List.getElem_take]; exact HRD.out i (by rw [HBN.out]; rw [HL1.out.1] at hi; omega)) (by rw [HL1.out.1]; omega))
  go_wp2_with fail
  go_at_call 17
  with_reducible refine XF.out.mono ?_
  rintro _ w4 ⟨rfl, ht⟩
  obtain ⟨F4, S4, hsub, hon⟩ := St.told HY3.out ht
  have HY4 := Hd.mk S4
  have H4 := Hd.mk (St.other H3.out hon (fun k hk hk2 => HD3.out k hk2 hk) S4.bl)
  have HD4 : Hd (∀ k, F4 k → ¬ F3 k) := ⟨fun k hk hk2 => by rcases hsub k hk with h | h; exact HD3.out k h hk2; have := H3.out.ta.lt _ hk2; omega⟩
  have K4 := Hd.mk (K0.out.feed (B.take N))
  have K3 := Hd.mk (K0.out.feed B)
  rw [HBN.out] at K3
  rw [HL1.out.1] at K4
  have HSS : Hd ((s0.feed (B.take N)).feed (B.drop N) = s0.feed B) := ⟨by rw [← feed_append, HLA.out]⟩
  clear ht S4 hsub hon XF H3 HY3 HD3 K0
  generalize s0.feed (B.take N) = s1 at *
  generalize s0.feed B = s2 at *
  go_wp2_with fail
  have XC := Hd.mk (copy_ta HY4.out.ta K4.out)
  go_wp2_with fail
  go_at_call 18
  with_reducible refine XC.out.mono ?_
  rintro _ w5 ⟨T3, rfl, ⟨F5, hta, hF⟩, hb⟩
  have HZ5 := Hd.mk (St.new HY4.out.bl hta hF hb)
  have HDZ : Hd ((∀ k, F5 k → ¬ F3 k) ∧ (∀ k, F5 k → ¬ F4 k)) := ⟨fun k hk hk2 => by have := hF k hk; have := H4.out.ta.lt _ hk2; omega, fun k hk hk2 => by have := hF k hk; have := HY4.out.ta.lt _ hk2; omega⟩
  have H5 := Hd.mk (H4.out.to hb)
  have HY5 := Hd.mk (HY4.out.to hb)
  clear hta hF hb XC H4 HY4
  have HRD2 : Hd (∀ i (hi : i < (B.drop N).length), w.cell? ((ad.add N).add i) = some (.int .u8 (((B.drop N)[i]).toNat : Int))) := ⟨fun i hi => by rw [add_add_, List.getElem_drop]; exact HRD.out (N + i) (by rw [HBN.out]; rw [HL1.out.2] at hi; omega)⟩
  have XFy := Hd.mk (feed_part (A := if c = N then A else A.map (·.add N)) (c := c - N) HY5.out K4.out HT.out (B.drop N) HL1.out.2.symm (ad := ad.add N) (by rw [HL1.out.2]; exact fun h => by rw [if_neg (by omega), HA.out (by omega)]; rfl) HRD2.out (by rw [HL1.out.2]; omega))
  rw [HSS.out] at XFy
  by_cases hcN : c = N
  · rw [if_pos hcN, show c - N = 0 by omega] at XFy
    go_wp2_with fail
    go_at_call 17
    with_reducible refine XFy.out.mono ?_
    rintro _ w6 ⟨rfl, ht⟩
    obtain ⟨F6, S6, hsub, hon⟩ := St.told HY5.out ht
    have HY6 := Hd.mk S6
    have H6 := Hd.mk (St.other H5.out hon (fun k hk hk2 => HD4.out k hk2 hk) S6.bl)
    have HZ6 := Hd.mk (St.other HZ5.out hon HDZ.out.2 S6.bl)
    have HDZ2 : Hd ((∀ k, F5 k → ¬ F3 k) ∧ (∀ k, F5 k → ¬ F6 k)) := ⟨HDZ.out.1, fun k hk hk2 => by rcases hsub k hk2 with h | h; exact HDZ.out.2 k hk h; have := HZ5.out.ta.lt _ hk; omega⟩
    clear ht S6 hsub hon XFy H5 HY5 HZ5 HDZ HD4
    have XFz := Hd.mk (feed_part (A := if c = N then A else A.map (·.add N)) (c := c - N) HZ6.out K4.out HT.out (B.drop N) HL1.out.2.symm (ad := ad.add N) (by rw [HL1.out.2]; exact fun h => by rw [if_neg (by omega), HA.out (by omega)]; rfl) HRD2.out (by rw [HL1.out.2]; omega))
    rw [HSS.out] at XFz
    rw [if_pos hcN, show c - N = 0 by omega] at XFz
    go_wp2_with fail
    go_at_call 17
    with_reducible refine XFz.out.mono ?_
    rintro _ w7 ⟨rfl, ht⟩
    obtain ⟨F7, S7, hsub, hon⟩ := St.told HZ6.out ht
    have HZ7 := Hd.mk S7
    have H7 := Hd.mk (St.other H6.out hon (fun k hk hk2 => HDZ2.out.1 k hk2 hk) S7.bl)
    have HY7 := Hd.mk (St.other HY6.out hon (fun k hk hk2 => HDZ2.out.2 k hk2 hk) S7.bl)
    clear ht S7 hsub hon XFz H6 HY6 HZ6 HDZ2 HRD2 HRD HA K4 HSS HLA
    obtain ⟨R, hR⟩ : ∃ R, s2.l.length = R := ⟨_, rfl⟩
    have HD := Hd.mk hR
    have hR60 : R ≤ 60 := by rw [← hR]; exact K3.out.ok.r2
    go_wp2_with fail
    have XS := Hd.mk (size_calls H7.out.ta.t)
    rw [hR] at XS
    clear hR
    go_wp2_with fail
    go_at_call 12
    with_reducible refine XS.out.mono ?_
    rintro _ w8 ⟨rfl, hb⟩
    have H8 := Hd.mk (H7.out.to hb)
    have HY8 := Hd.mk (HY7.out.to hb)
    have HZ8 := Hd.mk (HZ7.out.to hb)
    clear hb XS H7 HY7 HZ7
    go_wp2_with fail
    go_loopg [87] R (fun gk vj wx => ∃ (k : Nat), vj = .int .i64 (k : Int) ∧ Hd (k + gk = R) ∧ Hd (Below w8.heap.size w8 wx))
    case atStart => exact ⟨0, rfl, ⟨by omega⟩, ⟨Below.refl _ _⟩⟩
    case round =>
      obtain ⟨k, rfl, HJ, HB⟩ := hrel
      have h1 := HJ.out
      by_cases hlt : k < R
      · obtain ⟨d, rfl⟩ : ∃ d, gk = d + 1 := ⟨gk - 1, by omega⟩
        have l1 : decide ((k : Int) < (R : Int)) = true := decide_eq_true (by omega)
        have l2 : decide (k < R) = true := decide_eq_true hlt
        have l3 : (k : Int) < (R : Int) := by omega
        have l4 : (0 : Int) ≤ (k : Int) := by omega
        have l5 : (k : Int) ≤ 60 := by omega
        have hks : k < s2.l.length := by rw [HD.out]; exact hlt
        obtain ⟨row, hrw⟩ : ∃ row, s2.l.getD k [] = row := ⟨_, rfl⟩
        have HROW := Hd.mk hrw
        have HLR : Hd (row.length ≤ 1000) := ⟨by rw [← hrw, ← getD_get hks, (K3.out.ok.rowAt hks).1]; have := K3.out.ok.c2; omega⟩
        clear hrw
        have XR := Hd.mk (row_at (H8.out.to HB.out).ta.t K3.out.ok (k := k) hks)
        rw [HROW.out] at XR
        go_wp2_with fail
        go_wp2_with fail
        go_at_call 14
        with_reducible refine XR.out.mono ?_
        rintro _ wa1 ⟨r1, rfl, hrn, hrg, hr, hb⟩
        have HBa := Hd.mk (HB.out.trans (hb.mono HB.out.size))
        have XO := Hd.mk (old_calls hr HLR.out)
        clear XR hrn hrg hr hb HB
        go_wp2_with fail
        go_wp2_with fail
        go_at_call 20
        with_reducible refine XO.out.mono ?_
        rintro _ wb1 ⟨A1, c1, rfl, hc1, hC1, hb⟩
        have HBb := Hd.mk (HBa.out.trans (hb.mono HBa.out.size))
        have HC1 := Hd.mk (And.intro hc1 hC1)
        clear XO hc1 hC1 hb HBa
        have XR := Hd.mk (row_at (HY8.out.to HBb.out).ta.t K3.out.ok (k := k) hks)
        rw [HROW.out] at XR
        go_wp2_with fail
        go_wp2_with fail
        go_at_call 14
        with_reducible refine XR.out.mono ?_
        rintro _ wc1 ⟨r2, rfl, hrn, hrg, hr, hb⟩
        have HBc := Hd.mk (HBb.out.trans (hb.mono HBb.out.size))
        have HCb := Hd.mk (Kd.C_below HC1.out.2 hb)
        have XO := Hd.mk (old_calls hr HLR.out)
        clear XR hrn hrg hr hb HBb
        go_wp2_with fail
        go_wp2_with fail
        go_at_call 20
        with_reducible refine XO.out.mono ?_
        rintro _ wd1 ⟨A2, c2, rfl, hc2, hC2, hb⟩
        have HBd := Hd.mk (HBc.out.trans (hb.mono HBc.out.size))
        have XS := Hd.mk (same_calls (n := row.length) rfl HLR.out (Kd.C_below HCb.out hb) hC2 HC1.out.1 hc2)
        clear XO hc2 hC2 hb HBc HC1 HCb
        go_wp2_with fail
        go_wp2_with fail
        go_at_call 19
        with_reducible refine XS.out.mono ?_
        rintro _ we1 ⟨rfl, hb⟩
        have HBm := Hd.mk (HBd.out.trans (hb.mono HBd.out.size))
        clear XS hb HBd
        have XR := Hd.mk (row_at (H8.out.to HBm.out).ta.t K3.out.ok (k := k) hks)
        rw [HROW.out] at XR
        go_wp2_with fail
        go_wp2_with fail
        go_at_call 14
        with_reducible refine XR.out.mono ?_
        rintro _ wa2 ⟨r1, rfl, hrn, hrg, hr, hb⟩
        have HBa := Hd.mk (HBm.out.trans (hb.mono HBm.out.size))
        have XO := Hd.mk (old_calls hr HLR.out)
        clear XR hrn hrg hr hb HBm
        go_wp2_with fail
        go_wp2_with fail
        go_at_call 20
        with_reducible refine XO.out.mono ?_
        rintro _ wb2 ⟨A1, c1, rfl, hc1, hC1, hb⟩
        have HBb := Hd.mk (HBa.out.trans (hb.mono HBa.out.size))
        have HC1 := Hd.mk (And.intro hc1 hC1)
        clear XO hc1 hC1 hb HBa
        have XR := Hd.mk (row_at (HZ8.out.to HBb.out).ta.t K3.out.ok (k := k) hks)
        rw [HROW.out] at XR
        go_wp2_with fail
        go_wp2_with fail
        go_at_call 14
        with_reducible refine XR.out.mono ?_
        rintro _ wc2 ⟨r2, rfl, hrn, hrg, hr, hb⟩
        have HBc := Hd.mk (HBb.out.trans (hb.mono HBb.out.size))
        have HCb := Hd.mk (Kd.C_below HC1.out.2 hb)
        have XO := Hd.mk (old_calls hr HLR.out)
        clear XR hrn hrg hr hb HBb
        go_wp2_with fail
        go_wp2_with fail
        go_at_call 20
        with_reducible refine XO.out.mono ?_
        rintro _ wd2 ⟨A2, c2, rfl, hc2, hC2, hb⟩
        have HBd := Hd.mk (HBc.out.trans (hb.mono HBc.out.size))
        have XS := Hd.mk (same_calls (n := row.length) rfl HLR.out (Kd.C_below HCb.out hb) hC2 HC1.out.1 hc2)
        clear XO hc2 hC2 hb HBc HC1 HCb
        go_wp2_with fail
        go_wp2_with fail
        go_at_call 19
        with_reducible refine XS.out.mono ?_
        rintro _ we2 ⟨rfl, hb⟩
        have HBn := Hd.mk (HBd.out.trans (hb.mono HBd.out.size))
        clear XS hb HBd
        go_wp2
        go_roundg d
        case measure => omega
        case rel => exact ⟨k + 1, by simp, ⟨by omega⟩, HBn⟩
      · have l1 : decide ((k : Int) < (R : Int)) = false := decide_eq_false (by omega)
        have l2 : decide (k < R) = false := decide_eq_false hlt
        have H9 := Hd.mk (H8.out.to HB.out)
        have HY9 := Hd.mk (HY8.out.to HB.out)
        have HZ9 := Hd.mk (HZ8.out.to HB.out)
        clear HB H8 HY8 HZ8
        go_wp2_with fail
        have XC := Hd.mk (cursor_calls H9.out.ta.t)
        go_wp2_with fail
        go_at_call 13
        with_reducible refine XC.out.mono ?_
        rintro _ wz10 ⟨rfl, hb⟩
        have H10 := Hd.mk (H9.out.to hb)
        have HY10 := Hd.mk (HY9.out.to hb)
        have HZ10 := Hd.mk (HZ9.out.to hb)
        clear XC hb H9 HY9 HZ9
        go_wp2_with fail
        have XC := Hd.mk (cursor_calls HY10.out.ta.t)
        go_wp2_with fail
        go_at_call 13
        with_reducible refine XC.out.mono ?_
        rintro _ wz11 ⟨rfl, hb⟩
        have H11 := Hd.mk (H10.out.to hb)
        have HY11 := Hd.mk (HY10.out.to hb)
        have HZ11 := Hd.mk (HZ10.out.to hb)
        clear XC hb H10 HY10 HZ10
        go_wp2_with fail
        have XC := Hd.mk (cursor_calls HZ11.out.ta.t)
        go_wp2_with fail
        go_at_call 13
        with_reducible refine XC.out.mono ?_
        rintro _ wz12 ⟨rfl, hb⟩
        have H12 := Hd.mk (H11.out.to hb)
        have HY12 := Hd.mk (HY11.out.to hb)
        have HZ12 := Hd.mk (HZ11.out.to hb)
        clear XC hb H11 HY11 HZ11
        go_wp2_with fail
        have XC := Hd.mk (alive_calls wz12 (HT.out.below H12.out.bl))
        go_wp2_with fail
        go_at_call 11
        with_reducible refine XC.out.mono ?_
        rintro _ wz13 ⟨rfl, hb⟩
        have H13 := Hd.mk (H12.out.to hb)
        have HY13 := Hd.mk (HY12.out.to hb)
        have HZ13 := Hd.mk (HZ12.out.to hb)
        clear XC hb H12 HY12 HZ12
        go_wp2_with fail
        have XC := Hd.mk (off_calls H13.out.ta.t)
        go_wp2_with fail
        go_at_call 21
        with_reducible refine XC.out.mono ?_
        rintro _ wz14 ⟨rfl, hb⟩
        have H14 := Hd.mk (H13.out.to hb)
        have HY14 := Hd.mk (HY13.out.to hb)
        have HZ14 := Hd.mk (HZ13.out.to hb)
        clear XC hb H13 HY13 HZ13
        go_wp2_with fail
        have XC := Hd.mk (off_calls HY14.out.ta.t)
        go_wp2_with fail
        go_at_call 21
        with_reducible refine XC.out.mono ?_
        rintro _ wz15 ⟨rfl, hb⟩
        have H15 := Hd.mk (H14.out.to hb)
        have HY15 := Hd.mk (HY14.out.to hb)
        have HZ15 := Hd.mk (HZ14.out.to hb)
        clear XC hb H14 HY14 HZ14
        go_wp2_with fail
        have XC := Hd.mk (off_calls H15.out.ta.t)
        go_wp2_with fail
        go_at_call 21
        with_reducible refine XC.out.mono ?_
        rintro _ wz16 ⟨rfl, hb⟩
        have H16 := Hd.mk (H15.out.to hb)
        have HY16 := Hd.mk (HY15.out.to hb)
        have HZ16 := Hd.mk (HZ15.out.to hb)
        clear XC hb H15 HY15 HZ15
        go_wp2_with fail
        have XC := Hd.mk (off_calls HZ16.out.ta.t)
        go_wp2_with fail
        go_at_call 21
        with_reducible refine XC.out.mono ?_
        rintro _ wz17 ⟨rfl, hb⟩
        have H17 := Hd.mk (H16.out.to hb)
        have HY17 := Hd.mk (HY16.out.to hb)
        have HZ17 := Hd.mk (HZ16.out.to hb)
        clear XC hb H16 HY16 HZ16
        go_wp2_with fail
        have XC := Hd.mk (full_calls H17.out.ta.t)
        go_wp2_with fail
        go_at_call 15
        with_reducible refine XC.out.mono ?_
        rintro _ wz18 ⟨rfl, hb⟩
        have H18 := Hd.mk (H17.out.to hb)
        have HY18 := Hd.mk (HY17.out.to hb)
        have HZ18 := Hd.mk (HZ17.out.to hb)
        clear XC hb H17 HY17 HZ17
        go_wp2_with fail
        have XC := Hd.mk (full_calls HY18.out.ta.t)
        go_wp2_with fail
        go_at_call 15
        with_reducible refine XC.out.mono ?_
        rintro _ wz19 ⟨rfl, hb⟩
        have H19 := Hd.mk (H18.out.to hb)
        have HY19 := Hd.mk (HY18.out.to hb)
        have HZ19 := Hd.mk (HZ18.out.to hb)
        clear XC hb H18 HY18 HZ18
        go_wp2_with fail
        go_ret
        exact ⟨rfl, H19.out.bl⟩
  · rw [if_neg hcN] at XFy
    go_wp2_with fail
    go_at_call 17
    with_reducible refine XFy.out.mono ?_
    rintro _ w6 ⟨rfl, ht⟩
    obtain ⟨F6, S6, hsub, hon⟩ := St.told HY5.out ht
    have HY6 := Hd.mk S6
    have H6 := Hd.mk (St.other H5.out hon (fun k hk hk2 => HD4.out k hk2 hk) S6.bl)
    have HZ6 := Hd.mk (St.other HZ5.out hon HDZ.out.2 S6.bl)
    have HDZ2 : Hd ((∀ k, F5 k → ¬ F3 k) ∧ (∀ k, F5 k → ¬ F6 k)) := ⟨HDZ.out.1, fun k hk hk2 => by rcases hsub k hk2 with h | h; exact HDZ.out.2 k hk h; have := HZ5.out.ta.lt _ hk; omega⟩
    clear ht S6 hsub hon XFy H5 HY5 HZ5 HDZ HD4
    have XFz := Hd.mk (feed_part (A := if c = N then A else A.map (·.add N)) (c := c - N) HZ6.out K4.out HT.out (B.drop N) HL1.out.2.symm (ad := ad.add N) (by rw [HL1.out.2]; exact fun h => by rw [if_neg (by omega), HA.out (by omega)]; rfl) HRD2.out (by rw [HL1.out.2]; omega))
    rw [HSS.out] at XFz
    rw [if_neg hcN] at XFz
    go_wp2_with fail
    go_at_call 17
    with_reducible refine XFz.out.mono ?_
    rintro _ w7 ⟨rfl, ht⟩
    obtain ⟨F7, S7, hsub, hon⟩ := St.told HZ6.out ht
    have HZ7 := Hd.mk S7
    have H7 := Hd.mk (St.other H6.out hon (fun k hk hk2 => HDZ2.out.1 k hk2 hk) S7.bl)
    have HY7 := Hd.mk (St.other HY6.out hon (fun k hk hk2 => HDZ2.out.2 k hk2 hk) S7.bl)
    clear ht S7 hsub hon XFz H6 HY6 HZ6 HDZ2 HRD2 HRD HA K4 HSS HLA
    obtain ⟨R, hR⟩ : ∃ R, s2.l.length = R := ⟨_, rfl⟩
    have HD := Hd.mk hR
    have hR60 : R ≤ 60 := by rw [← hR]; exact K3.out.ok.r2
    go_wp2_with fail
    have XS := Hd.mk (size_calls H7.out.ta.t)
    rw [hR] at XS
    clear hR
    go_wp2_with fail
    go_at_call 12
    with_reducible refine XS.out.mono ?_
    rintro _ w8 ⟨rfl, hb⟩
    have H8 := Hd.mk (H7.out.to hb)
    have HY8 := Hd.mk (HY7.out.to hb)
    have HZ8 := Hd.mk (HZ7.out.to hb)
    clear hb XS H7 HY7 HZ7
    go_wp2_with fail
    go_loopg [87] R (fun gk vj wx => ∃ (k : Nat), vj = .int .i64 (k : Int) ∧ Hd (k + gk = R) ∧ Hd (Below w8.heap.size w8 wx))
    case atStart => exact ⟨0, rfl, ⟨by omega⟩, ⟨Below.refl _ _⟩⟩
    case round =>
      obtain ⟨k, rfl, HJ, HB⟩ := hrel
      have h1 := HJ.out
      by_cases hlt : k < R
      · obtain ⟨d, rfl⟩ : ∃ d, gk = d + 1 := ⟨gk - 1, by omega⟩
        have l1 : decide ((k : Int) < (R : Int)) = true := decide_eq_true (by omega)
        have l2 : decide (k < R) = true := decide_eq_true hlt
        have l3 : (k : Int) < (R : Int) := by omega
        have l4 : (0 : Int) ≤ (k : Int) := by omega
        have l5 : (k : Int) ≤ 60 := by omega
        have hks : k < s2.l.length := by rw [HD.out]; exact hlt
        obtain ⟨row, hrw⟩ : ∃ row, s2.l.getD k [] = row := ⟨_, rfl⟩
        have HROW := Hd.mk hrw
        have HLR : Hd (row.length ≤ 1000) := ⟨by rw [← hrw, ← getD_get hks, (K3.out.ok.rowAt hks).1]; have := K3.out.ok.c2; omega⟩
        clear hrw
        have XR := Hd.mk (row_at (H8.out.to HB.out).ta.t K3.out.ok (k := k) hks)
        rw [HROW.out] at XR
        go_wp2_with fail
        go_wp2_with fail
        go_at_call 14
        with_reducible refine XR.out.mono ?_
        rintro _ wa1 ⟨r1, rfl, hrn, hrg, hr, hb⟩
        have HBa := Hd.mk (HB.out.trans (hb.mono HB.out.size))
        have XO := Hd.mk (old_calls hr HLR.out)
        clear XR hrn hrg hr hb HB
        go_wp2_with fail
        go_wp2_with fail
        go_at_call 20
        with_reducible refine XO.out.mono ?_
        rintro _ wb1 ⟨A1, c1, rfl, hc1, hC1, hb⟩
        have HBb := Hd.mk (HBa.out.trans (hb.mono HBa.out.size))
        have HC1 := Hd.mk (And.intro hc1 hC1)
        clear XO hc1 hC1 hb HBa
        have XR := Hd.mk (row_at (HY8.out.to HBb.out).ta.t K3.out.ok (k := k) hks)
        rw [HROW.out] at XR
        go_wp2_with fail
        go_wp2_with fail
        go_at_call 14
        with_reducible refine XR.out.mono ?_
        rintro _ wc1 ⟨r2, rfl, hrn, hrg, hr, hb⟩
        have HBc := Hd.mk (HBb.out.trans (hb.mono HBb.out.size))
        have HCb := Hd.mk (Kd.C_below HC1.out.2 hb)
        have XO := Hd.mk (old_calls hr HLR.out)
        clear XR hrn hrg hr hb HBb
        go_wp2_with fail
        go_wp2_with fail
        go_at_call 20
        with_reducible refine XO.out.mono ?_
        rintro _ wd1 ⟨A2, c2, rfl, hc2, hC2, hb⟩
        have HBd := Hd.mk (HBc.out.trans (hb.mono HBc.out.size))
        have XS := Hd.mk (same_calls (n := row.length) rfl HLR.out (Kd.C_below HCb.out hb) hC2 HC1.out.1 hc2)
        clear XO hc2 hC2 hb HBc HC1 HCb
        go_wp2_with fail
        go_wp2_with fail
        go_at_call 19
        with_reducible refine XS.out.mono ?_
        rintro _ we1 ⟨rfl, hb⟩
        have HBm := Hd.mk (HBd.out.trans (hb.mono HBd.out.size))
        clear XS hb HBd
        have XR := Hd.mk (row_at (H8.out.to HBm.out).ta.t K3.out.ok (k := k) hks)
        rw [HROW.out] at XR
        go_wp2_with fail
        go_wp2_with fail
        go_at_call 14
        with_reducible refine XR.out.mono ?_
        rintro _ wa2 ⟨r1, rfl, hrn, hrg, hr, hb⟩
        have HBa := Hd.mk (HBm.out.trans (hb.mono HBm.out.size))
        have XO := Hd.mk (old_calls hr HLR.out)
        clear XR hrn hrg hr hb HBm
        go_wp2_with fail
        go_wp2_with fail
        go_at_call 20
        with_reducible refine XO.out.mono ?_
        rintro _ wb2 ⟨A1, c1, rfl, hc1, hC1, hb⟩
        have HBb := Hd.mk (HBa.out.trans (hb.mono HBa.out.size))
        have HC1 := Hd.mk (And.intro hc1 hC1)
        clear XO hc1 hC1 hb HBa
        have XR := Hd.mk (row_at (HZ8.out.to HBb.out).ta.t K3.out.ok (k := k) hks)
        rw [HROW.out] at XR
        go_wp2_with fail
        go_wp2_with fail
        go_at_call 14
        with_reducible refine XR.out.mono ?_
        rintro _ wc2 ⟨r2, rfl, hrn, hrg, hr, hb⟩
        have HBc := Hd.mk (HBb.out.trans (hb.mono HBb.out.size))
        have HCb := Hd.mk (Kd.C_below HC1.out.2 hb)
        have XO := Hd.mk (old_calls hr HLR.out)
        clear XR hrn hrg hr hb HBb
        go_wp2_with fail
        go_wp2_with fail
        go_at_call 20
        with_reducible refine XO.out.mono ?_
        rintro _ wd2 ⟨A2, c2, rfl, hc2, hC2, hb⟩
        have HBd := Hd.mk (HBc.out.trans (hb.mono HBc.out.size))
        have XS := Hd.mk (same_calls (n := row.length) rfl HLR.out (Kd.C_below HCb.out hb) hC2 HC1.out.1 hc2)
        clear XO hc2 hC2 hb HBc HC1 HCb
        go_wp2_with fail
        go_wp2_with fail
        go_at_call 19
        with_reducible refine XS.out.mono ?_
        rintro _ we2 ⟨rfl, hb⟩
        have HBn := Hd.mk (HBd.out.trans (hb.mono HBd.out.size))
        clear XS hb HBd
        go_wp2
        go_roundg d
        case measure => omega
        case rel => exact ⟨k + 1, by simp, ⟨by omega⟩, HBn⟩
      · have l1 : decide ((k : Int) < (R : Int)) = false := decide_eq_false (by omega)
        have l2 : decide (k < R) = false := decide_eq_false hlt
        have H9 := Hd.mk (H8.out.to HB.out)
        have HY9 := Hd.mk (HY8.out.to HB.out)
        have HZ9 := Hd.mk (HZ8.out.to HB.out)
        clear HB H8 HY8 HZ8
        go_wp2_with fail
        have XC := Hd.mk (cursor_calls H9.out.ta.t)
        go_wp2_with fail
        go_at_call 13
        with_reducible refine XC.out.mono ?_
        rintro _ wz10 ⟨rfl, hb⟩
        have H10 := Hd.mk (H9.out.to hb)
        have HY10 := Hd.mk (HY9.out.to hb)
        have HZ10 := Hd.mk (HZ9.out.to hb)
        clear XC hb H9 HY9 HZ9
        go_wp2_with fail
        have XC := Hd.mk (cursor_calls HY10.out.ta.t)
        go_wp2_with fail
        go_at_call 13
        with_reducible refine XC.out.mono ?_
        rintro _ wz11 ⟨rfl, hb⟩
        have H11 := Hd.mk (H10.out.to hb)
        have HY11 := Hd.mk (HY10.out.to hb)
        have HZ11 := Hd.mk (HZ10.out.to hb)
        clear XC hb H10 HY10 HZ10
        go_wp2_with fail
        have XC := Hd.mk (cursor_calls HZ11.out.ta.t)
        go_wp2_with fail
        go_at_call 13
        with_reducible refine XC.out.mono ?_
        rintro _ wz12 ⟨rfl, hb⟩
        have H12 := Hd.mk (H11.out.to hb)
        have HY12 := Hd.mk (HY11.out.to hb)
        have HZ12 := Hd.mk (HZ11.out.to hb)
        clear XC hb H11 HY11 HZ11
        go_wp2_with fail
        have XC := Hd.mk (alive_calls wz12 (HT.out.below H12.out.bl))
        go_wp2_with fail
        go_at_call 11
        with_reducible refine XC.out.mono ?_
        rintro _ wz13 ⟨rfl, hb⟩
        have H13 := Hd.mk (H12.out.to hb)
        have HY13 := Hd.mk (HY12.out.to hb)
        have HZ13 := Hd.mk (HZ12.out.to hb)
        clear XC hb H12 HY12 HZ12
        go_wp2_with fail
        have XC := Hd.mk (off_calls H13.out.ta.t)
        go_wp2_with fail
        go_at_call 21
        with_reducible refine XC.out.mono ?_
        rintro _ wz14 ⟨rfl, hb⟩
        have H14 := Hd.mk (H13.out.to hb)
        have HY14 := Hd.mk (HY13.out.to hb)
        have HZ14 := Hd.mk (HZ13.out.to hb)
        clear XC hb H13 HY13 HZ13
        go_wp2_with fail
        have XC := Hd.mk (off_calls HY14.out.ta.t)
        go_wp2_with fail
        go_at_call 21
        with_reducible refine XC.out.mono ?_
        rintro _ wz15 ⟨rfl, hb⟩
        have H15 := Hd.mk (H14.out.to hb)
        have HY15 := Hd.mk (HY14.out.to hb)
        have HZ15 := Hd.mk (HZ14.out.to hb)
        clear XC hb H14 HY14 HZ14
        go_wp2_with fail
        have XC := Hd.mk (off_calls H15.out.ta.t)
        go_wp2_with fail
        go_at_call 21
        with_reducible refine XC.out.mono ?_
        rintro _ wz16 ⟨rfl, hb⟩
        have H16 := Hd.mk (H15.out.to hb)
        have HY16 := Hd.mk (HY15.out.to hb)
        have HZ16 := Hd.mk (HZ15.out.to hb)
        clear XC hb H15 HY15 HZ15
        go_wp2_with fail
        have XC := Hd.mk (off_calls HZ16.out.ta.t)
        go_wp2_with fail
        go_at_call 21
        with_reducible refine XC.out.mono ?_
        rintro _ wz17 ⟨rfl, hb⟩
        have H17 := Hd.mk (H16.out.to hb)
        have HY17 := Hd.mk (HY16.out.to hb)
        have HZ17 := Hd.mk (HZ16.out.to hb)
        clear XC hb H16 HY16 HZ16
        go_wp2_with fail
        have XC := Hd.mk (full_calls H17.out.ta.t)
        go_wp2_with fail
        go_at_call 15
        with_reducible refine XC.out.mono ?_
        rintro _ wz18 ⟨rfl, hb⟩
        have H18 := Hd.mk (H17.out.to hb)
        have HY18 := Hd.mk (HY17.out.to hb)
        have HZ18 := Hd.mk (HZ17.out.to hb)
        clear XC hb H17 HY17 HZ17
        go_wp2_with fail
        have XC := Hd.mk (full_calls HY18.out.ta.t)
        go_wp2_with fail
        go_at_call 15
        with_reducible refine XC.out.mono ?_
        rintro _ wz19 ⟨rfl, hb⟩
        have H19 := Hd.mk (H18.out.to hb)
        have HY19 := Hd.mk (HY18.out.to hb)
        have HZ19 := Hd.mk (HZ18.out.to hb)
        clear XC hb H18 HY18 HZ18
        go_wp2_with fail
        go_ret
        exact ⟨rfl, H19.out.bl⟩
theorem parts_walk {cs : Array Value} {x : Int × Int} (kk : Int) {A : Option Addr} {c : Nat} {xs : List Int} {w : World} (hK : kArr2.K w x cs.toList) (hc : xs.length ≤ c) (hC : (Kd.int .u8).C w A xs.length xs) (hQ : xs.length * Tryz.prog.bytesOf 5 ≤ reachBytes ∧ ∀ x ∈ xs, (Lit.int .u8 x).wf = true) (hT : TabsT w) :
    Calls Tryz.prog 4 #[.agg cs, .slice A xs.length c, .int .i64 kk] w fun e w' => e = .returned (.bool true) ∧ Below w.heap.size w w' := by
  obtain rfl : cs = #[.int .i64 x.1, .int .i64 x.2] := Array.toList_inj.1 (kArr2_open hK)
  by_cases h : xs.length ≤ 800 ∧ x.1 ≤ 20 ∧ x.2 ≤ 20 ∧ 0 ≤ kk ∧ kk ≤ xs.length
  · obtain ⟨N, rfl⟩ : ∃ N : Nat, kk = N := ⟨kk.toNat, by omega⟩
    exact parts_good x.1 x.2 N hc hC hQ.2 hT h.1 h.2.1 h.2.2.1 (by omega)
  · exact parts_bad x.1 x.2 kk hc hC hQ.2 hT h
end Go.Proofs.YtgifpkjcggnhgaaGreatDoorL

