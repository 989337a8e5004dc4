/- Parts of the proof of the law that the last file states; declarations that nothing mentions are left out by a program. No conditions. -/
import Derived.Test.YtgifpkjcggnhgaaGreatDoorLTermMPq
set_option linter.unusedVariables false
set_option linter.unusedSimpArgs false
namespace Go.Proofs.YtgifpkjcggnhgaaGreatDoorL
open Go Go.RowKit Go.Proofs.YtgifpkjcggnhgaaGreatDoorW.PrintWords Go.Proofs.YtgifpkjcggnhgaaGreatDoor.K
set_option maxRecDepth 100000 in
set_option maxHeartbeats 4000000 in
theorem moves_walk (a b : Int) {A : Option Addr} {c : Nat} {l : List S46} {w : World} (hc : l.length ≤ c) (hE : Kd.C k46 w A l.length l) (hQ : l.length * Tryz.prog.bytesOf 46 ≤ reachBytes ∧ ∀ x ∈ l, SizedE x) (hT : TabsT w) {A2 : Option Addr} {c2 : Nat} {l2 : List (Int × Int)} (hc2 : l2.length ≤ c2) (hM : Kd.C kArr2 w A2 l2.length l2) :
    Calls Tryz.prog 8 #[.agg #[.int .i64 a, .int .i64 b], .slice A l.length c, .slice A2 l2.length c2] w fun e w' => e = .returned (.bool true) ∧ Below w.heap.size w w' := by
  have HB0 := Hd.mk ((Below.refl w.heap.size w).alloc (Nat.le_refl _) (.cells #[.int .i64 a, .int .i64 b] 22))
  have XB := Hd.mk (begin_calls a b hc (Kd.C_below hE HB0.out) hQ (hT.below HB0.out))
  have HT := Hd.mk hT
  have hcv := fun W C n c => Lib.run_convert_bytes_const (P := Tryz.prog) W 34 5 C n c Tryz.underlying34 Tryz.underlying5
  generalize l.length = ll at *
  clear hc hE hQ hT
  have HM := Hd.mk hM
  obtain ⟨n2, hn2⟩ : ∃ n2, l2.length = n2 := ⟨_, rfl⟩
  have HN2 := Hd.mk hn2
  rw [hn2]
  clear hM hn2 hc2
  go_enter Tryz.func8, Tryz.ntmps8
  go_wp2_with fail
  go_at_call 10
  with_reducible refine XB.out.mono ?_
  rintro e1 w1 ⟨hb, he⟩
  have HB1 := Hd.mk (HB0.out.trans (hb.mono HB0.out.size))
  rcases he with rfl | ⟨T, F, s, rfl, hst, hk⟩
  · clear hb XB
    go_wp2_with fail
    have XA := Hd.mk (alive_calls w1 (HT.out.below HB1.out))
    go_at_call 11
    with_reducible refine XA.out.mono ?_
    rintro _ w3 ⟨rfl, hb⟩
    have HB2 := Hd.mk (HB1.out.trans (hb.mono HB1.out.size))
    clear hb XA HB1
    go_wp2_with fail
    go_ret
    exact ⟨rfl, HB2.out⟩
  · skip
    have H1 : Hd (St w w1 F T s) := ⟨⟨hst.ta, fun k hk => Nat.le_trans HB0.out.size (hst.own k hk), HB1.out⟩⟩
    have K1 := Hd.mk hk
    clear hb hst hk XB HB1 HB0
    by_cases c1 : 30 < n2
    · have d1 : decide ((30 : Int) < (n2 : Int)) = true := decide_eq_true (by omega)
      have d2 : decide (30 < n2) = true := decide_eq_true c1
      have d3 : (30 : Int) < (n2 : Int) := by omega
      go_wp2_with fail
      have XA := Hd.mk (alive_calls w1 (HT.out.below H1.out.bl))
      go_at_call 11
      with_reducible refine XA.out.mono ?_
      rintro _ w3 ⟨rfl, hb⟩
      have H3 := Hd.mk (H1.out.to hb)
      clear hb XA
      go_wp2_with fail
      go_ret
      exact ⟨rfl, H3.out.bl⟩
    have d1 : decide ((30 : Int) < (n2 : Int)) = false := decide_eq_false (by omega)
    have d2 : decide (30 < n2) = false := decide_eq_false c1
    have n1 : (n2 : Int) ≤ 30 := by omega
    have n0 : n2 ≤ 30 := by omega
    obtain ⟨R, hR⟩ : ∃ R, s.l.length = R := ⟨_, rfl⟩
    obtain ⟨C, hC⟩ : ∃ C, s.cols = C := ⟨_, rfl⟩
    have hR60 : R ≤ 60 := by rw [← hR]; exact K1.out.ok.r2
    have hC120 : C ≤ 120 := by rw [← hC]; exact K1.out.ok.c2
    have hC1 : 1 ≤ C := by rw [← hC]; exact K1.out.ok.c1
    have hR1 : 1 ≤ R := by rw [← hR]; exact K1.out.ok.r1
    have e1 : (R : Int) ≤ 60 := by omega
    have e2 : (C : Int) ≤ 120 := by omega
    have e3 : (1 : Int) ≤ (R : Int) := by omega
    have e4 : (1 : Int) ≤ (C : Int) := by omega
    have HS1 := Hd.mk (settle s K1.out.ok.inn).1
    have HD1 : Hd ((s.feed [24, 13]).l.length = R ∧ (s.feed [24, 13]).cols = C) := ⟨by have h := dims_feed [24, 13] s K1.out.ok.r1; rw [h.1, h.2]; exact ⟨hR, hC⟩⟩
    have K2 : Hd (TK 40064 (s.feed [24, 13])) := ⟨K1.out.feed [24, 13]⟩
    have XF := Hd.mk (feed_lit (n := 2) (c := 2) (l := [24, 13]) H1.out.ta K1.out rfl (by first | (simp; done) | (simp; omega)) (HT.out.below H1.out.bl) (H1.out.outT HT.out) (2, 3))
    rw [show (List.map (fun b : UInt8 => Value.int .u8 (b.toNat : Int)) [24, 13]).toArray = #[.int .u8 24, .int .u8 13] from rfl] at XF
    clear K1 hR hC
    generalize s.feed [24, 13] = s1 at *
    go_wp2_with fail
    go_wp2_with fail
    go_at_call 17
    with_reducible refine XF.out.mono ?_
    rintro _ w2 ⟨rfl, ht⟩
    obtain ⟨F2, S2, hsub, hon⟩ := St.told (H1.out.alloc _) ht
    have H2 := Hd.mk S2
    clear ht S2 hsub hon XF H1 hcv
    go_wp2_with fail
    have XC := Hd.mk (copy_ta H2.out.ta K2.out)
    go_wp2_with fail
    go_at_call 18
    with_reducible refine XC.out.mono ?_
    rintro _ w3 ⟨T2, rfl, ⟨F3, hta, hF⟩, hb⟩
    have HC3 := Hd.mk (St.new H2.out.bl hta hF hb)
    have HDJ : Hd (∀ k, F3 k → ¬ F2 k) := ⟨fun k hk hk2 => by have := hF k hk; have := H2.out.ta.lt _ hk2; omega⟩
    have H3 := Hd.mk (H2.out.to hb)
    clear hta hF hb XC H2
    go_wp2_with fail
    have XS := Hd.mk (size_calls H3.out.ta.t)
    rw [HD1.out.1, HD1.out.2] at XS
    go_wp2_with fail
    go_at_call 12
    with_reducible refine XS.out.mono ?_
    rintro _ w4 ⟨rfl, hb⟩
    have H4 := Hd.mk (H3.out.to hb)
    have HC4 := Hd.mk (HC3.out.to hb)
    clear XS hb H3 HC3
    go_wp2_with fail
    obtain ⟨r0, hr0⟩ : ∃ r0, s1.row = r0 := ⟨_, rfl⟩
    obtain ⟨c0, hc0⟩ : ∃ c0, s1.col = c0 := ⟨_, rfl⟩
    have HRC := Hd.mk (And.intro hr0 hc0)
    have XC := Hd.mk (cursor_calls H4.out.ta.t)
    rw [hr0, hc0] at XC
    go_wp2_with fail
    go_at_call 13
    with_reducible refine XC.out.mono ?_
    rintro _ w5 ⟨rfl, hb⟩
    have H5 := Hd.mk (H4.out.to hb)
    have HC5 := Hd.mk (HC4.out.to hb)
    clear XC hb H4 HC4 hr0 hc0
    go_wp2_with fail
    go_loopg [49, 11, 12] n2 (fun gk vj vr vc wx => ∃ (j r c : Nat) (F : Nat → Prop) (s : Tm), vj = .int .i64 (j : Int) ∧ vr = .int .i64 (r : Int) ∧ vc = .int .i64 (c : Int) ∧ Hd (j + gk = n2) ∧ Hd (St w wx F T s) ∧ Hd (St w wx F3 T2 s1) ∧ Hd (∀ k, F3 k → ¬ F k) ∧ Hd (TK (40064 + 192 * j) s) ∧ Hd (Calm s ∧ s.row = r ∧ s.col = c) ∧ Hd (s.l = s1.l ∧ s.off = s1.off ∧ s.cols = C))
    case atStart => exact ⟨0, r0, c0, F2, s1, rfl, rfl, rfl, ⟨by omega⟩, H5, HC5, HDJ, K2, ⟨⟨HS1.out, HRC.out⟩⟩, ⟨⟨rfl, rfl, HD1.out.2⟩⟩⟩
    case round =>
      clear H5 HC5 HDJ HS1 HRC
      obtain ⟨j, r, c, F, s, rfl, rfl, rfl, HJ, H5, HC5, HDJ, K5, HS5, HE5⟩ := hrel
      have h1 := HJ.out
      by_cases hlt : j < n2
      · obtain ⟨d, rfl⟩ : ∃ d, gk = d + 1 := ⟨gk - 1, by omega⟩
        have l1 : decide ((j : Int) < (n2 : Int)) = true := decide_eq_true (by omega)
        have l2' : decide (j < n2) = true := decide_eq_true hlt
        have l3 : (j : Int) < (n2 : Int) := by omega
        have l4 : (0 : Int) ≤ (j : Int) := by omega
        have l5 : (j : Int) ≤ 30 := by omega
        have hjl : j < l2.length := by rw [HN2.out]; exact hlt
        obtain ⟨ad, rfl, m0, m1⟩ := mv_at HM.out H5.out.bl hjl
        clear HM
        generalize l2[j].1 = way at *
        generalize l2[j].2 = nn at *
        clear hjl
        have HR5 : Hd (r < R ∧ c < C) := ⟨by have h1 := K5.out.ok.row; have h2 := K5.out.ok.col; rw [HE5.out.1, HD1.out.1, HS5.out.2.1] at h1; rw [HE5.out.2.2, HS5.out.2.2] at h2; exact ⟨h1, h2⟩⟩
        by_cases t1 : nn < 1
        · have t1' : decide (nn < 1) = true := decide_eq_true t1
          go_wp2
          go_roundg d
          case measure => omega
          case rel => exact ⟨j + 1, r, c, F, s, by simp, rfl, rfl, ⟨by omega⟩, ⟨H5.out.alloc _⟩, ⟨HC5.out.alloc _⟩, HDJ, ⟨K5.out.mono (by omega)⟩, HS5, HE5⟩
        have t1' : decide (nn < 1) = false := decide_eq_false t1
        by_cases t2 : 999 < nn
        · have t2' : decide (999 < nn) = true := decide_eq_true t2
          go_wp2
          go_roundg d
          case measure => omega
          case rel => exact ⟨j + 1, r, c, F, s, by simp, rfl, rfl, ⟨by omega⟩, ⟨H5.out.alloc _⟩, ⟨HC5.out.alloc _⟩, HDJ, ⟨K5.out.mono (by omega)⟩, HS5, HE5⟩
        have t2' : decide (999 < nn) = false := decide_eq_false t2
        by_cases t3 : way < 0
        · have t3' : decide (way < 0) = true := decide_eq_true t3
          go_wp2
          go_roundg d
          case measure => omega
          case rel => exact ⟨j + 1, r, c, F, s, by simp, rfl, rfl, ⟨by omega⟩, ⟨H5.out.alloc _⟩, ⟨HC5.out.alloc _⟩, HDJ, ⟨K5.out.mono (by omega)⟩, HS5, HE5⟩
        have t3' : decide (way < 0) = false := decide_eq_false t3
        by_cases t4 : 3 < way
        · have t4' : decide (3 < way) = true := decide_eq_true t4
          go_wp2
          go_roundg d
          case measure => omega
          case rel => exact ⟨j + 1, r, c, F, s, by simp, rfl, rfl, ⟨by omega⟩, ⟨H5.out.alloc _⟩, ⟨HC5.out.alloc _⟩, HDJ, ⟨K5.out.mono (by omega)⟩, HS5, HE5⟩
        have t4' : decide (3 < way) = false := decide_eq_false t4
        obtain ⟨n, rfl⟩ : ∃ n : Nat, nn = n := ⟨nn.toNat, by omega⟩
        have o1 : 1 ≤ n := by omega
        have o2 : n ≤ 999 := by omega
        obtain ⟨dA, hdA⟩ : ∃ dA, dgt (n / 100) = dA := ⟨_, rfl⟩
        obtain ⟨dB, hdB⟩ : ∃ dB, dgt (n / 10 % 10) = dB := ⟨_, rfl⟩
        obtain ⟨dC, hdC⟩ : ∃ dC, dgt (n % 10) = dC := ⟨_, rfl⟩
        have vA : (dA.toNat : Int) = 48 + (n : Int) / 100 := by rw [← hdA, dgt_nat (by omega)]; omega
        have vB : (dB.toNat : Int) = 48 + (n : Int) / 10 % 10 := by rw [← hdB, dgt_nat (by omega)]; omega
        have vC : (dC.toNat : Int) = 48 + (n : Int) % 10 := by rw [← hdC, dgt_nat (by omega)]; omega
        have HVA := Hd.mk vA
        have HVB := Hd.mk vB
        have HVC := Hd.mk vC
        clear vA vB vC
        have HCV := Hd.mk (fun W s => Lib.run_convert_string_bytes (P := Tryz.prog) W 9 34 5 s Tryz.underlying9 Tryz.underlying34 Tryz.underlying5)
        rcases (by omega : way = 0 ∨ way = 1 ∨ way = 2 ∨ way = 3) with rfl | rfl | rfl | rfl
        · have HMV := Hd.mk (mv_feed (k := 0) HS5.out.1 (HE5.out.1 ▸ HD1.out.1) HE5.out.2.2 (by rw [HS5.out.2.1]; exact HR5.out.1) (by rw [HS5.out.2.2]; exact HR5.out.2) (by omega) o1 o2)
          rw [hdA, hdB, hdC, show UInt8.ofNat (65 + 0) = 65 from rfl, HS5.out.2.1, HS5.out.2.2] at HMV
          clear hdA hdB hdC
          have K6 : Hd (TK (40064 + 192 * (j + 1)) (s.feed [27, 91, dA, dB, dC, 65])) := ⟨(K5.out.feed [27, 91, dA, dB, dC, 65]).mono (by show 40064 + 192 * j + 32 * 6 ≤ _; omega)⟩
          have XF : Hd (∀ (wz : World), Below wr.heap.size wr wz → ∀ (cc : Nat), Calls Tryz.prog 17 #[.pointer (some ⟨T, 0, none⟩), .slice (some ⟨wz.heap.size, 0, none⟩) 6 cc] (Lib.bytesWorld wz 5 ⟨#[27, 91, dA, dB, dC, 65]⟩) fun e w' => e = .returned (.tuple #[]) ∧ Told F (Lib.bytesWorld wz 5 ⟨#[27, 91, dA, dB, dC, 65]⟩) T (s.feed [27, 91, dA, dB, dC, 65]) w') := ⟨fun wz hb cc => feed_str (H5.out.to hb) K5.out HT.out ⟨#[27, 91, dA, dB, dC, 65]⟩ cc (by show 40064 + 192 * j + 32 * 6 + 64 ≤ _; omega)⟩
          have HCC : Hd ((s.feed [27, 91, dA, dB, dC, 65]).cols = C) := ⟨by have h := dims_feed [27, 91, dA, dB, dC, 65] s K5.out.ok.r1; rw [h.1]; exact HE5.out.2.2⟩
          generalize s.feed [27, 91, dA, dB, dC, 65] = s2 at *
          clear K5 t3 t4 t3' t4'
          go_upto_region 14 with fail
          rename_i KQ hKQ
          refine regionH (fun w' : World => Blk w' wr.heap.size 53 #[.int .i64 0, .int .i64 (n : Int)]) (by kernel_rfl) (fun wd hb => ?_)
          have hBl := ((Below.refl wr.heap.size wr).alloc (Nat.le_refl _) (.cells #[.int .i64 0, .int .i64 (n : Int)] 53)).trans (hb.mono (by simp))
          have hHd : (fun w' : World => Blk w' wr.heap.size 53 #[.int .i64 0, .int .i64 (n : Int)]) wd := (Blk.new wr 53 #[.int .i64 0, .int .i64 (n : Int)]).belowB hb (by simp)
          clear hb
          refine takeH (i := 0) (v := ?v1) rfl (by kernel_rfl) (by kernel_rfl) (by kernel_rfl) (fun _ _ _ h => h) (Or.inl ⟨by rfl, ?hy1⟩) (by assumption) ?rest1
          case hy1 => (intro w hSw; (try dsimp only at hSw); go_simp; try (with_reducible rfl))
          case rest1 =>
          try simp only [Act.put, List.setIfInBounds_toArray, List.set_cons_zero, List.set_cons_succ]
          refine takeH (i := 1) (v := ?v2) rfl (by kernel_rfl) (by kernel_rfl) (by kernel_rfl) (fun _ _ _ h => h) (Or.inl ⟨by rfl, ?hy2⟩) (by assumption) ?rest2
          case hy2 => (intro w hSw; (try dsimp only at hSw); go_simp; try (with_reducible rfl))
          case rest2 =>
          try simp only [Act.put, List.setIfInBounds_toArray, List.set_cons_zero, List.set_cons_succ]
          refine takeH (i := 2) (v := (.int .i64 (n : Int))) rfl (by kernel_rfl) (by kernel_rfl) (by kernel_rfl) (fun _ _ _ h => h) (Or.inl ⟨by rfl, ?hy3⟩) (by assumption) ?rest3
          case hy3 => (intro w hSw; (try dsimp only at hSw); have c0 := Blk.cell hSw 0 rfl; have c1 := Blk.cell hSw 1 rfl; go_simp; first | done | rfl)
          case rest3 =>
          try simp only [Act.put, List.setIfInBounds_toArray, List.set_cons_zero, List.set_cons_succ]
          refine takeH (i := 3) (v := (.int .i64 ((n : Int) / 100))) rfl (by kernel_rfl) (by kernel_rfl) (by kernel_rfl) (fun _ _ _ h => h) (Or.inl ⟨by rfl, ?hy4⟩) (by assumption) ?rest4
          case hy4 => (intro w hSw; (try dsimp only at hSw); go_simp; first | done | rfl | (congr 1; (try rw [IntKind.wrap_i64]); (try rw [IntKind.wrap_u8]); omega))
          case rest4 =>
          try simp only [Act.put, List.setIfInBounds_toArray, List.set_cons_zero, List.set_cons_succ]
          refine takeH (i := 4) (v := (.int .i64 (48 + (n : Int) / 100))) rfl (by kernel_rfl) (by kernel_rfl) (by kernel_rfl) (fun _ _ _ h => h) (Or.inl ⟨by rfl, ?hy5⟩) (by assumption) ?rest5
          case hy5 => (intro w hSw; (try dsimp only at hSw); go_simp; first | done | rfl | (congr 1; (try rw [IntKind.wrap_i64]); (try rw [IntKind.wrap_u8]); omega))
          case rest5 =>
          try simp only [Act.put, List.setIfInBounds_toArray, List.set_cons_zero, List.set_cons_succ]
          refine takeH (i := 5) (v := (.int .u8 (dA.toNat : Int))) rfl (by kernel_rfl) (by kernel_rfl) (by kernel_rfl) (fun _ _ _ h => h) (Or.inl ⟨by rfl, ?hy6⟩) (by assumption) ?rest6
          case hy6 => (intro w hSw; (try dsimp only at hSw); rw [HVA.out]; go_simp; first | done | rfl | (congr 1; (try rw [IntKind.wrap_i64]); (try rw [IntKind.wrap_u8]); omega))
          case rest6 =>
          try simp only [Act.put, List.setIfInBounds_toArray, List.set_cons_zero, List.set_cons_succ]
          refine takeH (i := 6) (v := ?v7) rfl (by kernel_rfl) (by kernel_rfl) (by kernel_rfl) (fun _ _ _ h => h) (Or.inl ⟨by rfl, ?hy7⟩) (by assumption) ?rest7
          case hy7 => (intro w hSw; (try dsimp only at hSw); go_simp; try (with_reducible rfl))
          case rest7 =>
          try simp only [Act.put, List.setIfInBounds_toArray, List.set_cons_zero, List.set_cons_succ]
          refine takeH (i := 7) (v := (.int .i64 (n : Int))) rfl (by kernel_rfl) (by kernel_rfl) (by kernel_rfl) (fun _ _ _ h => h) (Or.inl ⟨by rfl, ?hy8⟩) (by assumption) ?rest8
          case hy8 => (intro w hSw; (try dsimp only at hSw); have c0 := Blk.cell hSw 0 rfl; have c1 := Blk.cell hSw 1 rfl; go_simp; first | done | rfl)
          case rest8 =>
          try simp only [Act.put, List.setIfInBounds_toArray, List.set_cons_zero, List.set_cons_succ]
          refine takeH (i := 8) (v := (.int .i64 ((n : Int) / 10))) rfl (by kernel_rfl) (by kernel_rfl) (by kernel_rfl) (fun _ _ _ h => h) (Or.inl ⟨by rfl, ?hy9⟩) (by assumption) ?rest9
          case hy9 => (intro w hSw; (try dsimp only at hSw); go_simp; first | done | rfl | (congr 1; (try rw [IntKind.wrap_i64]); (try rw [IntKind.wrap_u8]); omega))
          case rest9 =>
          try simp only [Act.put, List.setIfInBounds_toArray, List.set_cons_zero, List.set_cons_succ]
          refine takeH (i := 9) (v := (.int .i64 ((n : Int) / 10 % 10))) rfl (by kernel_rfl) (by kernel_rfl) (by kernel_rfl) (fun _ _ _ h => h) (Or.inl ⟨by rfl, ?hy10⟩) (by assumption) ?rest10
          case hy10 => (intro w hSw; (try dsimp only at hSw); go_simp; first | done | rfl | (congr 1; (try rw [IntKind.wrap_i64]); (try rw [IntKind.wrap_u8]); omega))
          case rest10 =>
          try simp only [Act.put, List.setIfInBounds_toArray, List.set_cons_zero, List.set_cons_succ]
          refine takeH (i := 10) (v := (.int .i64 (48 + (n : Int) / 10 % 10))) rfl (by kernel_rfl) (by kernel_rfl) (by kernel_rfl) (fun _ _ _ h => h) (Or.inl ⟨by rfl, ?hy11⟩) (by assumption) ?rest11
          case hy11 => (intro w hSw; (try dsimp only at hSw); go_simp; first | done | rfl | (congr 1; (try rw [IntKind.wrap_i64]); (try rw [IntKind.wrap_u8]); omega))
          case rest11 =>
          try simp only [Act.put, List.setIfInBounds_toArray, List.set_cons_zero, List.set_cons_succ]
          refine takeH (i := 11) (v := (.int .u8 (dB.toNat : Int))) rfl (by kernel_rfl) (by kernel_rfl) (by kernel_rfl) (fun _ _ _ h => h) (Or.inl ⟨by rfl, ?hy12⟩) (by assumption) ?rest12
          case hy12 => (intro w hSw; (try dsimp only at hSw); rw [HVB.out]; go_simp; first | done | rfl | (congr 1; (try rw [IntKind.wrap_i64]); (try rw [IntKind.wrap_u8]); omega))
          case rest12 =>
          try simp only [Act.put, List.setIfInBounds_toArray, List.set_cons_zero, List.set_cons_succ]
          refine takeH (i := 12) (v := ?v13) rfl (by kernel_rfl) (by kernel_rfl) (by kernel_rfl) (fun _ _ _ h => h) (Or.inl ⟨by rfl, ?hy13⟩) (by assumption) ?rest13
          case hy13 => (intro w hSw; (try dsimp only at hSw); go_simp; try (with_reducible rfl))
          case rest13 =>
          try simp only [Act.put, List.setIfInBounds_toArray, List.set_cons_zero, List.set_cons_succ]
          refine takeH (i := 13) (v := (.int .i64 (n : Int))) rfl (by kernel_rfl) (by kernel_rfl) (by kernel_rfl) (fun _ _ _ h => h) (Or.inl ⟨by rfl, ?hy14⟩) (by assumption) ?rest14
          case hy14 => (intro w hSw; (try dsimp only at hSw); have c0 := Blk.cell hSw 0 rfl; have c1 := Blk.cell hSw 1 rfl; go_simp; first | done | rfl)
          case rest14 =>
          try simp only [Act.put, List.setIfInBounds_toArray, List.set_cons_zero, List.set_cons_succ]
          refine takeH (i := 14) (v := (.int .i64 ((n : Int) % 10))) rfl (by kernel_rfl) (by kernel_rfl) (by kernel_rfl) (fun _ _ _ h => h) (Or.inl ⟨by rfl, ?hy15⟩) (by assumption) ?rest15
          case hy15 => (intro w hSw; (try dsimp only at hSw); go_simp; first | done | rfl | (congr 1; (try rw [IntKind.wrap_i64]); (try rw [IntKind.wrap_u8]); omega))
          case rest15 =>
          try simp only [Act.put, List.setIfInBounds_toArray, List.set_cons_zero, List.set_cons_succ]
          refine takeH (i := 15) (v := (.int .i64 (48 + (n : Int) % 10))) rfl (by kernel_rfl) (by kernel_rfl) (by kernel_rfl) (fun _ _ _ h => h) (Or.inl ⟨by rfl, ?hy16⟩) (by assumption) ?rest16
          case hy16 => (intro w hSw; (try dsimp only at hSw); go_simp; first | done | rfl | (congr 1; (try rw [IntKind.wrap_i64]); (try rw [IntKind.wrap_u8]); omega))
          case rest16 =>
          try simp only [Act.put, List.setIfInBounds_toArray, List.set_cons_zero, List.set_cons_succ]
          refine takeH (i := 16) (v := (.int .u8 (dC.toNat : Int))) rfl (by kernel_rfl) (by kernel_rfl) (by kernel_rfl) (fun _ _ _ h => h) (Or.inl ⟨by rfl, ?hy17⟩) (by assumption) ?rest17
          case hy17 => (intro w hSw; (try dsimp only at hSw); rw [HVC.out]; go_simp; first | done | rfl | (congr 1; (try rw [IntKind.wrap_i64]); (try rw [IntKind.wrap_u8]); omega))
          case rest17 =>
          try simp only [Act.put, List.setIfInBounds_toArray, List.set_cons_zero, List.set_cons_succ]
          refine takeH (i := 17) (v := ?v18) rfl (by kernel_rfl) (by kernel_rfl) (by kernel_rfl) (fun _ _ _ h => h) (Or.inl ⟨by rfl, ?hy18⟩) (by assumption) ?rest18
          case hy18 => (intro w hSw; (try dsimp only at hSw); go_simp; try (with_reducible rfl))
          case rest18 =>
          try simp only [Act.put, List.setIfInBounds_toArray, List.set_cons_zero, List.set_cons_succ]
          refine takeH (i := 18) (v := (.int .i64 0)) rfl (by kernel_rfl) (by kernel_rfl) (by kernel_rfl) (fun _ _ _ h => h) (Or.inl ⟨by rfl, ?hy19⟩) (by assumption) ?rest19
          case hy19 => (intro w hSw; (try dsimp only at hSw); have c0 := Blk.cell hSw 0 rfl; have c1 := Blk.cell hSw 1 rfl; go_simp; first | done | rfl)
          case rest19 =>
          try simp only [Act.put, List.setIfInBounds_toArray, List.set_cons_zero, List.set_cons_succ]
          refine takeH (i := 19) (v := (.int .u8 65)) rfl (by kernel_rfl) (by kernel_rfl) (by kernel_rfl) (fun _ _ _ h => h) (Or.inl ⟨by rfl, ?hy20⟩) (by assumption) ?rest20
          case hy20 => (intro w hSw; (try dsimp only at hSw); go_simp; first | done | rfl)
          case rest20 =>
          try simp only [Act.put, List.setIfInBounds_toArray, List.set_cons_zero, List.set_cons_succ]
          refine wpAnyH_ready (rs := [20]) (by kernel_rfl) (by simp) ?_
          refine consH rfl (fun K hK => ?_) AllReadyH.nil
          go_simp
          have hHd2 : (fun w' : World => Blk w' wr.heap.size 53 #[.int .i64 0, .int .i64 (n : Int)]) (wd.alloc (.cells #[.int .u8 (dA.toNat : Int), .int .u8 (dB.toNat : Int), .int .u8 (dC.toNat : Int), .int .u8 65] 5)) := Blk.alloc hHd _
          have hBl2 : Below wr.heap.size wr (wd.alloc (.cells #[.int .u8 (dA.toNat : Int), .int .u8 (dB.toNat : Int), .int .u8 (dC.toNat : Int), .int .u8 65] 5)) := hBl.alloc hBl.size _
          refine hK.out _ _ hHd2 ?_
          clear hK K
          try simp only [Act.put, List.setIfInBounds_toArray, List.set_cons_zero, List.set_cons_succ]
          have hc4 : (convert 34 9 (.slice (some ⟨wd.heap.size, 0, none⟩) 4 4)).run Tryz.prog (wd.alloc (.cells #[.int .u8 (dA.toNat : Int), .int .u8 (dB.toNat : Int), .int .u8 (dC.toNat : Int), .int .u8 65] 5)) = .ok (.string ⟨#[dA, dB, dC, 65]⟩) (wd.alloc (.cells #[.int .u8 (dA.toNat : Int), .int .u8 (dB.toNat : Int), .int .u8 (dC.toNat : Int), .int .u8 65] 5)) := four_text wd dA dB dC 65 4
          refine wpAnyH_ready (rs := [21]) (by kernel_rfl) (by simp) ?_
          refine consH rfl (fun K hK => ?_) AllReadyH.nil
          go_simp
          refine hK.out _ _ hHd2 ?_
          clear hK K
          try simp only [Act.put, List.setIfInBounds_toArray, List.set_cons_zero, List.set_cons_succ]
          clear hc4
          refine takeH (i := 22) (v := (.string (⟨#[27, 91, dA, dB, dC, 65]⟩ : ByteArray))) rfl (by kernel_rfl) (by kernel_rfl) (by kernel_rfl) (fun _ _ _ h => h) (Or.inl ⟨by rfl, ?hy21⟩) (by assumption) ?rest21
          case hy21 => (intro w hSw; (try dsimp only at hSw); go_simp; first | done | rfl)
          case rest21 =>
          try simp only [Act.put, List.setIfInBounds_toArray, List.set_cons_zero, List.set_cons_succ]
          have hc6 := HCV.out (wd.alloc (.cells #[.int .u8 (dA.toNat : Int), .int .u8 (dB.toNat : Int), .int .u8 (dC.toNat : Int), .int .u8 65] 5)) (⟨#[27, 91, dA, dB, dC, 65]⟩ : ByteArray)
          rw [show (⟨#[27, 91, dA, dB, dC, 65]⟩ : ByteArray).size = 6 from rfl] at hc6
          refine wpAnyH_ready (rs := [23]) (by kernel_rfl) (by simp) ?_
          refine consH rfl (fun K hK => ?_) AllReadyH.nil
          go_simp
          have hHd3 : (fun w' : World => Blk w' wr.heap.size 53 #[.int .i64 0, .int .i64 (n : Int)]) (Lib.bytesWorld (wd.alloc (.cells #[.int .u8 (dA.toNat : Int), .int .u8 (dB.toNat : Int), .int .u8 (dC.toNat : Int), .int .u8 65] 5)) 5 (⟨#[27, 91, dA, dB, dC, 65]⟩ : ByteArray)) := Blk.belowW hHd2 (bytesW_below' _ _ _)
          refine hK.out _ _ hHd3 ?_
          clear hK K
          try simp only [Act.put, List.setIfInBounds_toArray, List.set_cons_zero, List.set_cons_succ]
          clear hc6
          have hX := fun cc => XF.out (wd.alloc (.cells #[.int .u8 (dA.toNat : Int), .int .u8 (dB.toNat : Int), .int .u8 (dC.toNat : Int), .int .u8 65] 5)) hBl2 cc
          simp only [show (wd.alloc (.cells #[.int .u8 (dA.toNat : Int), .int .u8 (dB.toNat : Int), .int .u8 (dC.toNat : Int), .int .u8 65] 5)).heap.size = wd.heap.size + 1 from by simp] at hX
          refine wpAnyH_ready (rs := [24]) (by kernel_rfl) (by simp) ?_
          refine consH rfl (fun K hK => ?_) AllReadyH.nil
          go_simp
          go_at_call 17
          with_reducible refine (hX _).mono ?_
          rintro _ w6 ⟨rfl, ht⟩
          have hBB := bytesW_below' (wd.alloc (.cells #[.int .u8 (dA.toNat : Int), .int .u8 (dB.toNat : Int), .int .u8 (dC.toNat : Int), .int .u8 65] 5)) 5 (⟨#[27, 91, dA, dB, dC, 65]⟩ : ByteArray)
          obtain ⟨F6, S6, hsub, hon⟩ := St.told ((H5.out.to hBl2).to hBB) ht
          have hHd4 : (fun w' : World => Blk w' wr.heap.size 53 #[.int .i64 0, .int .i64 (n : Int)]) w6 := Blk.to hHd3 (hon.block _ (Blk.lt hHd3) (fun hF => Nat.lt_irrefl _ (H5.out.ta.lt _ hF)))
          go_simp
          refine hK.out _ _ hHd4 ?_
          clear hK K
          try simp only [Act.put, List.setIfInBounds_toArray, List.set_cons_zero, List.set_cons_succ]
          refine wpAnyH_done (by kernel_rfl) ?_ _
          refine hKQ _ _ ?_
          have H6 := Hd.mk S6
          have HC6 := Hd.mk (St.other ((HC5.out.to hBl2).to hBB) hon HDJ.out S6.bl)
          have HDK : Hd (∀ k, F3 k → ¬ F6 k) := ⟨fun k hk hk2 => by rcases hsub k hk2 with h | h; exact HDJ.out k hk h; have := HC5.out.ta.lt k hk; have := hBl2.size; have := hBB.size; omega⟩
          have x0 := Blk.cell hHd4 0 rfl
          have x1 := Blk.cell hHd4 1 rfl
          clear hHd hHd2 hHd3 hHd4 hBl hBl2 hBB ht S6 hsub hon hX XF HCV H5 HC5 HDJ m0 m1 HVA HVB HVC hKQ
          have b1 : (r : Int) < (R : Int) := by have := HR5.out.1; omega
          have b2 : (c : Int) < (C : Int) := by have := HR5.out.2; omega
          have b3 : (0 : Int) ≤ (r : Int) := by omega
          have b4 : (0 : Int) ≤ (c : Int) := by omega
          have b5 : (n : Int) ≤ 999 := by omega
          have b6 : (1 : Int) ≤ (n : Int) := by omega
          obtain ⟨rn, hrn⟩ : ∃ rn, mvRow 0 n R r = rn := ⟨_, rfl⟩
          obtain ⟨cn, hcn⟩ : ∃ cn, mvCol 0 n C c = cn := ⟨_, rfl⟩
          rw [hrn, hcn] at HMV
          have hq : max ((r : Int) - (n : Int)) 0 = (rn : Int) := by rw [← hrn]; unfold mvRow; rw [if_pos rfl]; omega
          have hcc : cn = c := by rw [← hcn]; unfold mvCol; rw [if_neg (by omega), if_neg (by omega)]
          subst hcc
          clear hrn hcn
          have XC := Hd.mk (cursor_calls H6.out.ta.t)
          rw [HMV.out.2.1, HMV.out.2.2.1] at XC
          go_wp2_with fail
          go_at_call 13
          with_reducible refine XC.out.mono ?_
          rintro _ w7 ⟨rfl, hb⟩
          have H7 := Hd.mk (H6.out.to hb)
          have HC7 := Hd.mk (HC6.out.to hb)
          clear XC hb H6 HC6 x0 x1
          have XU := Hd.mk (full_calls H7.out.ta.t)
          rw [HMV.out.2.2.2.1] at XU
          go_wp2_with fail
          go_at_call 15
          with_reducible refine XU.out.mono ?_
          rintro _ w8 ⟨rfl, hb⟩
          have H8 := Hd.mk (H7.out.to hb)
          have HC8 := Hd.mk (HC7.out.to hb)
          clear XU hb H7 HC7
          have HE6 := Hd.mk (And.intro (HMV.out.2.2.2.2.1.trans HE5.out.1) (And.intro (HMV.out.2.2.2.2.2.trans HE5.out.2.1) HCC.out))
          have HS6 := Hd.mk (And.intro HMV.out.1 (And.intro HMV.out.2.1 HMV.out.2.2.1))
          clear HMV HE5 HCC HS5 hq
          go_wp2
          go_roundg d
          case measure => omega
          case rel => exact ⟨j + 1, rn, cn, F6, s2, by simp, rfl, rfl, ⟨by omega⟩, H8, HC8, HDK, K6, HS6, HE6⟩
        · have HMV := Hd.mk (mv_feed (k := 1) HS5.out.1 (HE5.out.1 ▸ HD1.out.1) HE5.out.2.2 (by rw [HS5.out.2.1]; exact HR5.out.1) (by rw [HS5.out.2.2]; exact HR5.out.2) (by omega) o1 o2)
          rw [hdA, hdB, hdC, show UInt8.ofNat (65 + 1) = 66 from rfl, HS5.out.2.1, HS5.out.2.2] at HMV
          clear hdA hdB hdC
          have K6 : Hd (TK (40064 + 192 * (j + 1)) (s.feed [27, 91, dA, dB, dC, 66])) := ⟨(K5.out.feed [27, 91, dA, dB, dC, 66]).mono (by show 40064 + 192 * j + 32 * 6 ≤ _; omega)⟩
          have XF : Hd (∀ (wz : World), Below wr.heap.size wr wz → ∀ (cc : Nat), Calls Tryz.prog 17 #[.pointer (some ⟨T, 0, none⟩), .slice (some ⟨wz.heap.size, 0, none⟩) 6 cc] (Lib.bytesWorld wz 5 ⟨#[27, 91, dA, dB, dC, 66]⟩) fun e w' => e = .returned (.tuple #[]) ∧ Told F (Lib.bytesWorld wz 5 ⟨#[27, 91, dA, dB, dC, 66]⟩) T (s.feed [27, 91, dA, dB, dC, 66]) w') := ⟨fun wz hb cc => feed_str (H5.out.to hb) K5.out HT.out ⟨#[27, 91, dA, dB, dC, 66]⟩ cc (by show 40064 + 192 * j + 32 * 6 + 64 ≤ _; omega)⟩
          have HCC : Hd ((s.feed [27, 91, dA, dB, dC, 66]).cols = C) := ⟨by have h := dims_feed [27, 91, dA, dB, dC, 66] s K5.out.ok.r1; rw [h.1]; exact HE5.out.2.2⟩
          generalize s.feed [27, 91, dA, dB, dC, 66] = s2 at *
          clear K5 t3 t4 t3' t4'
          go_upto_region 14 with fail
          rename_i KQ hKQ
          refine regionH (fun w' : World => Blk w' wr.heap.size 53 #[.int .i64 1, .int .i64 (n : Int)]) (by kernel_rfl) (fun wd hb => ?_)
          have hBl := ((Below.refl wr.heap.size wr).alloc (Nat.le_refl _) (.cells #[.int .i64 1, .int .i64 (n : Int)] 53)).trans (hb.mono (by simp))
          have hHd : (fun w' : World => Blk w' wr.heap.size 53 #[.int .i64 1, .int .i64 (n : Int)]) wd := (Blk.new wr 53 #[.int .i64 1, .int .i64 (n : Int)]).belowB hb (by simp)
          clear hb
          refine takeH (i := 0) (v := ?v22) rfl (by kernel_rfl) (by kernel_rfl) (by kernel_rfl) (fun _ _ _ h => h) (Or.inl ⟨by rfl, ?hy22⟩) (by assumption) ?rest22
          case hy22 => (intro w hSw; (try dsimp only at hSw); go_simp; try (with_reducible rfl))
          case rest22 =>
          try simp only [Act.put, List.setIfInBounds_toArray, List.set_cons_zero, List.set_cons_succ]
          refine takeH (i := 1) (v := ?v23) rfl (by kernel_rfl) (by kernel_rfl) (by kernel_rfl) (fun _ _ _ h => h) (Or.inl ⟨by rfl, ?hy23⟩) (by assumption) ?rest23
          case hy23 => (intro w hSw; (try dsimp only at hSw); go_simp; try (with_reducible rfl))
          case rest23 =>
          try simp only [Act.put, List.setIfInBounds_toArray, List.set_cons_zero, List.set_cons_succ]
          refine takeH (i := 2) (v := (.int .i64 (n : Int))) rfl (by kernel_rfl) (by kernel_rfl) (by kernel_rfl) (fun _ _ _ h => h) (Or.inl ⟨by rfl, ?hy24⟩) (by assumption) ?rest24
          case hy24 => (intro w hSw; (try dsimp only at hSw); have c0 := Blk.cell hSw 0 rfl; have c1 := Blk.cell hSw 1 rfl; go_simp; first | done | rfl)
          case rest24 =>
          try simp only [Act.put, List.setIfInBounds_toArray, List.set_cons_zero, List.set_cons_succ]
          refine takeH (i := 3) (v := (.int .i64 ((n : Int) / 100))) rfl (by kernel_rfl) (by kernel_rfl) (by kernel_rfl) (fun _ _ _ h => h) (Or.inl ⟨by rfl, ?hy25⟩) (by assumption) ?rest25
          case hy25 => (intro w hSw; (try dsimp only at hSw); go_simp; first | done | rfl | (congr 1; (try rw [IntKind.wrap_i64]); (try rw [IntKind.wrap_u8]); omega))
          case rest25 =>
          try simp only [Act.put, List.setIfInBounds_toArray, List.set_cons_zero, List.set_cons_succ]
          refine takeH (i := 4) (v := (.int .i64 (48 + (n : Int) / 100))) rfl (by kernel_rfl) (by kernel_rfl) (by kernel_rfl) (fun _ _ _ h => h) (Or.inl ⟨by rfl, ?hy26⟩) (by assumption) ?rest26
          case hy26 => (intro w hSw; (try dsimp only at hSw); go_simp; first | done | rfl | (congr 1; (try rw [IntKind.wrap_i64]); (try rw [IntKind.wrap_u8]); omega))
          case rest26 =>
          try simp only [Act.put, List.setIfInBounds_toArray, List.set_cons_zero, List.set_cons_succ]
          refine takeH (i := 5) (v := (.int .u8 (dA.toNat : Int))) rfl (by kernel_rfl) (by kernel_rfl) (by kernel_rfl) (fun _ _ _ h => h) (Or.inl ⟨by rfl, ?hy27⟩) (by assumption) ?rest27
          case hy27 => (intro w hSw; (try dsimp only at hSw); rw [HVA.out]; go_simp; first | done | rfl | (congr 1; (try rw [IntKind.wrap_i64]); (try rw [IntKind.wrap_u8]); omega))
          case rest27 =>
          try simp only [Act.put, List.setIfInBounds_toArray, List.set_cons_zero, List.set_cons_succ]
          refine takeH (i := 6) (v := ?v28) rfl (by kernel_rfl) (by kernel_rfl) (by kernel_rfl) (fun _ _ _ h => h) (Or.inl ⟨by rfl, ?hy28⟩) (by assumption) ?rest28
          case hy28 => (intro w hSw; (try dsimp only at hSw); go_simp; try (with_reducible rfl))
          case rest28 =>
          try simp only [Act.put, List.setIfInBounds_toArray, List.set_cons_zero, List.set_cons_succ]
          refine takeH (i := 7) (v := (.int .i64 (n : Int))) rfl (by kernel_rfl) (by kernel_rfl) (by kernel_rfl) (fun _ _ _ h => h) (Or.inl ⟨by rfl, ?hy29⟩) (by assumption) ?rest29
          case hy29 => (intro w hSw; (try dsimp only at hSw); have c0 := Blk.cell hSw 0 rfl; have c1 := Blk.cell hSw 1 rfl; go_simp; first | done | rfl)
          case rest29 =>
          try simp only [Act.put, List.setIfInBounds_toArray, List.set_cons_zero, List.set_cons_succ]
          refine takeH (i := 8) (v := (.int .i64 ((n : Int) / 10))) rfl (by kernel_rfl) (by kernel_rfl) (by kernel_rfl) (fun _ _ _ h => h) (Or.inl ⟨by rfl, ?hy30⟩) (by assumption) ?rest30
          case hy30 => (intro w hSw; (try dsimp only at hSw); go_simp; first | done | rfl | (congr 1; (try rw [IntKind.wrap_i64]); (try rw [IntKind.wrap_u8]); omega))
          case rest30 =>
          try simp only [Act.put, List.setIfInBounds_toArray, List.set_cons_zero, List.set_cons_succ]
          refine takeH (i := 9) (v := (.int .i64 ((n : Int) / 10 % 10))) rfl (by kernel_rfl) (by kernel_rfl) (by kernel_rfl) (fun _ _ _ h => h) (Or.inl ⟨by rfl, ?hy31⟩) (by assumption) ?rest31
          case hy31 => (intro w hSw; (try dsimp only at hSw); go_simp; first | done | rfl | (congr 1; (try rw [IntKind.wrap_i64]); (try rw [IntKind.wrap_u8]); omega))
          case rest31 =>
          try simp only [Act.put, List.setIfInBounds_toArray, List.set_cons_zero, List.set_cons_succ]
          refine takeH (i := 10) (v := (.int .i64 (48 + (n : Int) / 10 % 10))) rfl (by kernel_rfl) (by kernel_rfl) (by kernel_rfl) (fun _ _ _ h => h) (Or.inl ⟨by rfl, ?hy32⟩) (by assumption) ?rest32
          case hy32 => (intro w hSw; (try dsimp only at hSw); go_simp; first | done | rfl | (congr 1; (try rw [IntKind.wrap_i64]); (try rw [IntKind.wrap_u8]); omega))
          case rest32 =>
          try simp only [Act.put, List.setIfInBounds_toArray, List.set_cons_zero, List.set_cons_succ]
          refine takeH (i := 11) (v := (.int .u8 (dB.toNat : Int))) rfl (by kernel_rfl) (by kernel_rfl) (by kernel_rfl) (fun _ _ _ h => h) (Or.inl ⟨by rfl, ?hy33⟩) (by assumption) ?rest33
          case hy33 => (intro w hSw; (try dsimp only at hSw); rw [HVB.out]; go_simp; first | done | rfl | (congr 1; (try rw [IntKind.wrap_i64]); (try rw [IntKind.wrap_u8]); omega))
          case rest33 =>
          try simp only [Act.put, List.setIfInBounds_toArray, List.set_cons_zero, List.set_cons_succ]
          refine takeH (i := 12) (v := ?v34) rfl (by kernel_rfl) (by kernel_rfl) (by kernel_rfl) (fun _ _ _ h => h) (Or.inl ⟨by rfl, ?hy34⟩) (by assumption) ?rest34
          case hy34 => (intro w hSw; (try dsimp only at hSw); go_simp; try (with_reducible rfl))
          case rest34 =>
          try simp only [Act.put, List.setIfInBounds_toArray, List.set_cons_zero, List.set_cons_succ]
          refine takeH (i := 13) (v := (.int .i64 (n : Int))) rfl (by kernel_rfl) (by kernel_rfl) (by kernel_rfl) (fun _ _ _ h => h) (Or.inl ⟨by rfl, ?hy35⟩) (by assumption) ?rest35
          case hy35 => (intro w hSw; (try dsimp only at hSw); have c0 := Blk.cell hSw 0 rfl; have c1 := Blk.cell hSw 1 rfl; go_simp; first | done | rfl)
          case rest35 =>
          try simp only [Act.put, List.setIfInBounds_toArray, List.set_cons_zero, List.set_cons_succ]
          refine takeH (i := 14) (v := (.int .i64 ((n : Int) % 10))) rfl (by kernel_rfl) (by kernel_rfl) (by kernel_rfl) (fun _ _ _ h => h) (Or.inl ⟨by rfl, ?hy36⟩) (by assumption) ?rest36
          case hy36 => (intro w hSw; (try dsimp only at hSw); go_simp; first | done | rfl | (congr 1; (try rw [IntKind.wrap_i64]); (try rw [IntKind.wrap_u8]); omega))
          case rest36 =>
          try simp only [Act.put, List.setIfInBounds_toArray, List.set_cons_zero, List.set_cons_succ]
          refine takeH (i := 15) (v := (.int .i64 (48 + (n : Int) % 10))) rfl (by kernel_rfl) (by kernel_rfl) (by kernel_rfl) (fun _ _ _ h => h) (Or.inl ⟨by rfl, ?hy37⟩) (by assumption) ?rest37
          case hy37 => (intro w hSw; (try dsimp only at hSw); go_simp; first | done | rfl | (congr 1; (try rw [IntKind.wrap_i64]); (try rw [IntKind.wrap_u8]); omega))
          case rest37 =>
          try simp only [Act.put, List.setIfInBounds_toArray, List.set_cons_zero, List.set_cons_succ]
          refine takeH (i := 16) (v := (.int .u8 (dC.toNat : Int))) rfl (by kernel_rfl) (by kernel_rfl) (by kernel_rfl) (fun _ _ _ h => h) (Or.inl ⟨by rfl, ?hy38⟩) (by assumption) ?rest38
          case hy38 => (intro w hSw; (try dsimp only at hSw); rw [HVC.out]; go_simp; first | done | rfl | (congr 1; (try rw [IntKind.wrap_i64]); (try rw [IntKind.wrap_u8]); omega))
          case rest38 =>
          try simp only [Act.put, List.setIfInBounds_toArray, List.set_cons_zero, List.set_cons_succ]
          refine takeH (i := 17) (v := ?v39) rfl (by kernel_rfl) (by kernel_rfl) (by kernel_rfl) (fun _ _ _ h => h) (Or.inl ⟨by rfl, ?hy39⟩) (by assumption) ?rest39
          case hy39 => (intro w hSw; (try dsimp only at hSw); go_simp; try (with_reducible rfl))
          case rest39 =>
          try simp only [Act.put, List.setIfInBounds_toArray, List.set_cons_zero, List.set_cons_succ]
          refine takeH (i := 18) (v := (.int .i64 1)) rfl (by kernel_rfl) (by kernel_rfl) (by kernel_rfl) (fun _ _ _ h => h) (Or.inl ⟨by rfl, ?hy40⟩) (by assumption) ?rest40
          case hy40 => (intro w hSw; (try dsimp only at hSw); have c0 := Blk.cell hSw 0 rfl; have c1 := Blk.cell hSw 1 rfl; go_simp; first | done | rfl)
          case rest40 =>
          try simp only [Act.put, List.setIfInBounds_toArray, List.set_cons_zero, List.set_cons_succ]
          refine takeH (i := 19) (v := (.int .u8 66)) rfl (by kernel_rfl) (by kernel_rfl) (by kernel_rfl) (fun _ _ _ h => h) (Or.inl ⟨by rfl, ?hy41⟩) (by assumption) ?rest41
          case hy41 => (intro w hSw; (try dsimp only at hSw); go_simp; first | done | rfl)
          case rest41 =>
          try simp only [Act.put, List.setIfInBounds_toArray, List.set_cons_zero, List.set_cons_succ]
          refine wpAnyH_ready (rs := [20]) (by kernel_rfl) (by simp) ?_
          refine consH rfl (fun K hK => ?_) AllReadyH.nil
          go_simp
          have hHd2 : (fun w' : World => Blk w' wr.heap.size 53 #[.int .i64 1, .int .i64 (n : Int)]) (wd.alloc (.cells #[.int .u8 (dA.toNat : Int), .int .u8 (dB.toNat : Int), .int .u8 (dC.toNat : Int), .int .u8 66] 5)) := Blk.alloc hHd _
          have hBl2 : Below wr.heap.size wr (wd.alloc (.cells #[.int .u8 (dA.toNat : Int), .int .u8 (dB.toNat : Int), .int .u8 (dC.toNat : Int), .int .u8 66] 5)) := hBl.alloc hBl.size _
          refine hK.out _ _ hHd2 ?_
          clear hK K
          try simp only [Act.put, List.setIfInBounds_toArray, List.set_cons_zero, List.set_cons_succ]
          have hc4 : (convert 34 9 (.slice (some ⟨wd.heap.size, 0, none⟩) 4 4)).run Tryz.prog (wd.alloc (.cells #[.int .u8 (dA.toNat : Int), .int .u8 (dB.toNat : Int), .int .u8 (dC.toNat : Int), .int .u8 66] 5)) = .ok (.string ⟨#[dA, dB, dC, 66]⟩) (wd.alloc (.cells #[.int .u8 (dA.toNat : Int), .int .u8 (dB.toNat : Int), .int .u8 (dC.toNat : Int), .int .u8 66] 5)) := four_text wd dA dB dC 66 4
          refine wpAnyH_ready (rs := [21]) (by kernel_rfl) (by simp) ?_
          refine consH rfl (fun K hK => ?_) AllReadyH.nil
          go_simp
          refine hK.out _ _ hHd2 ?_
          clear hK K
          try simp only [Act.put, List.setIfInBounds_toArray, List.set_cons_zero, List.set_cons_succ]
          clear hc4
          refine takeH (i := 22) (v := (.string (⟨#[27, 91, dA, dB, dC, 66]⟩ : ByteArray))) rfl (by kernel_rfl) (by kernel_rfl) (by kernel_rfl) (fun _ _ _ h => h) (Or.inl ⟨by rfl, ?hy42⟩) (by assumption) ?rest42
          case hy42 => (intro w hSw; (try dsimp only at hSw); go_simp; first | done | rfl)
          case rest42 =>
          try simp only [Act.put, List.setIfInBounds_toArray, List.set_cons_zero, List.set_cons_succ]
          have hc6 := HCV.out (wd.alloc (.cells #[.int .u8 (dA.toNat : Int), .int .u8 (dB.toNat : Int), .int .u8 (dC.toNat : Int), .int .u8 66] 5)) (⟨#[27, 91, dA, dB, dC, 66]⟩ : ByteArray)
          rw [show (⟨#[27, 91, dA, dB, dC, 66]⟩ : ByteArray).size = 6 from rfl] at hc6
          refine wpAnyH_ready (rs := [23]) (by kernel_rfl) (by simp) ?_
          refine consH rfl (fun K hK => ?_) AllReadyH.nil
          go_simp
          have hHd3 : (fun w' : World => Blk w' wr.heap.size 53 #[.int .i64 1, .int .i64 (n : Int)]) (Lib.bytesWorld (wd.alloc (.cells #[.int .u8 (dA.toNat : Int), .int .u8 (dB.toNat : Int), .int .u8 (dC.toNat : Int), .int .u8 66] 5)) 5 (⟨#[27, 91, dA, dB, dC, 66]⟩ : ByteArray)) := Blk.belowW hHd2 (bytesW_below' _ _ _)
          refine hK.out _ _ hHd3 ?_
          clear hK K
          try simp only [Act.put, List.setIfInBounds_toArray, List.set_cons_zero, List.set_cons_succ]
          clear hc6
          have hX := fun cc => XF.out (wd.alloc (.cells #[.int .u8 (dA.toNat : Int), .int .u8 (dB.toNat : Int), .int .u8 (dC.toNat : Int), .int .u8 66] 5)) hBl2 cc
          simp only [show (wd.alloc (.cells #[.int .u8 (dA.toNat : Int), .int .u8 (dB.toNat : Int), .int .u8 (dC.toNat : Int), .int .u8 66] 5)).heap.size = wd.heap.size + 1 from by simp] at hX
          refine wpAnyH_ready (rs := [24]) (by kernel_rfl) (by simp) ?_
          refine consH rfl (fun K hK => ?_) AllReadyH.nil
          go_simp
          go_at_call 17
          with_reducible refine (hX _).mono ?_
          rintro _ w6 ⟨rfl, ht⟩
          have hBB := bytesW_below' (wd.alloc (.cells #[.int .u8 (dA.toNat : Int), .int .u8 (dB.toNat : Int), .int .u8 (dC.toNat : Int), .int .u8 66] 5)) 5 (⟨#[27, 91, dA, dB, dC, 66]⟩ : ByteArray)
          obtain ⟨F6, S6, hsub, hon⟩ := St.told ((H5.out.to hBl2).to hBB) ht
          have hHd4 : (fun w' : World => Blk w' wr.heap.size 53 #[.int .i64 1, .int .i64 (n : Int)]) w6 := Blk.to hHd3 (hon.block _ (Blk.lt hHd3) (fun hF => Nat.lt_irrefl _ (H5.out.ta.lt _ hF)))
          go_simp
          refine hK.out _ _ hHd4 ?_
          clear hK K
          try simp only [Act.put, List.setIfInBounds_toArray, List.set_cons_zero, List.set_cons_succ]
          refine wpAnyH_done (by kernel_rfl) ?_ _
          refine hKQ _ _ ?_
          have H6 := Hd.mk S6
          have HC6 := Hd.mk (St.other ((HC5.out.to hBl2).to hBB) hon HDJ.out S6.bl)
          have HDK : Hd (∀ k, F3 k → ¬ F6 k) := ⟨fun k hk hk2 => by rcases hsub k hk2 with h | h; exact HDJ.out k hk h; have := HC5.out.ta.lt k hk; have := hBl2.size; have := hBB.size; omega⟩
          have x0 := Blk.cell hHd4 0 rfl
          have x1 := Blk.cell hHd4 1 rfl
          clear hHd hHd2 hHd3 hHd4 hBl hBl2 hBB ht S6 hsub hon hX XF HCV H5 HC5 HDJ m0 m1 HVA HVB HVC hKQ
          have b1 : (r : Int) < (R : Int) := by have := HR5.out.1; omega
          have b2 : (c : Int) < (C : Int) := by have := HR5.out.2; omega
          have b3 : (0 : Int) ≤ (r : Int) := by omega
          have b4 : (0 : Int) ≤ (c : Int) := by omega
          have b5 : (n : Int) ≤ 999 := by omega
          have b6 : (1 : Int) ≤ (n : Int) := by omega
          obtain ⟨rn, hrn⟩ : ∃ rn, mvRow 1 n R r = rn := ⟨_, rfl⟩
          obtain ⟨cn, hcn⟩ : ∃ cn, mvCol 1 n C c = cn := ⟨_, rfl⟩
          rw [hrn, hcn] at HMV
          have hq : min ((r : Int) + (n : Int)) ((R : Int) - 1) = (rn : Int) := by rw [← hrn]; unfold mvRow; rw [if_neg (by omega), if_pos rfl]; omega
          have hcc : cn = c := by rw [← hcn]; unfold mvCol; rw [if_neg (by omega), if_neg (by omega)]
          subst hcc
          clear hrn hcn
          have XC := Hd.mk (cursor_calls H6.out.ta.t)
          rw [HMV.out.2.1, HMV.out.2.2.1] at XC
          go_wp2_with fail
          go_at_call 13
          with_reducible refine XC.out.mono ?_
          rintro _ w7 ⟨rfl, hb⟩
          have H7 := Hd.mk (H6.out.to hb)
          have HC7 := Hd.mk (HC6.out.to hb)
          clear XC hb H6 HC6 x0 x1
          have XU := Hd.mk (full_calls H7.out.ta.t)
          rw [HMV.out.2.2.2.1] at XU
          go_wp2_with fail
          go_at_call 15
          with_reducible refine XU.out.mono ?_
          rintro _ w8 ⟨rfl, hb⟩
          have H8 := Hd.mk (H7.out.to hb)
          have HC8 := Hd.mk (HC7.out.to hb)
          clear XU hb H7 HC7
          have HE6 := Hd.mk (And.intro (HMV.out.2.2.2.2.1.trans HE5.out.1) (And.intro (HMV.out.2.2.2.2.2.trans HE5.out.2.1) HCC.out))
          have HS6 := Hd.mk (And.intro HMV.out.1 (And.intro HMV.out.2.1 HMV.out.2.2.1))
          clear HMV HE5 HCC HS5 hq
          go_wp2
          go_roundg d
          case measure => omega
          case rel => exact ⟨j + 1, rn, cn, F6, s2, by simp, rfl, rfl, ⟨by omega⟩, H8, HC8, HDK, K6, HS6, HE6⟩
        · have HMV := Hd.mk (mv_feed (k := 2) HS5.out.1 (HE5.out.1 ▸ HD1.out.1) HE5.out.2.2 (by rw [HS5.out.2.1]; exact HR5.out.1) (by rw [HS5.out.2.2]; exact HR5.out.2) (by omega) o1 o2)
          rw [hdA, hdB, hdC, show UInt8.ofNat (65 + 2) = 67 from rfl, HS5.out.2.1, HS5.out.2.2] at HMV
          clear hdA hdB hdC
          have K6 : Hd (TK (40064 + 192 * (j + 1)) (s.feed [27, 91, dA, dB, dC, 67])) := ⟨(K5.out.feed [27, 91, dA, dB, dC, 67]).mono (by show 40064 + 192 * j + 32 * 6 ≤ _; omega)⟩
          have XF : Hd (∀ (wz : World), Below wr.heap.size wr wz → ∀ (cc : Nat), Calls Tryz.prog 17 #[.pointer (some ⟨T, 0, none⟩), .slice (some ⟨wz.heap.size, 0, none⟩) 6 cc] (Lib.bytesWorld wz 5 ⟨#[27, 91, dA, dB, dC, 67]⟩) fun e w' => e = .returned (.tuple #[]) ∧ Told F (Lib.bytesWorld wz 5 ⟨#[27, 91, dA, dB, dC, 67]⟩) T (s.feed [27, 91, dA, dB, dC, 67]) w') := ⟨fun wz hb cc => feed_str (H5.out.to hb) K5.out HT.out ⟨#[27, 91, dA, dB, dC, 67]⟩ cc (by show 40064 + 192 * j + 32 * 6 + 64 ≤ _; omega)⟩
          have HCC : Hd ((s.feed [27, 91, dA, dB, dC, 67]).cols = C) := ⟨by have h := dims_feed [27, 91, dA, dB, dC, 67] s K5.out.ok.r1; rw [h.1]; exact HE5.out.2.2⟩
          generalize s.feed [27, 91, dA, dB, dC, 67] = s2 at *
          clear K5 t3 t4 t3' t4'
          go_upto_region 14 with fail
          rename_i KQ hKQ
          refine regionH (fun w' : World => Blk w' wr.heap.size 53 #[.int .i64 2, .int .i64 (n : Int)]) (by kernel_rfl) (fun wd hb => ?_)
          have hBl := ((Below.refl wr.heap.size wr).alloc (Nat.le_refl _) (.cells #[.int .i64 2, .int .i64 (n : Int)] 53)).trans (hb.mono (by simp))
          have hHd : (fun w' : World => Blk w' wr.heap.size 53 #[.int .i64 2, .int .i64 (n : Int)]) wd := (Blk.new wr 53 #[.int .i64 2, .int .i64 (n : Int)]).belowB hb (by simp)
          clear hb
          refine takeH (i := 0) (v := ?v43) rfl (by kernel_rfl) (by kernel_rfl) (by kernel_rfl) (fun _ _ _ h => h) (Or.inl ⟨by rfl, ?hy43⟩) (by assumption) ?rest43
          case hy43 => (intro w hSw; (try dsimp only at hSw); go_simp; try (with_reducible rfl))
          case rest43 =>
          try simp only [Act.put, List.setIfInBounds_toArray, List.set_cons_zero, List.set_cons_succ]
          refine takeH (i := 1) (v := ?v44) rfl (by kernel_rfl) (by kernel_rfl) (by kernel_rfl) (fun _ _ _ h => h) (Or.inl ⟨by rfl, ?hy44⟩) (by assumption) ?rest44
          case hy44 => (intro w hSw; (try dsimp only at hSw); go_simp; try (with_reducible rfl))
          case rest44 =>
          try simp only [Act.put, List.setIfInBounds_toArray, List.set_cons_zero, List.set_cons_succ]
          refine takeH (i := 2) (v := (.int .i64 (n : Int))) rfl (by kernel_rfl) (by kernel_rfl) (by kernel_rfl) (fun _ _ _ h => h) (Or.inl ⟨by rfl, ?hy45⟩) (by assumption) ?rest45
          case hy45 => (intro w hSw; (try dsimp only at hSw); have c0 := Blk.cell hSw 0 rfl; have c1 := Blk.cell hSw 1 rfl; go_simp; first | done | rfl)
          case rest45 =>
          try simp only [Act.put, List.setIfInBounds_toArray, List.set_cons_zero, List.set_cons_succ]
          refine takeH (i := 3) (v := (.int .i64 ((n : Int) / 100))) rfl (by kernel_rfl) (by kernel_rfl) (by kernel_rfl) (fun _ _ _ h => h) (Or.inl ⟨by rfl, ?hy46⟩) (by assumption) ?rest46
          case hy46 => (intro w hSw; (try dsimp only at hSw); go_simp; first | done | rfl | (congr 1; (try rw [IntKind.wrap_i64]); (try rw [IntKind.wrap_u8]); omega))
          case rest46 =>
          try simp only [Act.put, List.setIfInBounds_toArray, List.set_cons_zero, List.set_cons_succ]
          refine takeH (i := 4) (v := (.int .i64 (48 + (n : Int) / 100))) rfl (by kernel_rfl) (by kernel_rfl) (by kernel_rfl) (fun _ _ _ h => h) (Or.inl ⟨by rfl, ?hy47⟩) (by assumption) ?rest47
          case hy47 => (intro w hSw; (try dsimp only at hSw); go_simp; first | done | rfl | (congr 1; (try rw [IntKind.wrap_i64]); (try rw [IntKind.wrap_u8]); omega))
          case rest47 =>
          try simp only [Act.put, List.setIfInBounds_toArray, List.set_cons_zero, List.set_cons_succ]
          refine takeH (i := 5) (v := (.int .u8 (dA.toNat : Int))) rfl (by kernel_rfl) (by kernel_rfl) (by kernel_rfl) (fun _ _ _ h => h) (Or.inl ⟨by rfl, ?hy48⟩) (by assumption) ?rest48
          case hy48 => (intro w hSw; (try dsimp only at hSw); rw [HVA.out]; go_simp; first | done | rfl | (congr 1; (try rw [IntKind.wrap_i64]); (try rw [IntKind.wrap_u8]); omega))
          case rest48 =>
          try simp only [Act.put, List.setIfInBounds_toArray, List.set_cons_zero, List.set_cons_succ]
          refine takeH (i := 6) (v := ?v49) rfl (by kernel_rfl) (by kernel_rfl) (by kernel_rfl) (fun _ _ _ h => h) (Or.inl ⟨by rfl, ?hy49⟩) (by assumption) ?rest49
          case hy49 => (intro w hSw; (try dsimp only at hSw); go_simp; try (with_reducible rfl))
          case rest49 =>
          try simp only [Act.put, List.setIfInBounds_toArray, List.set_cons_zero, List.set_cons_succ]
          refine takeH (i := 7) (v := (.int .i64 (n : Int))) rfl (by kernel_rfl) (by kernel_rfl) (by kernel_rfl) (fun _ _ _ h => h) (Or.inl ⟨by rfl, ?hy50⟩) (by assumption) ?rest50
          case hy50 => (intro w hSw; (try dsimp only at hSw); have c0 := Blk.cell hSw 0 rfl; have c1 := Blk.cell hSw 1 rfl; go_simp; first | done | rfl)
          case rest50 =>
          try simp only [Act.put, List.setIfInBounds_toArray, List.set_cons_zero, List.set_cons_succ]
          refine takeH (i := 8) (v := (.int .i64 ((n : Int) / 10))) rfl (by kernel_rfl) (by kernel_rfl) (by kernel_rfl) (fun _ _ _ h => h) (Or.inl ⟨by rfl, ?hy51⟩) (by assumption) ?rest51
          case hy51 => (intro w hSw; (try dsimp only at hSw); go_simp; first | done | rfl | (congr 1; (try rw [IntKind.wrap_i64]); (try rw [IntKind.wrap_u8]); omega))
          case rest51 =>
          try simp only [Act.put, List.setIfInBounds_toArray, List.set_cons_zero, List.set_cons_succ]
          refine takeH (i := 9) (v := (.int .i64 ((n : Int) / 10 % 10))) rfl (by kernel_rfl) (by kernel_rfl) (by kernel_rfl) (fun _ _ _ h => h) (Or.inl ⟨by rfl, ?hy52⟩) (by assumption) ?rest52
          case hy52 => (intro w hSw; (try dsimp only at hSw); go_simp; first | done | rfl | (congr 1; (try rw [IntKind.wrap_i64]); (try rw [IntKind.wrap_u8]); omega))
          case rest52 =>
          try simp only [Act.put, List.setIfInBounds_toArray, List.set_cons_zero, List.set_cons_succ]
          refine takeH (i := 10) (v := (.int .i64 (48 + (n : Int) / 10 % 10))) rfl (by kernel_rfl) (by kernel_rfl) (by kernel_rfl) (fun _ _ _ h => h) (Or.inl ⟨by rfl, ?hy53⟩) (by assumption) ?rest53
          case hy53 => (intro w hSw; (try dsimp only at hSw); go_simp; first | done | rfl | (congr 1; (try rw [IntKind.wrap_i64]); (try rw [IntKind.wrap_u8]); omega))
          case rest53 =>
          try simp only [Act.put, List.setIfInBounds_toArray, List.set_cons_zero, List.set_cons_succ]
          refine takeH (i := 11) (v := (.int .u8 (dB.toNat : Int))) rfl (by kernel_rfl) (by kernel_rfl) (by kernel_rfl) (fun _ _ _ h => h) (Or.inl ⟨by rfl, ?hy54⟩) (by assumption) ?rest54
          case hy54 => (intro w hSw; (try dsimp only at hSw); rw [HVB.out]; go_simp; first | done | rfl | (congr 1; (try rw [IntKind.wrap_i64]); (try rw [IntKind.wrap_u8]); omega))
          case rest54 =>
          try simp only [Act.put, List.setIfInBounds_toArray, List.set_cons_zero, List.set_cons_succ]
          refine takeH (i := 12) (v := ?v55) rfl (by kernel_rfl) (by kernel_rfl) (by kernel_rfl) (fun _ _ _ h => h) (Or.inl ⟨by rfl, ?hy55⟩) (by assumption) ?rest55
          case hy55 => (intro w hSw; (try dsimp only at hSw); go_simp; try (with_reducible rfl))
          case rest55 =>
          try simp only [Act.put, List.setIfInBounds_toArray, List.set_cons_zero, List.set_cons_succ]
          refine takeH (i := 13) (v := (.int .i64 (n : Int))) rfl (by kernel_rfl) (by kernel_rfl) (by kernel_rfl) (fun _ _ _ h => h) (Or.inl ⟨by rfl, ?hy56⟩) (by assumption) ?rest56
          case hy56 => (intro w hSw; (try dsimp only at hSw); have c0 := Blk.cell hSw 0 rfl; have c1 := Blk.cell hSw 1 rfl; go_simp; first | done | rfl)
          case rest56 =>
          try simp only [Act.put, List.setIfInBounds_toArray, List.set_cons_zero, List.set_cons_succ]
          refine takeH (i := 14) (v := (.int .i64 ((n : Int) % 10))) rfl (by kernel_rfl) (by kernel_rfl) (by kernel_rfl) (fun _ _ _ h => h) (Or.inl ⟨by rfl, ?hy57⟩) (by assumption) ?rest57
          case hy57 => (intro w hSw; (try dsimp only at hSw); go_simp; first | done | rfl | (congr 1; (try rw [IntKind.wrap_i64]); (try rw [IntKind.wrap_u8]); omega))
          case rest57 =>
          try simp only [Act.put, List.setIfInBounds_toArray, List.set_cons_zero, List.set_cons_succ]
          refine takeH (i := 15) (v := (.int .i64 (48 + (n : Int) % 10))) rfl (by kernel_rfl) (by kernel_rfl) (by kernel_rfl) (fun _ _ _ h => h) (Or.inl ⟨by rfl, ?hy58⟩) (by assumption) ?rest58
          case hy58 => (intro w hSw; (try dsimp only at hSw); go_simp; first | done | rfl | (congr 1; (try rw [IntKind.wrap_i64]); (try rw [IntKind.wrap_u8]); omega))
          case rest58 =>
          try simp only [Act.put, List.setIfInBounds_toArray, List.set_cons_zero, List.set_cons_succ]
          refine takeH (i := 16) (v := (.int .u8 (dC.toNat : Int))) rfl (by kernel_rfl) (by kernel_rfl) (by kernel_rfl) (fun _ _ _ h => h) (Or.inl ⟨by rfl, ?hy59⟩) (by assumption) ?rest59
          case hy59 => (intro w hSw; (try dsimp only at hSw); rw [HVC.out]; go_simp; first | done | rfl | (congr 1; (try rw [IntKind.wrap_i64]); (try rw [IntKind.wrap_u8]); omega))
          case rest59 =>
          try simp only [Act.put, List.setIfInBounds_toArray, List.set_cons_zero, List.set_cons_succ]
          refine takeH (i := 17) (v := ?v60) rfl (by kernel_rfl) (by kernel_rfl) (by kernel_rfl) (fun _ _ _ h => h) (Or.inl ⟨by rfl, ?hy60⟩) (by assumption) ?rest60
          case hy60 => (intro w hSw; (try dsimp only at hSw); go_simp; try (with_reducible rfl))
          case rest60 =>
          try simp only [Act.put, List.setIfInBounds_toArray, List.set_cons_zero, List.set_cons_succ]
          refine takeH (i := 18) (v := (.int .i64 2)) rfl (by kernel_rfl) (by kernel_rfl) (by kernel_rfl) (fun _ _ _ h => h) (Or.inl ⟨by rfl, ?hy61⟩) (by assumption) ?rest61
          case hy61 => (intro w hSw; (try dsimp only at hSw); have c0 := Blk.cell hSw 0 rfl; have c1 := Blk.cell hSw 1 rfl; go_simp; first | done | rfl)
          case rest61 =>
          try simp only [Act.put, List.setIfInBounds_toArray, List.set_cons_zero, List.set_cons_succ]
          refine takeH (i := 19) (v := (.int .u8 67)) rfl (by kernel_rfl) (by kernel_rfl) (by kernel_rfl) (fun _ _ _ h => h) (Or.inl ⟨by rfl, ?hy62⟩) (by assumption) ?rest62
          case hy62 => (intro w hSw; (try dsimp only at hSw); go_simp; first | done | rfl)
          case rest62 =>
          try simp only [Act.put, List.setIfInBounds_toArray, List.set_cons_zero, List.set_cons_succ]
          refine wpAnyH_ready (rs := [20]) (by kernel_rfl) (by simp) ?_
          refine consH rfl (fun K hK => ?_) AllReadyH.nil
          go_simp
          have hHd2 : (fun w' : World => Blk w' wr.heap.size 53 #[.int .i64 2, .int .i64 (n : Int)]) (wd.alloc (.cells #[.int .u8 (dA.toNat : Int), .int .u8 (dB.toNat : Int), .int .u8 (dC.toNat : Int), .int .u8 67] 5)) := Blk.alloc hHd _
          have hBl2 : Below wr.heap.size wr (wd.alloc (.cells #[.int .u8 (dA.toNat : Int), .int .u8 (dB.toNat : Int), .int .u8 (dC.toNat : Int), .int .u8 67] 5)) := hBl.alloc hBl.size _
          refine hK.out _ _ hHd2 ?_
          clear hK K
          try simp only [Act.put, List.setIfInBounds_toArray, List.set_cons_zero, List.set_cons_succ]
          have hc4 : (convert 34 9 (.slice (some ⟨wd.heap.size, 0, none⟩) 4 4)).run Tryz.prog (wd.alloc (.cells #[.int .u8 (dA.toNat : Int), .int .u8 (dB.toNat : Int), .int .u8 (dC.toNat : Int), .int .u8 67] 5)) = .ok (.string ⟨#[dA, dB, dC, 67]⟩) (wd.alloc (.cells #[.int .u8 (dA.toNat : Int), .int .u8 (dB.toNat : Int), .int .u8 (dC.toNat : Int), .int .u8 67] 5)) := four_text wd dA dB dC 67 4
          refine wpAnyH_ready (rs := [21]) (by kernel_rfl) (by simp) ?_
          refine consH rfl (fun K hK => ?_) AllReadyH.nil
          go_simp
          refine hK.out _ _ hHd2 ?_
          clear hK K
          try simp only [Act.put, List.setIfInBounds_toArray, List.set_cons_zero, List.set_cons_succ]
          clear hc4
          refine takeH (i := 22) (v := (.string (⟨#[27, 91, dA, dB, dC, 67]⟩ : ByteArray))) rfl (by kernel_rfl) (by kernel_rfl) (by kernel_rfl) (fun _ _ _ h => h) (Or.inl ⟨by rfl, ?hy63⟩) (by assumption) ?rest63
          case hy63 => (intro w hSw; (try dsimp only at hSw); go_simp; first | done | rfl)
          case rest63 =>
          try simp only [Act.put, List.setIfInBounds_toArray, List.set_cons_zero, List.set_cons_succ]
          have hc6 := HCV.out (wd.alloc (.cells #[.int .u8 (dA.toNat : Int), .int .u8 (dB.toNat : Int), .int .u8 (dC.toNat : Int), .int .u8 67] 5)) (⟨#[27, 91, dA, dB, dC, 67]⟩ : ByteArray)
          rw [show (⟨#[27, 91, dA, dB, dC, 67]⟩ : ByteArray).size = 6 from rfl] at hc6
          refine wpAnyH_ready (rs := [23]) (by kernel_rfl) (by simp) ?_
          refine consH rfl (fun K hK => ?_) AllReadyH.nil
          go_simp
          have hHd3 : (fun w' : World => Blk w' wr.heap.size 53 #[.int .i64 2, .int .i64 (n : Int)]) (Lib.bytesWorld (wd.alloc (.cells #[.int .u8 (dA.toNat : Int), .int .u8 (dB.toNat : Int), .int .u8 (dC.toNat : Int), .int .u8 67] 5)) 5 (⟨#[27, 91, dA, dB, dC, 67]⟩ : ByteArray)) := Blk.belowW hHd2 (bytesW_below' _ _ _)
          refine hK.out _ _ hHd3 ?_
          clear hK K
          try simp only [Act.put, List.setIfInBounds_toArray, List.set_cons_zero, List.set_cons_succ]
          clear hc6
          have hX := fun cc => XF.out (wd.alloc (.cells #[.int .u8 (dA.toNat : Int), .int .u8 (dB.toNat : Int), .int .u8 (dC.toNat : Int), .int .u8 67] 5)) hBl2 cc
          simp only [show (wd.alloc (.cells #[.int .u8 (dA.toNat : Int), .int .u8 (dB.toNat : Int), .int .u8 (dC.toNat : Int), .int .u8 67] 5)).heap.size = wd.heap.size + 1 from by simp] at hX
          refine wpAnyH_ready (rs := [24]) (by kernel_rfl) (by simp) ?_
          refine consH rfl (fun K hK => ?_) AllReadyH.nil
          go_simp
          go_at_call 17
          with_reducible refine (hX _).mono ?_
          rintro _ w6 ⟨rfl, ht⟩
          have hBB := bytesW_below' (wd.alloc (.cells #[.int .u8 (dA.toNat : Int), .int .u8 (dB.toNat : Int), .int .u8 (dC.toNat : Int), .int .u8 67] 5)) 5 (⟨#[27, 91, dA, dB, dC, 67]⟩ : ByteArray)
          obtain ⟨F6, S6, hsub, hon⟩ := St.told ((H5.out.to hBl2).to hBB) ht
          have hHd4 : (fun w' : World => Blk w' wr.heap.size 53 #[.int .i64 2, .int .i64 (n : Int)]) w6 := Blk.to hHd3 (hon.block _ (Blk.lt hHd3) (fun hF => Nat.lt_irrefl _ (H5.out.ta.lt _ hF)))
          go_simp
          refine hK.out _ _ hHd4 ?_
          clear hK K
          try simp only [Act.put, List.setIfInBounds_toArray, List.set_cons_zero, List.set_cons_succ]
          refine wpAnyH_done (by kernel_rfl) ?_ _
          refine hKQ _ _ ?_
          have H6 := Hd.mk S6
          have HC6 := Hd.mk (St.other ((HC5.out.to hBl2).to hBB) hon HDJ.out S6.bl)
          have HDK : Hd (∀ k, F3 k → ¬ F6 k) := ⟨fun k hk hk2 => by rcases hsub k hk2 with h | h; exact HDJ.out k hk h; have := HC5.out.ta.lt k hk; have := hBl2.size; have := hBB.size; omega⟩
          have x0 := Blk.cell hHd4 0 rfl
          have x1 := Blk.cell hHd4 1 rfl
          clear hHd hHd2 hHd3 hHd4 hBl hBl2 hBB ht S6 hsub hon hX XF HCV H5 HC5 HDJ m0 m1 HVA HVB HVC hKQ
          have b1 : (r : Int) < (R : Int) := by have := HR5.out.1; omega
          have b2 : (c : Int) < (C : Int) := by have := HR5.out.2; omega
          have b3 : (0 : Int) ≤ (r : Int) := by omega
          have b4 : (0 : Int) ≤ (c : Int) := by omega
          have b5 : (n : Int) ≤ 999 := by omega
          have b6 : (1 : Int) ≤ (n : Int) := by omega
          obtain ⟨rn, hrn⟩ : ∃ rn, mvRow 2 n R r = rn := ⟨_, rfl⟩
          obtain ⟨cn, hcn⟩ : ∃ cn, mvCol 2 n C c = cn := ⟨_, rfl⟩
          rw [hrn, hcn] at HMV
          have hq : min ((c : Int) + (n : Int)) ((C : Int) - 1) = (cn : Int) := by rw [← hcn]; unfold mvCol; rw [if_pos rfl]; omega
          have hcc : rn = r := by rw [← hrn]; unfold mvRow; rw [if_neg (by omega), if_neg (by omega)]
          subst hcc
          clear hrn hcn
          have XC := Hd.mk (cursor_calls H6.out.ta.t)
          rw [HMV.out.2.1, HMV.out.2.2.1] at XC
          go_wp2_with fail
          go_at_call 13
          with_reducible refine XC.out.mono ?_
          rintro _ w7 ⟨rfl, hb⟩
          have H7 := Hd.mk (H6.out.to hb)
          have HC7 := Hd.mk (HC6.out.to hb)
          clear XC hb H6 HC6 x0 x1
          have XU := Hd.mk (full_calls H7.out.ta.t)
          rw [HMV.out.2.2.2.1] at XU
          go_wp2_with fail
          go_at_call 15
          with_reducible refine XU.out.mono ?_
          rintro _ w8 ⟨rfl, hb⟩
          have H8 := Hd.mk (H7.out.to hb)
          have HC8 := Hd.mk (HC7.out.to hb)
          clear XU hb H7 HC7
          have HE6 := Hd.mk (And.intro (HMV.out.2.2.2.2.1.trans HE5.out.1) (And.intro (HMV.out.2.2.2.2.2.trans HE5.out.2.1) HCC.out))
          have HS6 := Hd.mk (And.intro HMV.out.1 (And.intro HMV.out.2.1 HMV.out.2.2.1))
          clear HMV HE5 HCC HS5 hq
          go_wp2
          go_roundg d
          case measure => omega
          case rel => exact ⟨j + 1, rn, cn, F6, s2, by simp, rfl, rfl, ⟨by omega⟩, H8, HC8, HDK, K6, HS6, HE6⟩
        · have HMV := Hd.mk (mv_feed (k := 3) HS5.out.1 (HE5.out.1 ▸ HD1.out.1) HE5.out.2.2 (by rw [HS5.out.2.1]; exact HR5.out.1) (by rw [HS5.out.2.2]; exact HR5.out.2) (by omega) o1 o2)
          rw [hdA, hdB, hdC, show UInt8.ofNat (65 + 3) = 68 from rfl, HS5.out.2.1, HS5.out.2.2] at HMV
          clear hdA hdB hdC
          have K6 : Hd (TK (40064 + 192 * (j + 1)) (s.feed [27, 91, dA, dB, dC, 68])) := ⟨(K5.out.feed [27, 91, dA, dB, dC, 68]).mono (by show 40064 + 192 * j + 32 * 6 ≤ _; omega)⟩
          have XF : Hd (∀ (wz : World), Below wr.heap.size wr wz → ∀ (cc : Nat), Calls Tryz.prog 17 #[.pointer (some ⟨T, 0, none⟩), .slice (some ⟨wz.heap.size, 0, none⟩) 6 cc] (Lib.bytesWorld wz 5 ⟨#[27, 91, dA, dB, dC, 68]⟩) fun e w' => e = .returned (.tuple #[]) ∧ Told F (Lib.bytesWorld wz 5 ⟨#[27, 91, dA, dB, dC, 68]⟩) T (s.feed [27, 91, dA, dB, dC, 68]) w') := ⟨fun wz hb cc => feed_str (H5.out.to hb) K5.out HT.out ⟨#[27, 91, dA, dB, dC, 68]⟩ cc (by show 40064 + 192 * j + 32 * 6 + 64 ≤ _; omega)⟩
          have HCC : Hd ((s.feed [27, 91, dA, dB, dC, 68]).cols = C) := ⟨by have h := dims_feed [27, 91, dA, dB, dC, 68] s K5.out.ok.r1; rw [h.1]; exact HE5.out.2.2⟩
          generalize s.feed [27, 91, dA, dB, dC, 68] = s2 at *
          clear K5 t3 t4 t3' t4'
          go_upto_region 14 with fail
          rename_i KQ hKQ
          refine regionH (fun w' : World => Blk w' wr.heap.size 53 #[.int .i64 3, .int .i64 (n : Int)]) (by kernel_rfl) (fun wd hb => ?_)
          have hBl := ((Below.refl wr.heap.size wr).alloc (Nat.le_refl _) (.cells #[.int .i64 3, .int .i64 (n : Int)] 53)).trans (hb.mono (by simp))
          have hHd : (fun w' : World => Blk w' wr.heap.size 53 #[.int .i64 3, .int .i64 (n : Int)]) wd := (Blk.new wr 53 #[.int .i64 3, .int .i64 (n : Int)]).belowB hb (by simp)
          clear hb
          refine takeH (i := 0) (v := ?v64) rfl (by kernel_rfl) (by kernel_rfl) (by kernel_rfl) (fun _ _ _ h => h) (Or.inl ⟨by rfl, ?hy64⟩) (by assumption) ?rest64
          case hy64 => (intro w hSw; (try dsimp only at hSw); go_simp; try (with_reducible rfl))
          case rest64 =>
          try simp only [Act.put, List.setIfInBounds_toArray, List.set_cons_zero, List.set_cons_succ]
          refine takeH (i := 1) (v := ?v65) rfl (by kernel_rfl) (by kernel_rfl) (by kernel_rfl) (fun _ _ _ h => h) (Or.inl ⟨by rfl, ?hy65⟩) (by assumption) ?rest65
          case hy65 => (intro w hSw; (try dsimp only at hSw); go_simp; try (with_reducible rfl))
          case rest65 =>
          try simp only [Act.put, List.setIfInBounds_toArray, List.set_cons_zero, List.set_cons_succ]
          refine takeH (i := 2) (v := (.int .i64 (n : Int))) rfl (by kernel_rfl) (by kernel_rfl) (by kernel_rfl) (fun _ _ _ h => h) (Or.inl ⟨by rfl, ?hy66⟩) (by assumption) ?rest66
          case hy66 => (intro w hSw; (try dsimp only at hSw); have c0 := Blk.cell hSw 0 rfl; have c1 := Blk.cell hSw 1 rfl; go_simp; first | done | rfl)
          case rest66 =>
          try simp only [Act.put, List.setIfInBounds_toArray, List.set_cons_zero, List.set_cons_succ]
          refine takeH (i := 3) (v := (.int .i64 ((n : Int) / 100))) rfl (by kernel_rfl) (by kernel_rfl) (by kernel_rfl) (fun _ _ _ h => h) (Or.inl ⟨by rfl, ?hy67⟩) (by assumption) ?rest67
          case hy67 => (intro w hSw; (try dsimp only at hSw); go_simp; first | done | rfl | (congr 1; (try rw [IntKind.wrap_i64]); (try rw [IntKind.wrap_u8]); omega))
          case rest67 =>
          try simp only [Act.put, List.setIfInBounds_toArray, List.set_cons_zero, List.set_cons_succ]
          refine takeH (i := 4) (v := (.int .i64 (48 + (n : Int) / 100))) rfl (by kernel_rfl) (by kernel_rfl) (by kernel_rfl) (fun _ _ _ h => h) (Or.inl ⟨by rfl, ?hy68⟩) (by assumption) ?rest68
          case hy68 => (intro w hSw; (try dsimp only at hSw); go_simp; first | done | rfl | (congr 1; (try rw [IntKind.wrap_i64]); (try rw [IntKind.wrap_u8]); omega))
          case rest68 =>
          try simp only [Act.put, List.setIfInBounds_toArray, List.set_cons_zero, List.set_cons_succ]
          refine takeH (i := 5) (v := (.int .u8 (dA.toNat : Int))) rfl (by kernel_rfl) (by kernel_rfl) (by kernel_rfl) (fun _ _ _ h => h) (Or.inl ⟨by rfl, ?hy69⟩) (by assumption) ?rest69
          case hy69 => (intro w hSw; (try dsimp only at hSw); rw [HVA.out]; go_simp; first | done | rfl | (congr 1; (try rw [IntKind.wrap_i64]); (try rw [IntKind.wrap_u8]); omega))
          case rest69 =>
          try simp only [Act.put, List.setIfInBounds_toArray, List.set_cons_zero, List.set_cons_succ]
          refine takeH (i := 6) (v := ?v70) rfl (by kernel_rfl) (by kernel_rfl) (by kernel_rfl) (fun _ _ _ h => h) (Or.inl ⟨by rfl, ?hy70⟩) (by assumption) ?rest70
          case hy70 => (intro w hSw; (try dsimp only at hSw); go_simp; try (with_reducible rfl))
          case rest70 =>
          try simp only [Act.put, List.setIfInBounds_toArray, List.set_cons_zero, List.set_cons_succ]
          refine takeH (i := 7) (v := (.int .i64 (n : Int))) rfl (by kernel_rfl) (by kernel_rfl) (by kernel_rfl) (fun _ _ _ h => h) (Or.inl ⟨by rfl, ?hy71⟩) (by assumption) ?rest71
          case hy71 => (intro w hSw; (try dsimp only at hSw); have c0 := Blk.cell hSw 0 rfl; have c1 := Blk.cell hSw 1 rfl; go_simp; first | done | rfl)
          case rest71 =>
          try simp only [Act.put, List.setIfInBounds_toArray, List.set_cons_zero, List.set_cons_succ]
          refine takeH (i := 8) (v := (.int .i64 ((n : Int) / 10))) rfl (by kernel_rfl) (by kernel_rfl) (by kernel_rfl) (fun _ _ _ h => h) (Or.inl ⟨by rfl, ?hy72⟩) (by assumption) ?rest72
          case hy72 => (intro w hSw; (try dsimp only at hSw); go_simp; first | done | rfl | (congr 1; (try rw [IntKind.wrap_i64]); (try rw [IntKind.wrap_u8]); omega))
          case rest72 =>
          try simp only [Act.put, List.setIfInBounds_toArray, List.set_cons_zero, List.set_cons_succ]
          refine takeH (i := 9) (v := (.int .i64 ((n : Int) / 10 % 10))) rfl (by kernel_rfl) (by kernel_rfl) (by kernel_rfl) (fun _ _ _ h => h) (Or.inl ⟨by rfl, ?hy73⟩) (by assumption) ?rest73
          case hy73 => (intro w hSw; (try dsimp only at hSw); go_simp; first | done | rfl | (congr 1; (try rw [IntKind.wrap_i64]); (try rw [IntKind.wrap_u8]); omega))
          case rest73 =>
          try simp only [Act.put, List.setIfInBounds_toArray, List.set_cons_zero, List.set_cons_succ]
          refine takeH (i := 10) (v := (.int .i64 (48 + (n : Int) / 10 % 10))) rfl (by kernel_rfl) (by kernel_rfl) (by kernel_rfl) (fun _ _ _ h => h) (Or.inl ⟨by rfl, ?hy74⟩) (by assumption) ?rest74
          case hy74 => (intro w hSw; (try dsimp only at hSw); go_simp; first | done | rfl | (congr 1; (try rw [IntKind.wrap_i64]); (try rw [IntKind.wrap_u8]); omega))
          case rest74 =>
          try simp only [Act.put, List.setIfInBounds_toArray, List.set_cons_zero, List.set_cons_succ]
          refine takeH (i := 11) (v := (.int .u8 (dB.toNat : Int))) rfl (by kernel_rfl) (by kernel_rfl) (by kernel_rfl) (fun _ _ _ h => h) (Or.inl ⟨by rfl, ?hy75⟩) (by assumption) ?rest75
          case hy75 => (intro w hSw; (try dsimp only at hSw); rw [HVB.out]; go_simp; first | done | rfl | (congr 1; (try rw [IntKind.wrap_i64]); (try rw [IntKind.wrap_u8]); omega))
          case rest75 =>
          try simp only [Act.put, List.setIfInBounds_toArray, List.set_cons_zero, List.set_cons_succ]
          refine takeH (i := 12) (v := ?v76) rfl (by kernel_rfl) (by kernel_rfl) (by kernel_rfl) (fun _ _ _ h => h) (Or.inl ⟨by rfl, ?hy76⟩) (by assumption) ?rest76
          case hy76 => (intro w hSw; (try dsimp only at hSw); go_simp; try (with_reducible rfl))
          case rest76 =>
          try simp only [Act.put, List.setIfInBounds_toArray, List.set_cons_zero, List.set_cons_succ]
          refine takeH (i := 13) (v := (.int .i64 (n : Int))) rfl (by kernel_rfl) (by kernel_rfl) (by kernel_rfl) (fun _ _ _ h => h) (Or.inl ⟨by rfl, ?hy77⟩) (by assumption) ?rest77
          case hy77 => (intro w hSw; (try dsimp only at hSw); have c0 := Blk.cell hSw 0 rfl; have c1 := Blk.cell hSw 1 rfl; go_simp; first | done | rfl)
          case rest77 =>
          try simp only [Act.put, List.setIfInBounds_toArray, List.set_cons_zero, List.set_cons_succ]
          refine takeH (i := 14) (v := (.int .i64 ((n : Int) % 10))) rfl (by kernel_rfl) (by kernel_rfl) (by kernel_rfl) (fun _ _ _ h => h) (Or.inl ⟨by rfl, ?hy78⟩) (by assumption) ?rest78
          case hy78 => (intro w hSw; (try dsimp only at hSw); go_simp; first | done | rfl | (congr 1; (try rw [IntKind.wrap_i64]); (try rw [IntKind.wrap_u8]); omega))
          case rest78 =>
          try simp only [Act.put, List.setIfInBounds_toArray, List.set_cons_zero, List.set_cons_succ]
          refine takeH (i := 15) (v := (.int .i64 (48 + (n : Int) % 10))) rfl (by kernel_rfl) (by kernel_rfl) (by kernel_rfl) (fun _ _ _ h => h) (Or.inl ⟨by rfl, ?hy79⟩) (by assumption) ?rest79
          case hy79 => (intro w hSw; (try dsimp only at hSw); go_simp; first | done | rfl | (congr 1; (try rw [IntKind.wrap_i64]); (try rw [IntKind.wrap_u8]); omega))
          case rest79 =>
          try simp only [Act.put, List.setIfInBounds_toArray, List.set_cons_zero, List.set_cons_succ]
          refine takeH (i := 16) (v := (.int .u8 (dC.toNat : Int))) rfl (by kernel_rfl) (by kernel_rfl) (by kernel_rfl) (fun _ _ _ h => h) (Or.inl ⟨by rfl, ?hy80⟩) (by assumption) ?rest80
          case hy80 => (intro w hSw; (try dsimp only at hSw); rw [HVC.out]; go_simp; first | done | rfl | (congr 1; (try rw [IntKind.wrap_i64]); (try rw [IntKind.wrap_u8]); omega))
          case rest80 =>
          try simp only [Act.put, List.setIfInBounds_toArray, List.set_cons_zero, List.set_cons_succ]
          refine takeH (i := 17) (v := ?v81) rfl (by kernel_rfl) (by kernel_rfl) (by kernel_rfl) (fun _ _ _ h => h) (Or.inl ⟨by rfl, ?hy81⟩) (by assumption) ?rest81
          case hy81 => (intro w hSw; (try dsimp only at hSw); go_simp; try (with_reducible rfl))
          case rest81 =>
          try simp only [Act.put, List.setIfInBounds_toArray, List.set_cons_zero, List.set_cons_succ]
          refine takeH (i := 18) (v := (.int .i64 3)) rfl (by kernel_rfl) (by kernel_rfl) (by kernel_rfl) (fun _ _ _ h => h) (Or.inl ⟨by rfl, ?hy82⟩) (by assumption) ?rest82
          case hy82 => (intro w hSw; (try dsimp only at hSw); have c0 := Blk.cell hSw 0 rfl; have c1 := Blk.cell hSw 1 rfl; go_simp; first | done | rfl)
          case rest82 =>
          try simp only [Act.put, List.setIfInBounds_toArray, List.set_cons_zero, List.set_cons_succ]
          refine takeH (i := 19) (v := (.int .u8 68)) rfl (by kernel_rfl) (by kernel_rfl) (by kernel_rfl) (fun _ _ _ h => h) (Or.inl ⟨by rfl, ?hy83⟩) (by assumption) ?rest83
          case hy83 => (intro w hSw; (try dsimp only at hSw); go_simp; first | done | rfl)
          case rest83 =>
          try simp only [Act.put, List.setIfInBounds_toArray, List.set_cons_zero, List.set_cons_succ]
          refine wpAnyH_ready (rs := [20]) (by kernel_rfl) (by simp) ?_
          refine consH rfl (fun K hK => ?_) AllReadyH.nil
          go_simp
          have hHd2 : (fun w' : World => Blk w' wr.heap.size 53 #[.int .i64 3, .int .i64 (n : Int)]) (wd.alloc (.cells #[.int .u8 (dA.toNat : Int), .int .u8 (dB.toNat : Int), .int .u8 (dC.toNat : Int), .int .u8 68] 5)) := Blk.alloc hHd _
          have hBl2 : Below wr.heap.size wr (wd.alloc (.cells #[.int .u8 (dA.toNat : Int), .int .u8 (dB.toNat : Int), .int .u8 (dC.toNat : Int), .int .u8 68] 5)) := hBl.alloc hBl.size _
          refine hK.out _ _ hHd2 ?_
          clear hK K
          try simp only [Act.put, List.setIfInBounds_toArray, List.set_cons_zero, List.set_cons_succ]
          have hc4 : (convert 34 9 (.slice (some ⟨wd.heap.size, 0, none⟩) 4 4)).run Tryz.prog (wd.alloc (.cells #[.int .u8 (dA.toNat : Int), .int .u8 (dB.toNat : Int), .int .u8 (dC.toNat : Int), .int .u8 68] 5)) = .ok (.string ⟨#[dA, dB, dC, 68]⟩) (wd.alloc (.cells #[.int .u8 (dA.toNat : Int), .int .u8 (dB.toNat : Int), .int .u8 (dC.toNat : Int), .int .u8 68] 5)) := four_text wd dA dB dC 68 4
          refine wpAnyH_ready (rs := [21]) (by kernel_rfl) (by simp) ?_
          refine consH rfl (fun K hK => ?_) AllReadyH.nil
          go_simp
          refine hK.out _ _ hHd2 ?_
          clear hK K
          try simp only [Act.put, List.setIfInBounds_toArray, List.set_cons_zero, List.set_cons_succ]
          clear hc4
          refine takeH (i := 22) (v := (.string (⟨#[27, 91, dA, dB, dC, 68]⟩ : ByteArray))) rfl (by kernel_rfl) (by kernel_rfl) (by kernel_rfl) (fun _ _ _ h => h) (Or.inl ⟨by rfl, ?hy84⟩) (by assumption) ?rest84
          case hy84 => (intro w hSw; (try dsimp only at hSw); go_simp; first | done | rfl)
          case rest84 =>
          try simp only [Act.put, List.setIfInBounds_toArray, List.set_cons_zero, List.set_cons_succ]
          have hc6 := HCV.out (wd.alloc (.cells #[.int .u8 (dA.toNat : Int), .int .u8 (dB.toNat : Int), .int .u8 (dC.toNat : Int), .int .u8 68] 5)) (⟨#[27, 91, dA, dB, dC, 68]⟩ : ByteArray)
          rw [show (⟨#[27, 91, dA, dB, dC, 68]⟩ : ByteArray).size = 6 from rfl] at hc6
          refine wpAnyH_ready (rs := [23]) (by kernel_rfl) (by simp) ?_
          refine consH rfl (fun K hK => ?_) AllReadyH.nil
          go_simp
          have hHd3 : (fun w' : World => Blk w' wr.heap.size 53 #[.int .i64 3, .int .i64 (n : Int)]) (Lib.bytesWorld (wd.alloc (.cells #[.int .u8 (dA.toNat : Int), .int .u8 (dB.toNat : Int), .int .u8 (dC.toNat : Int), .int .u8 68] 5)) 5 (⟨#[27, 91, dA, dB, dC, 68]⟩ : ByteArray)) := Blk.belowW hHd2 (bytesW_below' _ _ _)
          refine hK.out _ _ hHd3 ?_
          clear hK K
          try simp only [Act.put, List.setIfInBounds_toArray, List.set_cons_zero, List.set_cons_succ]
          clear hc6
          have hX := fun cc => XF.out (wd.alloc (.cells #[.int .u8 (dA.toNat : Int), .int .u8 (dB.toNat : Int), .int .u8 (dC.toNat : Int), .int .u8 68] 5)) hBl2 cc
          simp only [show (wd.alloc (.cells #[.int .u8 (dA.toNat : Int), .int .u8 (dB.toNat : Int), .int .u8 (dC.toNat : Int), .int .u8 68] 5)).heap.size = wd.heap.size + 1 from by simp] at hX
          refine wpAnyH_ready (rs := [24]) (by kernel_rfl) (by simp) ?_
          refine consH rfl (fun K hK => ?_) AllReadyH.nil
          go_simp
          go_at_call 17
          with_reducible refine (hX _).mono ?_
          rintro _ w6 ⟨rfl, ht⟩
          have hBB := bytesW_below' (wd.alloc (.cells #[.int .u8 (dA.toNat : Int), .int .u8 (dB.toNat : Int), .int .u8 (dC.toNat : Int), .int .u8 68] 5)) 5 (⟨#[27, 91, dA, dB, dC, 68]⟩ : ByteArray)
          obtain ⟨F6, S6, hsub, hon⟩ := St.told ((H5.out.to hBl2).to hBB) ht
          have hHd4 : (fun w' : World => Blk w' wr.heap.size 53 #[.int .i64 3, .int .i64 (n : Int)]) w6 := Blk.to hHd3 (hon.block _ (Blk.lt hHd3) (fun hF => Nat.lt_irrefl _ (H5.out.ta.lt _ hF)))
          go_simp
          refine hK.out _ _ hHd4 ?_
          clear hK K
          try simp only [Act.put, List.setIfInBounds_toArray, List.set_cons_zero, List.set_cons_succ]
          refine wpAnyH_done (by kernel_rfl) ?_ _
          refine hKQ _ _ ?_
          have H6 := Hd.mk S6
          have HC6 := Hd.mk (St.other ((HC5.out.to hBl2).to hBB) hon HDJ.out S6.bl)
          have HDK : Hd (∀ k, F3 k → ¬ F6 k) := ⟨fun k hk hk2 => by rcases hsub k hk2 with h | h; exact HDJ.out k hk h; have := HC5.out.ta.lt k hk; have := hBl2.size; have := hBB.size; omega⟩
          have x0 := Blk.cell hHd4 0 rfl
          have x1 := Blk.cell hHd4 1 rfl
          clear hHd hHd2 hHd3 hHd4 hBl hBl2 hBB ht S6 hsub hon hX XF HCV H5 HC5 HDJ m0 m1 HVA HVB HVC hKQ
          have b1 : (r : Int) < (R : Int) := by have := HR5.out.1; omega
          have b2 : (c : Int) < (C : Int) := by have := HR5.out.2; omega
          have b3 : (0 : Int) ≤ (r : Int) := by omega
          have b4 : (0 : Int) ≤ (c : Int) := by omega
          have b5 : (n : Int) ≤ 999 := by omega
          have b6 : (1 : Int) ≤ (n : Int) := by omega
          obtain ⟨rn, hrn⟩ : ∃ rn, mvRow 3 n R r = rn := ⟨_, rfl⟩
          obtain ⟨cn, hcn⟩ : ∃ cn, mvCol 3 n C c = cn := ⟨_, rfl⟩
          rw [hrn, hcn] at HMV
          have hq : max ((c : Int) - (n : Int)) 0 = (cn : Int) := by rw [← hcn]; unfold mvCol; rw [if_neg (by omega), if_pos rfl]; omega
          have hcc : rn = r := by rw [← hrn]; unfold mvRow; rw [if_neg (by omega), if_neg (by omega)]
          subst hcc
          clear hrn hcn
          have XC := Hd.mk (cursor_calls H6.out.ta.t)
          rw [HMV.out.2.1, HMV.out.2.2.1] at XC
          go_wp2_with fail
          go_at_call 13
          with_reducible refine XC.out.mono ?_
          rintro _ w7 ⟨rfl, hb⟩
          have H7 := Hd.mk (H6.out.to hb)
          have HC7 := Hd.mk (HC6.out.to hb)
          clear XC hb H6 HC6 x0 x1
          have XU := Hd.mk (full_calls H7.out.ta.t)
          rw [HMV.out.2.2.2.1] at XU
          go_wp2_with fail
          go_at_call 15
          with_reducible refine XU.out.mono ?_
          rintro _ w8 ⟨rfl, hb⟩
          have H8 := Hd.mk (H7.out.to hb)
          have HC8 := Hd.mk (HC7.out.to hb)
          clear XU hb H7 HC7
          have HE6 := Hd.mk (And.intro (HMV.out.2.2.2.2.1.trans HE5.out.1) (And.intro (HMV.out.2.2.2.2.2.trans HE5.out.2.1) HCC.out))
          have HS6 := Hd.mk (And.intro HMV.out.1 (And.intro HMV.out.2.1 HMV.out.2.2.1))
          clear HMV HE5 HCC HS5 hq
          go_wp2
          go_roundg d
          case measure => omega
          case rel => exact ⟨j + 1, rn, cn, F6, s2, by simp, rfl, rfl, ⟨by omega⟩, H8, HC8, HDK, K6, HS6, HE6⟩
      · have l1 : decide ((j : Int) < (n2 : Int)) = false := decide_eq_false (by omega)
        have l2' : decide (j < n2) = false := decide_eq_false hlt
        obtain ⟨wz, rfl⟩ : ∃ wz, wz = wr := ⟨wr, rfl⟩
        clear HM HN2
        have K9 : Hd (TK 45824 s) := ⟨K5.out.mono (by omega)⟩
        have K9b := K2
        clear K5 HS5
        have HDR : Hd (s.l.length = R ∧ True) := ⟨by rw [HE5.out.1]; exact HD1.out.1, trivial⟩
        have HDRb : Hd (s1.l.length = R ∧ True) := ⟨HD1.out.1, trivial⟩
        have HLQ : Hd (∀ k, k < R → (s1.l.getD k []).length ≤ 1000) := ⟨fun k hk => by rw [← getD_get (by rw [HD1.out.1]; exact hk), (K9b.out.ok.rowAt (by rw [HD1.out.1]; exact hk)).1]; have := K9b.out.ok.c2; omega⟩
        go_wp2_with fail
        go_loopg [149] R (fun gk vj wx => ∃ (k : Nat), vj = .int .i64 (k : Int) ∧ Hd (k + gk = R) ∧ Hd (Below wz.heap.size wz wx))
        case atStart => exact ⟨0, rfl, ⟨by omega⟩, ⟨Below.refl _ _⟩⟩
        case round =>
          obtain ⟨k, rfl, HJ2, HB⟩ := hrel
          have h2 := HJ2.out
          have H8 := Hd.mk (H5.out.to HB.out)
          have HC8 := Hd.mk (HC5.out.to HB.out)
          by_cases hlt : k < R
          · obtain ⟨d2, rfl⟩ : ∃ d, gk = d + 1 := ⟨gk - 1, by omega⟩
            have m1 : decide ((k : Int) < (R : Int)) = true := decide_eq_true (by omega)
            have m2 : decide (k < R) = true := decide_eq_true hlt
            have m3 : (k : Int) < (R : Int) := by omega
            have m4 : (0 : Int) ≤ (k : Int) := by omega
            have m5 : (k : Int) ≤ 60 := by omega
            obtain ⟨row, hrow⟩ : ∃ row, s1.l.getD k [] = row := ⟨_, rfl⟩
            have HROWb := Hd.mk hrow
            have HROW : Hd (s.l.getD k [] = row) := ⟨by rw [HE5.out.1]; exact hrow⟩
            have HLR : Hd (row.length ≤ 1000) := ⟨by rw [← hrow]; exact HLQ.out k hlt⟩
            have HLRb := HLR
            clear hrow
            go_wp2_with fail
            have XR := Hd.mk (row_at H8.out.ta.t K9.out.ok (k := k) (by rw [HDR.out.1]; exact hlt))
            rw [HROW.out] at XR
            go_wp2_with fail
            go_at_call 14
            with_reducible refine XR.out.mono ?_
            rintro _ w10 ⟨r1, rfl, hrn, hrg, hr, hb⟩
            have HB10 := Hd.mk hb
            have XO := Hd.mk (old_calls hr HLR.out)
            clear XR hrn hrg hr hb
            go_wp2_with fail
            go_wp2_with fail
            go_at_call 20
            with_reducible refine XO.out.mono ?_
            rintro _ w11 ⟨A1, c1, rfl, hc1, hC1, hb⟩
            have HB11 := Hd.mk (HB10.out.trans (hb.mono HB10.out.size))
            have HC1 := Hd.mk (And.intro hc1 hC1)
            clear XO hc1 hC1 hb HB10
            go_wp2_with fail
            have XR := Hd.mk (row_at (HC8.out.to HB11.out).ta.t K9b.out.ok (k := k) (by rw [HDRb.out.1]; exact hlt))
            rw [show (s1 : Tm).l.getD k [] = row from HROWb.out] at XR
            go_wp2_with fail
            go_at_call 14
            with_reducible refine XR.out.mono ?_
            rintro _ w12 ⟨r2, rfl, hrn, hrg, hr, hb⟩
            have HB12 := Hd.mk (HB11.out.trans (hb.mono HB11.out.size))
            have HCb := Hd.mk (Kd.C_below HC1.out.2 hb)
            have XO := Hd.mk (old_calls hr HLRb.out)
            clear XR hrn hrg hr hb HB11
            go_wp2_with fail
            go_wp2_with fail
            go_at_call 20
            with_reducible refine XO.out.mono ?_
            rintro _ w13 ⟨A2, c2, rfl, hc2, hC2, hb⟩
            have HB13 := Hd.mk (HB12.out.trans (hb.mono HB12.out.size))
            have XS := Hd.mk (same_calls (n := row.length) rfl HLR.out (Kd.C_below HCb.out hb) hC2 HC1.out.1 hc2)
            clear XO hc2 hC2 hb HB12 HC1 HCb
            go_wp2_with fail
            go_wp2_with fail
            go_at_call 19
            with_reducible refine XS.out.mono ?_
            rintro _ w14 ⟨rfl, hb⟩
            have HB14 := Hd.mk (HB13.out.trans (hb.mono HB13.out.size))
            clear XS hb HB13
            go_wp2_with fail
            have HBn := Hd.mk (HB.out.trans (HB14.out.mono HB.out.size))
            clear HB HB14 H8 HC8
            go_wp2
            go_roundg d2
            case measure => omega
            case rel => exact ⟨k + 1, by simp, ⟨by omega⟩, HBn⟩
          · have m1 : decide ((k : Int) < (R : Int)) = false := decide_eq_false (by omega)
            have m2 : decide (k < R) = false := decide_eq_false hlt
            clear HLQ
            go_wp2_with fail
            have XA := Hd.mk (alive_calls wr (HT.out.below H8.out.bl))
            go_wp2_with fail
            go_at_call 11
            with_reducible refine XA.out.mono ?_
            rintro _ w11 ⟨rfl, hb⟩
            have H11 := Hd.mk (H8.out.to hb)
            have HC11 := Hd.mk (HC8.out.to hb)
            clear XA hb H8 HC8
            go_wp2_with fail
            have XO := Hd.mk (off_calls H11.out.ta.t)
            rw [HE5.out.2.1] at XO
            go_wp2_with fail
            go_at_call 21
            with_reducible refine XO.out.mono ?_
            rintro _ w12 ⟨rfl, hb⟩
            have H12 := Hd.mk (H11.out.to hb)
            have HC12 := Hd.mk (HC11.out.to hb)
            clear XO hb H11 HC11
            go_wp2_with fail
            have XO := Hd.mk (off_calls HC12.out.ta.t)
            go_wp2_with fail
            go_at_call 21
            with_reducible refine XO.out.mono ?_
            rintro _ w13 ⟨rfl, hb⟩
            have H13 := Hd.mk (H12.out.to hb)
            clear XO hb H12 HC12
            go_wp2_with fail
            go_ret
            exact ⟨rfl, H13.out.bl⟩
theorem moves_walk' {cs : Array Value} {x : Int × Int} {A : Option Addr} {c : Nat} {l : List S46} {A2 : Option Addr} {c2 : Nat} {l2 : List (Int × Int)} {w : World} (hK : kArr2.K w x cs.toList) (hc : l.length ≤ c) (hE : Kd.C k46 w A l.length l) (hQ : l.length * Tryz.prog.bytesOf 46 ≤ reachBytes ∧ ∀ x ∈ l, SizedE x) (hc2 : l2.length ≤ c2) (hM : Kd.C kArr2 w A2 l2.length l2) (hT : TabsT w) :
    Calls Tryz.prog 8 #[.agg cs, .slice A l.length c, .slice A2 l2.length c2] w fun e w' => e = .returned (.bool true) ∧ Below w.heap.size w w' := by
  obtain rfl : cs = #[.int .i64 x.1, .int .i64 x.2] := Array.toList_inj.1 (kArr2_open hK)
  exact moves_walk x.1 x.2 hc hE hQ hT hc2 hM
end Go.Proofs.YtgifpkjcggnhgaaGreatDoorL

