/- Parts of the proof of the law that the last file states; declarations that nothing mentions are left out by a program. No conditions. -/
import Derived.Test.YtgifpkjcggnhgaaGreatDoorLTermBq
set_option linter.unusedVariables false
set_option linter.unusedSimpArgs false
namespace Go.Proofs.YtgifpkjcggnhgaaGreatDoorL
open Go Go.RowKit Go.Proofs.YtgifpkjcggnhgaaGreatDoorW.PrintWords Go.Proofs.YtgifpkjcggnhgaaGreatDoor.K
theorem s_nil {b : ByteArray} (h : b.size = 0) : b.toList = [] := by
  rw [Lib.toList_data]
  exact List.eq_nil_of_length_eq_zero (by rw [← Lib.size_eq]; exact h)
theorem s_ne {b : ByteArray} (h : ¬ b.size = 0) : ¬ b.toList = [] := fun e => h (by rw [Lib.toList_data] at e; rw [Lib.size_eq, e]; rfl)
set_option maxRecDepth 100000 in
set_option maxHeartbeats 4000000 in
theorem cells_walk (a b : Int) {A : Option Addr} {c : Nat} {l : List S46} {w : World} (hc : l.length ≤ c) (hE : Kd.C k46 w A l.length l) (hQ : l.length * Tryz.prog.bytesOf 46 ≤ reachBytes ∧ ∀ x ∈ l, SizedE x) (hT : TabsT w) :
    Calls Tryz.prog 3 #[.agg #[.int .i64 a, .int .i64 b], .slice A l.length c] w fun e w' => e = .returned (.bool true) ∧ Below w.heap.size w w' := by
  have HB0 := Hd.mk ((Below.refl w.heap.size w).alloc (Nat.le_refl _) (.cells #[.int .i64 a, .int .i64 b] 22))
  have XB := Hd.mk (begin_calls a b hc (Kd.C_below hE HB0.out) hQ (hT.below HB0.out))
  have HT := Hd.mk hT
  have hcv := fun W C n c => Lib.run_convert_bytes_const (P := Tryz.prog) W 34 5 C n c Tryz.underlying34 Tryz.underlying5
  generalize l.length = ll at *
  clear hc hE hQ hT
  go_enter Tryz.func3, Tryz.ntmps3
  go_wp2_with fail
  go_at_call 10
  with_reducible refine XB.out.mono ?_
  rintro e1 w1 ⟨hb, he⟩
  have HB1 := Hd.mk (HB0.out.trans (hb.mono HB0.out.size))
  rcases he with rfl | ⟨T, F, s, rfl, hst, hk⟩
  · clear hb XB
    go_wp2_with fail
    have XA := Hd.mk (alive_calls w1 (HT.out.below HB1.out))
    go_at_call 11
    with_reducible refine XA.out.mono ?_
    rintro _ w3 ⟨rfl, hb⟩
    have HB2 := Hd.mk (HB1.out.trans (hb.mono HB1.out.size))
    clear hb XA HB1
    go_wp2_with fail
    go_ret
    exact ⟨rfl, HB2.out⟩
  · skip
    have H1 : Hd (St w w1 F T s) := ⟨⟨hst.ta, fun k hk => Nat.le_trans HB0.out.size (hst.own k hk), HB1.out⟩⟩
    have K1 := Hd.mk hk
    clear hb hst hk XB HB1 HB0
    obtain ⟨R, hR⟩ : ∃ R, s.l.length = R := ⟨_, rfl⟩
    obtain ⟨C, hC⟩ : ∃ C, s.cols = C := ⟨_, rfl⟩
    have HD := Hd.mk (And.intro hR hC)
    have hR60 : R ≤ 60 := by rw [← hR]; exact K1.out.ok.r2
    have hC120 : C ≤ 120 := by rw [← hC]; exact K1.out.ok.c2
    have hC1 : 1 ≤ C := by rw [← hC]; exact K1.out.ok.c1
    have XS := Hd.mk (size_calls H1.out.ta.t)
    rw [hR, hC] at XS
    clear hR hC
    go_wp2_with fail
    go_wp2_with fail
    go_at_call 12
    with_reducible refine XS.out.mono ?_
    rintro _ w2 ⟨rfl, hb⟩
    have H2 := Hd.mk (H1.out.to hb)
    clear hb XS H1
    have XC := Hd.mk (cursor_calls H2.out.ta.t)
    go_wp2_with fail
    go_at_call 13
    with_reducible refine XC.out.mono ?_
    rintro _ w3 ⟨rfl, hb⟩
    have H3 := Hd.mk (H2.out.to hb)
    clear hb XC H2
    go_wp2_with fail
    go_loopg [32] R (fun gk vj wx => ∃ (k : Nat), vj = .int .i64 (k : Int) ∧ Hd (k + gk = R) ∧ Hd (Below w3.heap.size w3 wx))
    case atStart => exact ⟨0, rfl, ⟨by omega⟩, ⟨Below.refl _ _⟩⟩
    case round =>
      obtain ⟨k, rfl, HJ, HB⟩ := hrel
      have h1 := HJ.out
      have H4 := Hd.mk (H3.out.to HB.out)
      by_cases hlt : k < R
      · obtain ⟨d, rfl⟩ : ∃ d, gk = d + 1 := ⟨gk - 1, by omega⟩
        have l1 : decide ((k : Int) < (R : Int)) = true := decide_eq_true (by omega)
        have l2 : decide (k < R) = true := decide_eq_true hlt
        have l3 : (k : Int) < (R : Int) := by omega
        have l4 : (0 : Int) ≤ (k : Int) := by omega
        have l5 : (k : Int) ≤ 60 := by omega
        have hks : k < s.l.length := by rw [HD.out.1]; exact hlt
        have hrow := K1.out.ok.rowAt hks
        rw [getD_get hks (d := [])] at hrow
        obtain ⟨row, hrw⟩ : ∃ row, s.l.getD k [] = row := ⟨_, rfl⟩
        have XR := Hd.mk (row_at H4.out.ta.t K1.out.ok (k := k) hks)
        rw [hrw] at XR hrow
        rw [HD.out.2] at XR
        have HRL : Hd (row.length = C) := ⟨hrow.1.trans HD.out.2⟩
        have HRO := Hd.mk hrow.2.1
        clear hks hrow hrw
        go_wp2_with fail
        go_wp2_with fail
        go_at_call 14
        with_reducible refine XR.out.mono ?_
        rintro _ w5 ⟨r, rfl, hrn, hrg, hr, hb⟩
        have HB5 := Hd.mk (HB.out.trans (hb.mono HB.out.size))
        have HR := Hd.mk hr
        clear XR hrg hr hb HB H4
        unfold RR.v
        rw [hrn]
        go_wp2_with fail
        go_loopg [44] C (fun gk2 vj2 wy => ∃ (j : Nat), vj2 = .int .i64 (j : Int) ∧ Hd (j + gk2 = C) ∧ Hd (Below w5.heap.size w5 wy))
        case atStart => exact ⟨0, rfl, ⟨by omega⟩, ⟨Below.refl _ _⟩⟩
        case round =>
          obtain ⟨j, rfl, HJ2, HBy⟩ := hrel
          have h2 := HJ2.out
          by_cases hltj : j < C
          · obtain ⟨d2, rfl⟩ : ∃ d, gk = d + 1 := ⟨gk - 1, by omega⟩
            have m1 : decide ((j : Int) < (C : Int)) = true := decide_eq_true (by omega)
            have m2 : decide (j < C) = true := decide_eq_true hltj
            have m3 : (j : Int) < (C : Int) := by omega
            have m4 : (0 : Int) ≤ (j : Int) := by omega
            have m5 : (j : Int) ≤ 120 := by omega
            have hjl : j < row.length := by rw [HRL.out]; exact hltj
            have hok := HRO.out j hjl
            obtain ⟨x0, x1, x2⟩ := (HR.out.below HBy.out).three (k := j) hjl
            have HNX := Hd.mk (fun (o : Obj) => HBy.out.trans (((Below.refl wr.heap.size wr).alloc (Nat.le_refl _) o).mono HBy.out.size))
            rw [HRL.out] at hok
            by_cases hj0 : j = 0
            · have hw0 : (getC row j).wide ≠ 0 := fun e => by have := (hok.2.1.1 e).1; omega
              have z1 : decide ((0 : Int) < (j : Int)) = false := decide_eq_false (by omega)
              have z2 : decide (0 < j) = false := decide_eq_false (by omega)
              have z3 : ¬ (0 : Int) < (j : Int) := by omega
              have hwl := hok.1.1
              by_cases hw1 : (getC row j).wide = 1
              · rw [hw1] at x1
                have hs1 : ¬ (getC row j).S.toList = [] := s_ne (fun e => by have := hok.2.2.1 e; omega)
                have hs2 : (getC row j).S.toList.isEmpty = false := by simpa using hs1
                subst hj0
                clear hok hw0 HR HRO HRL HBy hjl hw1
                go_wp2
                go_roundg d2
                case measure => omega
                case rel => exact ⟨0 + 1, by simp, ⟨by omega⟩, ⟨HNX.out _⟩⟩
              · have hw2 : (getC row j).wide = 2 := by omega
                rw [hw2] at x1
                have hs1 : ¬ (getC row j).S.toList = [] := s_ne (fun e => by have := hok.2.2.1 e; omega)
                have hs2 : (getC row j).S.toList.isEmpty = false := by simpa using hs1
                have hne : ¬ (j : Int) = (C : Int) - 1 := by have := hok.1.2 hw2; omega
                have hne2 : decide ((j : Int) = (C : Int) - 1) = false := decide_eq_false hne
                have hne3 : ((j : Int) == (C : Int) - 1) = false := by simpa using hne
                subst hj0
                clear hok hw0 HR HRO HRL HBy hjl hw1 hw2
                go_wp2
                go_roundg d2
                case measure => omega
                case rel => exact ⟨0 + 1, by simp, ⟨by omega⟩, ⟨HNX.out _⟩⟩
            · obtain ⟨i, rfl⟩ : ∃ i, j = i + 1 := ⟨j - 1, by omega⟩
              rw [Nat.add_sub_cancel] at hok
              have hil : i < row.length := by omega
              obtain ⟨y0, y1, y2⟩ := (HR.out.below HBy.out).three (k := i) hil
              have hyA : ∀ o : Obj, (wr.alloc o).cell? ⟨r.g, i * 3 + 1, none⟩ = some (.int .i64 ((getC row i).wide : Int)) := fun o => Lib.cell?_alloc_some o y1
              have z1 : decide ((0 : Int) < ((i + 1 : Nat) : Int)) = true := decide_eq_true (by omega)
              have z2 : decide (0 < i + 1) = true := decide_eq_true (by omega)
              have z3 : (0 : Int) < ((i + 1 : Nat) : Int) := by omega
              have z4 : (0 : Int) ≤ (i : Int) := by omega
              have z5 : (i : Int) < (C : Int) := by omega
              have ei : ((i + 1 : Nat) : Int) = (i : Int) + 1 := rfl
              rw [ei] at m1 m3 m4 m5 z1 z3
              clear ei hj0
              by_cases hp : (getC row i).wide = 2
              · have hw0 : (getC row (i + 1)).wide = 0 := hok.2.1.2 ⟨by omega, hp⟩
                have hs1 : (getC row (i + 1)).S.toList = [] := s_nil (hok.2.2.2 hw0)
                rw [hw0] at x1
                rw [hp] at hyA
                clear hok HR HRO HRL HBy hjl hil hw0 hp
                go_wp2
                go_roundg d2
                case measure => omega
                case rel => exact ⟨i + 1 + 1, by simp, ⟨by omega⟩, ⟨HNX.out _⟩⟩
              · have hw0 : (getC row (i + 1)).wide ≠ 0 := fun e => hp (hok.2.1.1 e).2
                have hp1 : decide (((getC row i).wide : Int) = 2) = false := decide_eq_false (by omega)
                have hp2 : (((getC row i).wide : Int) == 2) = false := by simp; omega
                have hp3 : ¬ ((getC row i).wide : Int) = 2 := by omega
                have hwl := hok.1.1
                by_cases hw1 : (getC row (i + 1)).wide = 1
                · rw [hw1] at x1
                  have hs1 : ¬ (getC row (i + 1)).S.toList = [] := s_ne (fun e => by have := hok.2.2.1 e; omega)
                  have hs2 : (getC row (i + 1)).S.toList.isEmpty = false := by simpa using hs1
                  clear hok hw0 HR HRO HRL HBy hjl hil hw1 hp
                  go_wp2
                  go_roundg d2
                  case measure => omega
                  case rel => exact ⟨i + 1 + 1, by simp, ⟨by omega⟩, ⟨HNX.out _⟩⟩
                · have hw2 : (getC row (i + 1)).wide = 2 := by omega
                  rw [hw2] at x1
                  have hs1 : ¬ (getC row (i + 1)).S.toList = [] := s_ne (fun e => by have := hok.2.2.1 e; omega)
                  have hs2 : (getC row (i + 1)).S.toList.isEmpty = false := by simpa using hs1
                  have hne : ¬ ((i : Int) + 1) = (C : Int) - 1 := by have := hok.1.2 hw2; omega
                  have hne2 : decide (((i : Int) + 1) = (C : Int) - 1) = false := decide_eq_false hne
                  have hne3 : (((i : Int) + 1) == (C : Int) - 1) = false := by simpa using hne
                  clear hok hw0 HR HRO HRL HBy hjl hil hw1 hw2 hp
                  go_wp2
                  go_roundg d2
                  case measure => omega
                  case rel => exact ⟨i + 1 + 1, by simp, ⟨by omega⟩, ⟨HNX.out _⟩⟩
          · have m1 : decide ((j : Int) < (C : Int)) = false := decide_eq_false (by omega)
            have m2 : decide (j < C) = false := decide_eq_false hltj
            have HB6 := Hd.mk (HB5.out.trans (HBy.out.mono HB5.out.size))
            clear HBy HB5 HR HRO HRL
            go_wp2
            go_roundg d
            case measure => omega
            case rel => exact ⟨k + 1, by simp, ⟨by omega⟩, HB6⟩
      · have l1 : decide ((k : Int) < (R : Int)) = false := decide_eq_false (by omega)
        have l2 : decide (k < R) = false := decide_eq_false hlt
        clear HB H3
        go_wp2_with fail
        have XA := Hd.mk (alive_calls wr (HT.out.below H4.out.bl))
        go_wp2_with fail
        go_at_call 11
        with_reducible refine XA.out.mono ?_
        rintro _ w7 ⟨rfl, hb⟩
        have H8 := Hd.mk (H4.out.to hb)
        clear XA hb H4
        have n1 : (0 : Int) ≤ (s.row : Int) := Int.natCast_nonneg _
        have n2 : (0 : Int) ≤ (s.col : Int) := Int.natCast_nonneg _
        have n3 : (s.row : Int) < (R : Int) := by have := K1.out.ok.row; have := HD.out.1; omega
        have n4 : (s.col : Int) < (C : Int) := by have := K1.out.ok.col; have := HD.out.2; omega
        have n5 : s.row < R := by omega
        have n6 : s.col < C := by omega
        have HFU : Hd (s.full = true → (s.col : Int) = (C : Int) - 1) := ⟨fun e => by have := K1.out.ok.full e; have := HD.out.2; omega⟩
        have XF := Hd.mk (full_calls H8.out.ta.t)
        go_wp2_with fail
        go_wp2_with fail
        go_at_call 15
        with_reducible refine XF.out.mono ?_
        rintro _ w8 ⟨rfl, hb⟩
        have H9 := Hd.mk (H8.out.to hb)
        clear XF hb H8
        cases hfu : s.full with
        | false =>
          clear HFU
          go_wp2_with fail
          go_ret
          exact ⟨rfl, H9.out.bl⟩
        | true =>
          have hcc := HFU.out hfu
          clear HFU
          go_wp2_with fail
          go_ret
          exact ⟨rfl, H9.out.bl⟩
theorem cells_walk' {cs : Array Value} {x : Int × Int} {A : Option Addr} {c : Nat} {l : List S46} {w : World} (hK : kArr2.K w x cs.toList) (hc : l.length ≤ c) (hE : Kd.C k46 w A l.length l) (hQ : l.length * Tryz.prog.bytesOf 46 ≤ reachBytes ∧ ∀ x ∈ l, SizedE x) (hT : TabsT w) :
    Calls Tryz.prog 3 #[.agg cs, .slice A l.length c] w fun e w' => e = .returned (.bool true) ∧ Below w.heap.size w w' := by
  obtain rfl : cs = #[.int .i64 x.1, .int .i64 x.2] := Array.toList_inj.1 (kArr2_open hK)
  exact cells_walk x.1 x.2 hc hE hQ hT
end Go.Proofs.YtgifpkjcggnhgaaGreatDoorL

