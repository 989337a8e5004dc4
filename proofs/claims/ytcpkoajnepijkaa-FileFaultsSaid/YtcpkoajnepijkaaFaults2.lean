/- FileFaults, its walk. No conditions. -/
import Derived.Test.YtcpkoajnepijkaaGrow
import Derived.Test.YtcpkoajnepijkaaFaults1
namespace Go.Proofs.Ytcpkoajnepijkaa
set_option linter.unusedVariables false
set_option linter.unusedSimpArgs false
open Go.RowKit Go.Proofs.YtcpkoajnepijkaaL Go.Proofs.YtcpkoajnepijkaaW.PrintWords

/-- What holds at the head of a round. -/
structure FHead (W : World) (F : Nat) (A0 A1 : Option Addr) (c0 c1 : Nat) (b c : List Int) (m k j : Nat) (v : Value) (w : World) (fp : Nat → Prop) (S : PS) : Prop where
  fs : FSat W.heap.size (OwnL v) w F fp S k
  inv : FInv b c m k S
  own : Own w W.heap.size v (fwant b c m j)
  b0 : RB W.heap.size AllL w (.slice A0 b.length c0) b
  b1 : RB W.heap.size AllL w (.slice A1 c.length c1) c
  bel : Below W.heap.size W w

section
variable {W w w' : World} {F : Nat} {A0 A1 : Option Addr} {c0 c1 : Nat} {b c : List Int} {m k : Nat} {v : Value} {fp : Nat → Prop} {S : PS}
theorem faults_write (h : FHead W F A0 A1 c0 c1 b c m k k v w fp S) (hk : k ≤ 22) (hl0 : b.length ≤ 500) (hl1 : c.length ≤ 500) {A : Option Addr} {cc : Nat} {xs : List Int} (hx : xs = fx b c k) (hr : RB W.heap.size AllL w (.slice A xs.length cc) xs) :
    Calls Try.prog 23 #[ptr F, .string nA, .slice A xs.length cc] w fun e w' => e = .returned (.int .i64 (if k = m then 102 else 0)) ∧ ∃ fp' S', FHead W F A0 A1 c0 c1 b c m (k + 1) k v w' fp' S' ∧ RB W.heap.size AllL w' (.slice A xs.length cc) xs := by
  have hwl := fwant_le (b := b) (c := c) (n := m) hl0 hl1 k
  have hxl : (fx b c k).length ≤ 500 := by unfold fx; split <;> assumption
  have hm : k * 500 ≤ 22 * 500 := Nat.mul_le_mul_right _ hk
  obtain ⟨s1, s2⟩ := finv_step h.inv (by omega)
  have hw := h.fs.write (by omega) nA (b := xs) hr.any (by rw [hx]; omega)
  refine hw.mono ?_
  rintro e w' ⟨rfl, ⟨fp', hf, _⟩, ho⟩
  rw [hx, s1]
  have hmu := h.fs.mut
  refine ⟨rfl, fp', _, ⟨?_, s2, own_write_keep h.fs h.own ho, h.b0.only ho hmu, h.b1.only ho hmu, bo h.bel ho (fun g hg => (hmu g hg).1) h.fs.base_le⟩, ?_⟩
  · rw [hx] at hf; exact hf
  · rw [hx] at hr; exact hr.only ho hmu
theorem faults_same (h : FHead W F A0 A1 c0 c1 b c m (k + 1) k v w fp S) (hk : k = m) : FHead W F A0 A1 c0 c1 b c m (k + 1) (k + 1) v w fp S :=
  ⟨h.fs, h.inv, by have := h.own; simpa [fwant, hk] using this, h.b0, h.b1, h.bel⟩
theorem faults_more (h : FHead W F A0 A1 c0 c1 b c m (k + 1) k v w fp S) (hk : k ≠ m) {v' : Value} (ho : Own w' W.heap.size v' (fwant b c m k ++ fx b c k)) (hg : w.grownBy w' v.ownBlock) (hv : v'.ownBlock = v.ownBlock ∨ ∃ g, v'.ownBlock = some g ∧ w.heap.size ≤ g) :
    FHead W F A0 A1 c0 c1 b c m (k + 1) (k + 1) v' w' fp S := by
  have hon := grown_onlyL hg
  have hml : ∀ Lz : Nat → Prop, (∀ g, OwnL v g → Lz g) → MutL W.heap.size Lz w (OwnL v) := fun Lz hL g hgl => ⟨ownL_base h.own g hgl, fun _ => hL g hgl⟩
  refine ⟨h.fs.grow hon (hml _ (fun _ h => h)) (h.fs.apart h.own) (fun g hgl => ⟨?_, ownL_lt ho g hgl⟩), h.inv, by simp only [fwant, if_neg hk]; exact ho, h.b0.onlyL hon (hml _ (fun _ _ => trivial)), h.b1.onlyL hon (hml _ (fun _ _ => trivial)), bo h.bel hon (ownL_base h.own) h.fs.base_le⟩
  rcases hv with e | ⟨g', e, hge⟩
  · left; unfold OwnL at hgl ⊢; rw [← e]; exact hgl
  · right
    unfold OwnL at hgl
    rw [e] at hgl
    injection hgl with hgl
    omega
end

set_option maxRecDepth 100000 in
set_option maxHeartbeats 4000000 in
theorem faults_walk {W : World} {A0 A1 : Option Addr} {c0 c1 : Nat} {b c : List Int} {n : Int} (hb0 : RB W.heap.size AllL W (.slice A0 b.length c0) b) (hb1 : RB W.heap.size AllL W (.slice A1 c.length c1) c) (hl0 : b.length ≤ 500) (hl1 : c.length ≤ 500) (hn0 : 0 ≤ n) (hn1 : n ≤ 20) :
    Calls Try.prog 7 #[.slice A0 b.length c0, .slice A1 c.length c1, .int .i64 n] W fun e w' => e = .returned (.bool true) ∧ Below W.heap.size W w' := by
  have XN := Aside0.mk (fsat_new (base := W.heap.size) (Lz := NoL) (w := W) (Nat.le_refl _) (fun _ h => h.elim))
  obtain ⟨m, hm⟩ : ∃ m : Nat, n = (m : Int) := ⟨n.toNat, by omega⟩
  have HM := Aside0.mk hm
  have HB0 := Aside0.mk hb0
  have HB1 := Aside0.mk hb1
  have hm20 : m ≤ 20 := by omega
  clear hm hb0 hb1
  go_enter Try.func7, Try.ntmps7
  go_wp2_with fail
  go_at_call 12
  with_reducible refine (XN.out).mono ?_
  rintro e w1 ⟨F, fp, rfl, hf1, hfp, hbl1⟩
  have HF1 := Aside0.mk hf1
  have HBL1 := Aside0.mk hbl1
  clear hf1 hfp hbl1 XN
  have XF := Aside0.mk (HF1.out.fault (n := n) (by omega))
  rw [if_neg (show ¬ n < -1 by omega)] at XF
  go_wp2_with fail
  go_at_call 28
  with_reducible refine (XF.out).mono ?_
  rintro e w2 ⟨rfl, hf2, ho2⟩
  have HBL2 : Aside0 (Below W.heap.size W w2) := ⟨bo HBL1.out ho2 (fun g hg => (HF1.out.mut g hg).1) HF1.out.base_le⟩
  have H0 : Aside0 (FHead W F A0 A1 c0 c1 b c m 0 0 (.slice none 0 0) w2 fp { newP with fault := n }) := ⟨⟨hf2.loose (fun g hg => by simp [OwnL, Value.ownBlock] at hg), by rw [HM.out]; exact finv_zero b c m, Kd.R_nil _ _ _ _ _, HB0.out.below HBL2.out, HB1.out.below HBL2.out, HBL2.out⟩⟩
  clear hf2 ho2 XF HBL2
  go_wp2_with fail
  go_loopg [8, 45] (m + 3) (fun kq v8 v45 w' => ∃ k : Nat, k + kq = m + 3 ∧ v45 = .int .i64 k ∧ ∃ fp S, Aside0 (FHead W F A0 A1 c0 c1 b c m k k v8 w' fp S))
  case atStart => exact ⟨0, by omega, rfl, fp, _, H0⟩
  case round =>
    clear H0
    obtain ⟨k, hk, rfl, fpk, S, H⟩ := hrel
    cases gk with
    | zero =>
      have hge : ¬ (k : Int) < n + 3 := by have := HM.out; omega
      obtain rfl : k = m + 3 := by omega
      obtain ⟨g1, g2, g3⟩ := finv_end H.out.inv
      have XR := Aside0.mk (H.out.fs.read (by omega) nA)
      rw [g1] at XR
      have HOPS := Aside0.mk g2
      have HPEN := Aside0.mk g3
      clear g1 g2 g3 hk
      have hlt : decide (((m + 3 : Nat) : Int) < n + 3) = false := decide_eq_false hge
      go_wp2_with fail
      go_at_call 18
      refine (XR.out).mono ?_
      rintro e w3 ⟨v3, rfl, ho3, hb3⟩
      have HO3 := Aside0.mk ho3
      have HB3 := Aside0.mk hb3
      clear ho3 hb3 XR
      go_wp2_with fail
      have XL := Aside0.mk (alive_walk w3)
      go_at_call 11
      with_reducible refine (XL.out).mono ?_
      rintro e w4 ⟨rfl, hb4⟩
      have HB4 := Aside0.mk hb4
      have hb34 : Below wr.heap.size wr w4 := HB3.out.trans (hb4.mono HB3.out.size)
      have HB34 := Aside0.mk hb34
      clear hb4 hb34 XL
      obtain ⟨A8, c8, hv8, _⟩ := own_slice (Kd.own_of_R (enc := Value.int .u8) H.out.own)
      have XE := Aside0.mk (equal_calls ((RB.of_R (base := W.heap.size) (Lz := NoL) HO3.out (fun _ _ h => h)).below HB4.out) ((RB.of_R (base := W.heap.size) (Lz := NoL) H.out.own (fun _ _ h => h)).below HB34.out) rfl)
      clear hv8
      go_wp2_with fail
      go_at_call 21
      with_reducible refine (XE.out).mono ?_
      rintro e w5 ⟨rfl, hb5⟩
      have hb35 : Below wr.heap.size wr w5 := HB34.out.trans (hb5.mono HB34.out.size)
      have HB35 := Aside0.mk hb35
      have XO := Aside0.mk (H.out.fs.below hb35).ops
      have XP := Aside0.mk (H.out.fs.below hb35).pending
      rw [HOPS.out] at XO
      rw [HPEN.out] at XP
      have hq1 : (((m + 3 : Nat) : Int) == n + 3) = true := by have := HM.out; rw [beq_iff_eq]; omega
      have hq2 : (((m + 2 : Nat) : Int) == n + 2) = true := by have := HM.out; rw [beq_iff_eq]; omega
      have HEND : Aside0 (Below W.heap.size W w5) := ⟨H.out.bel.trans (hb35.mono H.out.fs.base_le)⟩
      clear hb5 hb35 XE
      generalize ((m + 3 : Nat) : Int) = z3 at hq1 XO
      generalize ((m + 2 : Nat) : Int) = z2 at hq2 XP
      go_wp2_with fail
      go_at_call 26
      with_reducible refine (XO.out).mono ?_
      rintro e w6 ⟨rfl, rfl⟩
      go_wp2_with fail
      go_at_call 22
      with_reducible refine (XP.out).mono ?_
      rintro e w6 ⟨rfl, rfl⟩
      go_wp2
      go_ret
      exact ⟨rfl, HEND.out⟩
    | succ d =>
      have hlt : (k : Int) < n + 3 := by have := HM.out; omega
      by_cases hpar : k % 2 = 1
      · have hmod : ((k : Int) % 2 == 1) = true := by first | (rw [beq_iff_eq]; omega) | (rw [beq_eq_false_iff_ne]; omega)
        have XW := Aside0.mk (faults_write H.out (by omega) hl0 hl1 (show c = fx b c k from by unfold fx; simp [hpar]) H.out.b1)
        have HFX : Aside0 (c = fx b c k) := ⟨by unfold fx; simp [hpar]⟩
        clear hpar
        by_cases hkm : k = m
        · have hk1 : ((k : Int) == n) = true := by have := HM.out; rw [beq_iff_eq]; omega
          have hk2 : ((k : Int) != n) = false := by simp only [bne, hk1, Bool.not_true]
          rw [if_pos hkm] at XW
          have HKM := Aside0.mk hkm
          clear hkm
          go_wp2_with fail
          go_at_call 23
          refine (XW.out).mono ?_
          rintro e w3 ⟨rfl, fp3, S3, h3, hr3⟩
          have H3 := Aside0.mk (faults_same h3 HKM.out)
          have HK := Aside0.mk hk
          clear h3 hr3 XW H hk
          go_wp2
          go_roundg d
          case measure => omega
          case rel => exact ⟨k + 1, by have := HK.out; omega, by go_num, _, _, H3⟩
        · have hk1 : ((k : Int) == n) = false := by have := HM.out; rw [beq_eq_false_iff_ne]; omega
          have hk2 : ((k : Int) != n) = true := by simp only [bne, hk1, Bool.not_false]
          rw [if_neg hkm] at XW
          have HKM := Aside0.mk hkm
          clear hkm
          go_wp2_with fail
          go_at_call 23
          refine (XW.out).mono ?_
          rintro e w3 ⟨rfl, fp3, S3, h3, hr3⟩
          have H3 := Aside0.mk h3
          obtain ⟨A9, c9, hv9, _⟩ := own_slice (Kd.own_of_R (enc := Value.int .u8) h3.own)
          have HR3 : Aside0 ((Kd.int .u8).C w3 A1 c.length c) := ⟨by
            obtain ⟨A', c', e, hc, hC, _⟩ := hr3
            injection e with e1 e2 e3
            subst e1
            exact hC⟩
          have HK := Aside0.mk hk
          have hwl := fwant_le (b := b) (c := c) (n := m) hl0 hl1 k
          have hwl2 : (fwant b c m k).length ≤ 11500 := by have : k * 500 ≤ 23 * 500 := Nat.mul_le_mul_right _ (by omega); omega
          clear h3 hr3 XW H hk hwl hv9
          go_wp2_with (at_builtin; refine Kd.R_append_rows (Kd.int .u8) (w0 := W) W.heap.size rfl (.tmp 74) (.tmp 75) 31 5 (.int .u8 0) 1 rfl Try.underlying31 info5 rfl (by decide) (by decide) u8 (fwant b c m k) c A1 c.length c1 (fun _ => True) (fun _ => False) rfl rfl H3.out.own HR3.out (fun x cs h => h) (fun _ h => h.elim) (fun _ _ => trivial) H3.out.bel H3.out.fs.base_le (by omega) ?_; intro v4 w4 ho4 hb4 hg4 hv4; have tok : True := trivial)
          have H4 := Aside0.mk (faults_more H3.out HKM.out (by rw [← HFX.out]; exact ho4) hg4 hv4)
          clear ho4 hb4 hg4 hv4
          go_roundg d
          case measure => omega
          case rel => exact ⟨k + 1, by have := HK.out; omega, by go_num, _, _, H4⟩
      · have hmod : ((k : Int) % 2 == 1) = false := by first | (rw [beq_iff_eq]; omega) | (rw [beq_eq_false_iff_ne]; omega)
        have XW := Aside0.mk (faults_write H.out (by omega) hl0 hl1 (show b = fx b c k from by unfold fx; simp [hpar]) H.out.b0)
        have HFX : Aside0 (b = fx b c k) := ⟨by unfold fx; simp [hpar]⟩
        clear hpar
        by_cases hkm : k = m
        · have hk1 : ((k : Int) == n) = true := by have := HM.out; rw [beq_iff_eq]; omega
          have hk2 : ((k : Int) != n) = false := by simp only [bne, hk1, Bool.not_true]
          rw [if_pos hkm] at XW
          have HKM := Aside0.mk hkm
          clear hkm
          go_wp2_with fail
          go_at_call 23
          refine (XW.out).mono ?_
          rintro e w3 ⟨rfl, fp3, S3, h3, hr3⟩
          have H3 := Aside0.mk (faults_same h3 HKM.out)
          have HK := Aside0.mk hk
          clear h3 hr3 XW H hk
          go_wp2
          go_roundg d
          case measure => omega
          case rel => exact ⟨k + 1, by have := HK.out; omega, by go_num, _, _, H3⟩
        · have hk1 : ((k : Int) == n) = false := by have := HM.out; rw [beq_eq_false_iff_ne]; omega
          have hk2 : ((k : Int) != n) = true := by simp only [bne, hk1, Bool.not_false]
          rw [if_neg hkm] at XW
          have HKM := Aside0.mk hkm
          clear hkm
          go_wp2_with fail
          go_at_call 23
          refine (XW.out).mono ?_
          rintro e w3 ⟨rfl, fp3, S3, h3, hr3⟩
          have H3 := Aside0.mk h3
          obtain ⟨A9, c9, hv9, _⟩ := own_slice (Kd.own_of_R (enc := Value.int .u8) h3.own)
          have HR3 : Aside0 ((Kd.int .u8).C w3 A0 b.length b) := ⟨by
            obtain ⟨A', c', e, hc, hC, _⟩ := hr3
            injection e with e1 e2 e3
            subst e1
            exact hC⟩
          have HK := Aside0.mk hk
          have hwl := fwant_le (b := b) (c := c) (n := m) hl0 hl1 k
          have hwl2 : (fwant b c m k).length ≤ 11500 := by have : k * 500 ≤ 23 * 500 := Nat.mul_le_mul_right _ (by omega); omega
          clear h3 hr3 XW H hk hwl hv9
          go_wp2_with (at_builtin; refine Kd.R_append_rows (Kd.int .u8) (w0 := W) W.heap.size rfl (.tmp 74) (.tmp 75) 31 5 (.int .u8 0) 1 rfl Try.underlying31 info5 rfl (by decide) (by decide) u8 (fwant b c m k) b A0 b.length c0 (fun _ => True) (fun _ => False) rfl rfl H3.out.own HR3.out (fun x cs h => h) (fun _ h => h.elim) (fun _ _ => trivial) H3.out.bel H3.out.fs.base_le (by omega) ?_; intro v4 w4 ho4 hb4 hg4 hv4; have tok : True := trivial)
          have H4 := Aside0.mk (faults_more H3.out HKM.out (by rw [← HFX.out]; exact ho4) hg4 hv4)
          clear ho4 hb4 hg4 hv4
          go_roundg d
          case measure => omega
          case rel => exact ⟨k + 1, by have := HK.out; omega, by go_num, _, _, H4⟩

end Go.Proofs.Ytcpkoajnepijkaa
