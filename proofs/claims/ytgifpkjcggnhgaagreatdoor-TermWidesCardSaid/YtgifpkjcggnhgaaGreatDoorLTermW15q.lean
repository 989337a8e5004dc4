/- Parts of the proof of the law that the last file states; declarations that nothing mentions are left out by a program. No conditions. -/
import Derived.Test.YtgifpkjcggnhgaaGreatDoorLTermW14q
set_option linter.unusedVariables false
set_option linter.unusedSimpArgs false
namespace Go.Proofs.YtgifpkjcggnhgaaGreatDoorL
open Go Go.RowKit Go.Proofs.YtgifpkjcggnhgaaGreatDoorW.PrintWords
theorem signs_cons (s : Tm) (r : Nat) (l : List Nat) : s.signs (r :: l) = (s.sign (r : Int)).signs l := by unfold Tm.signs; rw [List.foldl_cons]
theorem cell_only {P : Nat → Prop} {w w' : World} {g o : Nat} {v : Value} (h : w.cell? ⟨g, o, none⟩ = some v) (ho : Only P w w') (hg : ¬ P g) : w'.cell? ⟨g, o, none⟩ = some v := cell_move h (ho.block g (Lib.lt_of_cell h) hg)
set_option maxRecDepth 100000 in
set_option maxHeartbeats 4000000 in
theorem signs_calls {P : Nat → Prop} {w : World} {T M : Nat} {s : Tm} (h : TermAt P w T s) (hok : OKT M s) (l : List Nat) (hM : M + 4 * l.length ≤ 900000) (hP : ∀ k, w.heap.size ≤ k → P k)
    {A : Option Addr} {c g o : Nat} (hA : 0 < l.length → A = some ⟨g, o, none⟩ ∧ ¬ P g) (hr : ∀ i (h : i < l.length), w.cell? ⟨g, o + i, none⟩ = some (.int .i32 (l[i] : Int))) :
    Calls Tryz.prog 37 #[.pointer (some ⟨T, 0, none⟩), .slice A l.length c] w fun e w' => e = .returned (.tuple #[]) ∧ TermAt P w' T (s.signs l) ∧ Only P w w' := by
  obtain ⟨R, hR⟩ : ∃ R, s.signs l = R := ⟨_, rfl⟩
  rw [hR]
  have HR := Hd.mk hR
  have H0 := Hd.mk h
  have HK0 := Hd.mk hok
  have HP := Hd.mk hP
  have HM := Hd.mk hM
  have HA := Hd.mk hA
  have HC := Hd.mk hr
  have q1 : l.length ≤ 900000 := by omega
  clear hR h hok hP hA hM hr
  obtain ⟨n, hn⟩ : ∃ n, l.length = n := ⟨_, rfl⟩
  have HN := Hd.mk hn
  rw [hn] at q1 ⊢
  clear hn
  have q2 : (n : Int) ≤ 900000 := by omega
  go_enter Tryz.func37, Tryz.ntmps37
  go_wp2
  go_loopg [8] n (fun gk v8 wx => ∃ (j : Nat) (t : Tm), v8 = .int .i64 (j : Int) ∧ Hd (j + gk = n) ∧ Hd (t.signs (l.drop j) = R) ∧ Hd (OKT (M + 4 * j) t) ∧ Hd (TermAt P wx T t) ∧ Hd (Only P w wx))
  case atStart => exact ⟨0, s, rfl, ⟨by omega⟩, ⟨by simpa using HR.out⟩, HK0, H0, ⟨Only.refl _ _⟩⟩
  case round =>
    clear HR H0 HK0
    obtain ⟨j, t, rfl, HJ, HR, HK0, H0, HO⟩ := hrel
    have h1 := HJ.out
    by_cases hlt : j < n
    · obtain ⟨d, rfl⟩ : ∃ d, gk = d + 1 := ⟨gk - 1, by omega⟩
      have hjl : j < l.length := by rw [HN.out]; exact hlt
      obtain ⟨rfl, hg⟩ := HA.out (by omega)
      have hcell : wr.cell? ⟨g, o + j, none⟩ = some (.int .i32 (l[j] : Int)) := cell_only (HC.out j hjl) HO.out hg
      have XP := Hd.mk (sign_calls H0.out HK0.out (by have := HM.out; omega) (fun k hk => HP.out k (Nat.le_trans HO.out.size hk)) (l[j] : Int))
      have HR2 : Hd ((t.sign (l[j] : Int)).signs (l.drop (j + 1)) = R) := ⟨by rw [← signs_cons, ← List.drop_eq_getElem_cons hjl]; exact HR.out⟩
      have HK2 : Hd (OKT (M + 4 * (j + 1)) (t.sign (l[j] : Int))) := ⟨(HK0.out.sign _).mono (by omega)⟩
      generalize l[j] = r at *
      have l1 : decide ((j : Int) < (n : Int)) = true := decide_eq_true (by omega)
      have l2 : decide (j < n) = true := decide_eq_true hlt
      have l3 : (j : Int) < (n : Int) := by omega
      have l4 : (0 : Int) ≤ (j : Int) := by omega
      clear HJ HR HK0 H0 HA HC hg hjl
      go_wp2_with fail
      go_at_call 36
      with_reducible refine XP.out.mono ?_
      rintro _ w2 ⟨rfl, ht, ho⟩
      have HT2 := Hd.mk ht
      have HO2 := Hd.mk (HO.out.trans ho (fun _ _ h => h))
      clear ht ho XP HO hcell
      go_wp2
      go_roundg d
      case measure => omega
      case rel => exact ⟨j + 1, _, by simp, ⟨by omega⟩, HR2, HK2, HT2, HO2⟩
    · have l1 : decide ((j : Int) < (n : Int)) = false := decide_eq_false (by omega)
      have l2 : decide (j < n) = false := decide_eq_false hlt
      have HE : Hd (t = R) := ⟨by rw [← HR.out, List.drop_eq_nil_of_le (by rw [HN.out]; omega)]; rfl⟩
      clear HR HA HC
      go_wp2
      go_end0
      exact ⟨rfl, by rw [← HE.out]; exact H0.out, HO.out⟩
end Go.Proofs.YtgifpkjcggnhgaaGreatDoorL

