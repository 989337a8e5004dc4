/- Parts of the proof of the law that the last file states; declarations that nothing mentions are left out by a program. No conditions. -/
import Derived.Lib.ConvBytes
import Derived.Lib.SlBytesRow
import Derived.Test.YtledplnlcjfafaaDoorLSignq
import Derived.Test.YtledplnlcjfafaaDoorLWidthq
import Derived.Test.YtledplnlcjfafaaDoorShelfq
set_option linter.unusedVariables false
set_option linter.unusedSimpArgs false
namespace Go.Proofs.YtledplnlcjfafaaDoorL
open Go Go.RowKit Go.Proofs.YtledplnlcjfafaaDoorW.PrintWords
def plainF (r : Int) : Int := if r = 9 ∨ r = 10 ∨ r = 13 then 32 else if ctlB r = true then -1 else r
def plainL (l : List UInt8) : List UInt8 := Lib.mapD plainF (cleanL l)
theorem plain1_calls (r : Int) (w : World) : Calls Tryd.prog 59 #[.int .i32 r] w fun e w' => e = .returned (.int .i32 (plainF r)) ∧ w = w' := by
  by_cases h0 : r = 9 ∨ r = 10 ∨ r = 13
  · have e : plainF r = 32 := by unfold plainF; rw [if_pos h0]
    rw [e]
    rcases h0 with rfl | rfl | rfl
    all_goals
      go_enter Tryd.func59, Tryd.ntmps59
      go_wp2
      go_ret
      exact ⟨rfl, rfl⟩
  · have e : plainF r = if ctlB r = true then -1 else r := by unfold plainF; rw [if_neg h0]
    rw [e]
    have n1 : (r == 9) = false := by simp; omega
    have n2 : (r == 10) = false := by simp; omega
    have n3 : (r == 13) = false := by simp; omega
    have X := Hd.mk (control_calls r w)
    cases hc : ctlB r
    all_goals
      rw [hc] at X
      clear h0 e hc
      go_enter Tryd.func59, Tryd.ntmps59
      go_wp2_with fail
      go_at_call 60
      with_reducible refine (X.out).mono ?_
      rintro _ w2 ⟨rfl, rfl⟩
      go_wp2
      go_ret
      exact ⟨rfl, rfl⟩
theorem plainF_bd (x : Nat) (h : x ≤ 1114111) : -2147483648 ≤ plainF x ∧ plainF x ≤ 2147483647 := by
  unfold plainF
  split
  · omega
  · split <;> omega
theorem plain1_map (w : World) : MapGrows Tryd.prog 59 #[] plainF w := fun W x hx hb => (plain1_calls (x : Int) W).mono fun e w' h => ⟨h.1, h.2 ▸ Below.refl _ _⟩
theorem bytesW_below (w : World) (e : TypeId) (s : ByteArray) : Below w.heap.size w (Lib.bytesWorld w e s) :=
  ⟨rfl, rfl, rfl, by rw [Lib.bytesWorld_size]; omega, fun j hj => Lib.bytesWorld_at_old w e s j hj⟩
theorem bytes_back (w : World) (s : ByteArray) (c : Nat) : (convert 43 9 (.slice (some ⟨w.heap.size, 0, none⟩) s.size c)).run Tryd.prog (Lib.bytesWorld w 5 s) = .ok (.string s) (Lib.bytesWorld w 5 s) := by
  refine Lib.run_convert_whole _ _ _ _ Tryd.underlying43 Tryd.underlying5 Tryd.underlying9 w.heap.size 0 s (fun i hi => ?_) c
  have h := Lib.bytesWorld_cell w 5 s i hi
  rw [Nat.zero_add, h]
  have hl : i < s.data.toList.length := by rw [← Lib.size_eq]; exact hi
  rw [List.getD_eq_getElem?_getD, List.getElem?_eq_getElem hl]
  rfl
theorem mapD_len (f : Int → Int) : ∀ (n : Nat) (l : List UInt8), l.length ≤ n → (Lib.mapD f l).length ≤ 4 * l.length := by
  intro n
  induction n with
  | zero =>
    intro l h
    have : l = [] := List.eq_nil_of_length_eq_zero (by omega)
    subst this
    simp [Lib.mapD_nil]
  | succ n ih =>
    intro l h
    by_cases hne : l = []
    · subst hne; simp [Lib.mapD_nil]
    · have hw := Lib.decodeL_width l
      have hl : 0 < l.length := List.length_pos_iff.2 hne
      rw [Lib.mapD_step _ _ hne, List.length_append]
      have h1 := ih (l.drop (Lib.decodeL l).2) (by rw [List.length_drop]; omega)
      rw [List.length_drop] at h1
      have h4 : (if 0 ≤ f (Lib.decodeL l).1 then Lib.encodeRune (f (Lib.decodeL l).1) else []).length ≤ 4 := by
        split
        · unfold Lib.encodeRune Lib.encodeRuneZ
          rw [List.length_map]
          repeat' split
          all_goals simp
        · simp
      omega
set_option maxRecDepth 100000 in
theorem plain_calls (s : ByteArray) (hs : s.size ≤ 1099511627776) (w : World) (hT : Lib.Utf8Tabs 0 1 w) :
    Calls Tryd.prog 42 #[.string s] w fun e w' => e = .returned (.string ⟨(plainL s.data.toList).toArray⟩) ∧ Below w.heap.size w w' := by
  have X1 := Hd.mk (clean_calls s hs (Lib.bytesWorld w 5 s) (bytes_back w s (grownCap w s.size 0 5)))
  have HB := Hd.mk (bytesW_below w 5 s)
  have hz : (⟨(cleanL s.data.toList).toArray⟩ : ByteArray).size ≤ 4398046511104 := by
    show (cleanL s.data.toList).toArray.size ≤ _
    rw [List.size_toArray]
    have := mapD_len (fun r => r) _ s.data.toList (Nat.le_refl _)
    rw [← Lib.size_eq] at this
    unfold cleanL
    omega
  go_enter Tryd.func42, Tryd.ntmps42
  have hcv := fun W => Lib.run_convert_string_bytes (P := Tryd.prog) W 9 43 5 s Tryd.underlying9 Tryd.underlying43 Tryd.underlying5
  go_wp2_with fail
  go_at_call 61
  with_reducible refine (X1.out).mono ?_
  rintro _ w2 ⟨rfl, hb⟩
  have HB2 := Hd.mk (HB.out.trans (hb.mono HB.out.size))
  clear hb X1 HB hcv
  have X2 := Hd.mk (Tryd.strings_Map_grows 59 #[] (enters_of Tryd.func59 (by kernel_rfl) rfl) plainF ⟨(cleanL s.data.toList).toArray⟩ w2 (by omega) (plain1_map w2) plainF_bd (Utf8Tabs_below hT HB2.out))
  clear hz hT
  go_wp2_with fail
  go_at_call 58
  with_reducible refine (X2.out).mono ?_
  rintro _ w3 ⟨rfl, hb⟩
  have HB3 := Hd.mk (HB2.out.trans (hb.mono HB2.out.size))
  clear hb X2 HB2
  go_wp2
  go_ret
  exact ⟨rfl, HB3.out⟩
end Go.Proofs.YtledplnlcjfafaaDoorL

