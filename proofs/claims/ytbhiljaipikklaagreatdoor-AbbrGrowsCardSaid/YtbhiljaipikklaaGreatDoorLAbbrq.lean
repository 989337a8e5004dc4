/- Parts of the proof of the law that the last file states; declarations that nothing mentions are left out by a program. No conditions. -/
import Derived.Lib.SlicesS
import Derived.Test.YtbhiljaipikklaaGreatDoorLText3q
set_option linter.unusedVariables false
set_option linter.unusedSimpArgs false
namespace Go.Proofs.YtbhiljaipikklaaGreatDoorL
open Go Go.RowKit Go.Proofs.YtbhiljaipikklaaGreatDoorW.PrintWords
def namedS (s : ByteArray) : Bool := decide (0 < s.size) && (decide (s.size ≤ 20) && (decide (plainS s = s) && !decide (0 ≤ Lib.indexByte s.data.toList 32)))
theorem bytes_empty {s : ByteArray} (h : s.size = 0) : s = ⟨#[]⟩ := by
  cases s with
  | mk a => congr; exact Array.eq_empty_of_size_eq_zero h
theorem toList_nil : (⟨#[]⟩ : ByteArray).toList = [] := by
  unfold ByteArray.toList
  unfold ByteArray.toList.loop
  simp [ByteArray.size]
theorem bytes_ne {s : ByteArray} (h : s.size ≠ 0) : s.toList ≠ [] := by
  intro e
  have h1 : (s.toList == (⟨#[]⟩ : ByteArray).toList) = true := by
    rw [e, toList_nil]
    rfl
  have := (Lib.bytes_beq_iff _ _).1 h1
  subst this
  exact h rfl
theorem bytes_ne' {s : ByteArray} (h : s.size ≠ 0) : s.toList.isEmpty = false := by
  have := bytes_ne h
  cases hl : s.toList with
  | nil => exact absurd hl this
  | cons _ _ => rfl
set_option maxRecDepth 100000 in
set_option maxHeartbeats 1000000 in
theorem named_calls (s : ByteArray) (hs : s.size ≤ 4294967296) (w : World) (hT : Lib.Utf8Tabs 0 1 w) :
    Calls Tryz.prog 36 #[.string s] w fun e w' => e = .returned (.bool (namedS s)) ∧ Below w.heap.size w w' := by
  by_cases h0 : s.size = 0
  · have e : namedS s = false := by unfold namedS; simp [h0]
    rw [e]
    obtain rfl := bytes_empty h0
    clear e h0 hs hT
    go_enter Tryz.func36, Tryz.ntmps36
    go_wp2
    go_ret
    exact ⟨rfl, Below.refl _ _⟩
  · have hn := bytes_ne' h0
    by_cases h1 : s.size ≤ 20
    · have X := Hd.mk (plain_calls s (by omega) w hT)
      have hb1 : decide ((s.size : Int) ≤ 20) = true := decide_eq_true (by omega)
      have hb2 : decide (s.size ≤ 20) = true := decide_eq_true h1
      have HE : Hd (namedS s = (decide (plainS s = s) && !decide (0 ≤ Lib.indexByte s.data.toList 32))) := ⟨by unfold namedS; simp [h1, Nat.pos_of_ne_zero h0]⟩
      have HPS : Hd ((⟨(plainL s.data.toList).toArray⟩ : ByteArray) = plainS s) := ⟨rfl⟩
      rw [HPS.out] at X
      clear h0 h1 hs hT HPS
      by_cases hp : plainS s = s
      · have hp1 : (s.toList == s.toList) = true := by simp
        have HE2 : Hd (namedS s = !decide (0 ≤ Lib.indexByte s.data.toList 32)) := ⟨by rw [HE.out]; simp [hp]⟩
        have XC := Hd.mk (fun w' => Tryz.strings_Contains_one s 32 w')
        rw [hp] at X
        clear hp HE
        generalize Lib.indexByte s.data.toList 32 = ix at XC HE2
        go_enter Tryz.func36, Tryz.ntmps36
        go_wp2_with (first
          | (go_at_call 33; (with_reducible refine (X.out).mono ?_); rintro _ w1 ⟨rfl, hb⟩; have HB1 := Hd.mk hb; clear hb)
          | (go_at_call 56; (with_reducible refine (XC.out _).mono ?_); rintro _ w2 ⟨rfl, rfl⟩))
        go_ret
        exact ⟨by rw [HE2.out]; rfl, HB1.out⟩
      · have hp1 := (Lib.bytes_beq_false_iff _ _).2 hp
        have HE2 : Hd (namedS s = false) := ⟨by rw [HE.out]; simp [hp]⟩
        clear hp HE
        go_enter Tryz.func36, Tryz.ntmps36
        go_wp2_with (first
          | (go_at_call 33; (with_reducible refine (X.out).mono ?_); rintro _ w1 ⟨rfl, hb⟩; have HB1 := Hd.mk hb; clear hb))
        go_ret
        exact ⟨by rw [HE2.out]; rfl, HB1.out⟩
    · have hb1 : decide ((s.size : Int) ≤ 20) = false := decide_eq_false (by omega)
      have hb2 : decide (s.size ≤ 20) = false := decide_eq_false h1
      have HE2 : Hd (namedS s = false) := ⟨by unfold namedS; simp [h1]⟩
      clear h0 h1 hs hT
      go_enter Tryz.func36, Tryz.ntmps36
      go_wp2
      go_ret
      exact ⟨by rw [HE2.out]; rfl, Below.refl _ _⟩
end Go.Proofs.YtbhiljaipikklaaGreatDoorL

