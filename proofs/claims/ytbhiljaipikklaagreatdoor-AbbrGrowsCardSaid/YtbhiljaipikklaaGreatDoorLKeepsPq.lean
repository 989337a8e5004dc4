/- Parts of the proof of the law that the last file states; declarations that nothing mentions are left out by a program. No conditions. -/
import Derived.Test.YtbhiljaipikklaaGreatDoorLBoundsq
import Derived.Test.YtbhiljaipikklaaGreatDoorLDropsPq
set_option linter.unusedVariables false
set_option linter.unusedSimpArgs false
namespace Go.Proofs.YtbhiljaipikklaaGreatDoorL
open Go Go.Lib Go.RowKit
theorem plainS_enc (s : ByteArray) : ∃ rs, (∀ r ∈ rs, goodR r) ∧ plainS s = encS rs := by
  obtain ⟨rs, h, e⟩ := plainL_enc s.data.toList
  exact ⟨rs, h, by unfold plainS encS; rw [e]⟩
theorem plainS_good {rs : List Nat} (h : ∀ r ∈ rs, goodR r) : plainS (encS rs) = encS rs := by
  unfold plainS
  rw [encS_data, plainL_self h]
  rfl
theorem good_valid {rs : List Nat} (h : ∀ r ∈ rs, goodR r) : ∀ r ∈ rs, validR r := fun r hr => (h r hr).1
theorem encS_head (p q : List Nat) : (encS (p ++ q)).extract 0 (enc p).length = encS p := by
  have e : (encS p).size = (enc p).length := encS_size p
  rw [encS_append, ← e]
  ext1
  simp
theorem arr_tail (X Y : Array UInt8) (k : Nat) : X.extract X.size (X.size + k) ++ Y.extract 0 Y.size = Y := by simp
theorem encS_tail (p q : List Nat) : (encS (p ++ q)).extract (enc p).length (encS (p ++ q)).size = encS q := by
  have e : (encS p).size = (enc p).length := encS_size p
  rw [encS_append, ← e]
  ext1
  simp
  exact arr_tail (encS p).data (encS q).data (encS q).size
theorem makeS_enc (s : ByteArray) : ∃ rs, (∀ r ∈ rs, goodR r) ∧ makeS s = encS rs := by
  obtain ⟨rs, h, e⟩ := plainS_enc s
  unfold makeS
  rw [e]
  split
  · obtain ⟨p, q, e1, e2⟩ := bound_pieces (good_valid h) (backL_mem (encS rs) 600)
    refine ⟨p, fun r hr => h r (by rw [e1]; exact List.mem_append_left _ hr), ?_⟩
    unfold cutS
    rw [e2]
    subst e1
    exact encS_head p q
  · exact ⟨rs, h, rfl⟩
theorem makeS_good {rs : List Nat} (h : ∀ r ∈ rs, goodR r) (hs : (encS rs).size ≤ 600) : makeS (encS rs) = encS rs := makeS_self (plainS_good h) hs
theorem makeS_twice (s : ByteArray) : makeS (makeS s) = makeS s := by
  obtain ⟨rs, h, e⟩ := makeS_enc s
  have h6 := makeS_six s
  rw [e] at h6 ⊢
  exact makeS_good h h6
theorem head_blank {r : Nat} {b : List Nat} (hv : validR r) (h : hasPrefix (enc (r :: b)) [32] = true) : r = 32 := by
  have h1 := (enc_decode r b hv).1
  cases hl : enc (r :: b) with
  | nil => exact absurd hl (enc_cons_ne r b)
  | cons y t =>
    rw [hl] at h h1
    have e : y = 32 := by
      unfold hasPrefix at h
      have h2 : (32 : UInt8) = y := by simpa using h
      exact h2.symm
    subst e
    rw [decodeL_ascii 32 t (by decide)] at h1
    exact ((Prod.mk.inj h1).1).symm
theorem of_blank : ofR (32 : Nat) ≠ 0 := by decide +kernel
theorem named_in {l : List (ByteArray × ByteArray)} (hl : WellT l) {s : ByteArray} (h : (getP s l).2 = true) : namedS s = true := by
  unfold getP at h
  cases hf : fnd s l with
  | none => rw [hf] at h; cases h
  | some t =>
    obtain ⟨p, hp, rfl, _⟩ := fnd_mem hf
    exact (hl.1 p hp).1
theorem grow_yes {rs : List Nat} (hg : ∀ r ∈ rs, goodR r) (h6 : (encS rs).size ≤ 600) {a : Nat} (ha : a ∈ boundsL (encS rs)) {l : List (ByteArray × ByteArray)} (hl : WellT l) :
    ((growP (encS rs) a l).2 = false ∧ (growP (encS rs) a l).1 = (encS rs, a)) ∨
    ∃ (p0 q0 p1 q1 : List Nat) (t : ByteArray), rs = p0 ++ q0 ∧ rs = p1 ++ q1 ∧ a = (enc p1).length ∧ (enc p0).length < a ∧ (getP (nameOf (encS rs) a) l) = (t, true) ∧ stuck (encS rs) a = false ∧ (enc p0).length = backL (encS rs) ((a : Int) - ((nameOf (encS rs) a).size : Int)) ∧
      (growP (encS rs) a l).1 = (encS p0 ++ plainS t ++ encS q1, onL (encS p0 ++ plainS t ++ encS q1) (((encS p0).size + (plainS t).size : Nat) : Int)) ∧ (growP (encS rs) a l).2 = neB (growP (encS rs) a l).1 (encS rs, a) := by
  by_cases hno : (getP (nameOf (encS rs) a) l).2 = false ∨ stuck (encS rs) a = true
  · left
    rw [growP_no hno]
    exact ⟨rfl, rfl⟩
  have hv := good_valid hg
  have hs : stuck (encS rs) a = false := by
    cases h : stuck (encS rs) a
    · rfl
    · exact absurd (.inr h) hno
  have hn : (getP (nameOf (encS rs) a) l).2 = true := by
    cases h : (getP (nameOf (encS rs) a) l).2
    · exact absurd (.inl h) hno
    · rfl
  have has : a ≤ (encS rs).size := boundsL_le _ _ ha
  have hnm := (named_size (named_in hl hn)).1
  have hnm2 := nameOf_size (encS rs) a has
  have hm := makeS_good hg h6
  have ea := backL_at ha
  obtain ⟨p0, q0, e0, f0⟩ := bound_pieces hv (backL_mem (encS rs) ((a : Int) - ((nameOf (encS rs) a).size : Int)))
  obtain ⟨p1, q1, e1, f1⟩ := bound_pieces hv ha
  have hlt : (enc p0).length < a := by
    have := backL_bd (encS rs) ((a : Int) - ((nameOf (encS rs) a).size : Int)) (by omega)
    omega
  have hW : withoutS (encS rs) (enc p0).length a = encS (p0 ++ q1) := by
    unfold withoutS
    rw [encS_append]
    congr 1
    · rw [e0]; exact encS_head p0 q0
    · rw [f1, e1]; exact encS_tail p1 q1
  have hgW : ∀ r ∈ p0 ++ q1, goodR r := fun r hr => by
    rcases List.mem_append.1 hr with h | h
    · exact hg r (by rw [e0]; exact List.mem_append_left _ h)
    · exact hg r (by rw [e1]; exact List.mem_append_right _ h)
  have hW6 : (encS (p0 ++ q1)).size ≤ 600 := by
    rw [← hW, withoutS_size (encS rs) _ a (by omega) has]
    omega
  have hmW := makeS_good hgW hW6
  have hbW : (enc p0).length ∈ boundsL (encS (p0 ++ q1)) := bound_has (good_valid hgW) (fun r b eq => by
    subst eq
    have h1 : (encS rs).extract a (encS rs).size = encS (r :: b) := by rw [f1, e1]; exact encS_tail p1 (r :: b)
    have h2 : a < (encS rs).size := by
      have : 0 < (encodeRune (r : Int)).length := List.length_pos_iff.2 (enc_ne _)
      rw [f1, encS_size, e1, enc_append, List.length_append, enc_cons, List.length_append]
      omega
    unfold stuck at hs
    rw [h1, encS_data, decide_eq_true h2, Bool.true_and, Bool.not_eq_false'] at hs
    have := head_blank ((hgW r (by simp)).1) hs
    rw [this]
    exact of_blank)
  have hbf := backL_at hbW
  have hc : cutP (encS rs) a (enc p0).length a = (encS (p0 ++ q1), (enc p0).length) := by
    unfold cutP
    have hca : cutAt a (enc p0).length a = ((enc p0).length : Int) := by
      unfold cutAt
      rw [if_pos hlt]
      omega
    rw [if_neg (by omega), hW, hmW, hca, hbf]
  by_cases hi : 600 < (encS (p0 ++ q1)).size + (plainS (getP (nameOf (encS rs) a) l).1).size
  · left
    have e : growP (encS rs) a l = ((encS rs, a), false) := by
      unfold growP
      rw [if_neg hno, hm, ea, f0, hc]
      dsimp only
      rw [hmW, hbf]
      unfold insP
      rw [if_pos hi, if_neg (by show ¬ (30 : Int) = 0; decide)]
    rw [e]
    exact ⟨rfl, rfl⟩
  · right
    have hp : putIn (encS (p0 ++ q1)) (enc p0).length (plainS (getP (nameOf (encS rs) a) l).1) = encS p0 ++ plainS (getP (nameOf (encS rs) a) l).1 ++ encS q1 := by
      unfold putIn
      rw [encS_head, encS_tail]
    have e : growP (encS rs) a l = ((encS p0 ++ plainS (getP (nameOf (encS rs) a) l).1 ++ encS q1, onL (encS p0 ++ plainS (getP (nameOf (encS rs) a) l).1 ++ encS q1) (((encS p0).size + (plainS (getP (nameOf (encS rs) a) l).1).size : Nat) : Int)), neB (encS p0 ++ plainS (getP (nameOf (encS rs) a) l).1 ++ encS q1, onL (encS p0 ++ plainS (getP (nameOf (encS rs) a) l).1 ++ encS q1) (((encS p0).size + (plainS (getP (nameOf (encS rs) a) l).1).size : Nat) : Int)) (encS rs, a)) := by
      unfold growP
      rw [if_neg hno, hm, ea, f0, hc]
      dsimp only
      rw [hmW, hbf]
      unfold insP
      rw [if_neg hi, if_pos rfl, hp, encS_size p0]
      rfl
    refine ⟨p0, q0, p1, q1, (getP (nameOf (encS rs) a) l).1, e0, e1, f1, hlt, by rw [← hn], hs, f0.symm, ?_, ?_⟩
    · rw [e]
    · rw [e]
theorem insP_600 (m : ByteArray) (a : Nat) (p : ByteArray) (ha : a ≤ m.size) (h : m.size ≤ 600) : (insP m a p).1.1.size ≤ 600 := by
  unfold insP
  split
  · exact h
  · show (putIn m a p).size ≤ 600
    rw [putIn_size m a p ha]
    omega
theorem growP_600 (m : ByteArray) (a : Nat) (l : List (ByteArray × ByteArray)) (h : m.size ≤ 600) : (growP m a l).1.1.size ≤ 600 := by
  unfold growP
  split
  · exact h
  · dsimp only
    split
    · exact insP_600 _ _ _ (backL_le _ _) (makeS_six _)
    · exact h
end Go.Proofs.YtbhiljaipikklaaGreatDoorL

