/- Parts of the proof of the law that the last file states; declarations that nothing mentions are left out by a program. No conditions. -/
import Derived.Test.YtgifpkjcggnhgaaGreatDoorLHeldq
set_option linter.unusedVariables false
set_option linter.unusedSimpArgs false
namespace Go.Proofs.YtgifpkjcggnhgaaGreatDoorL
open Go Go.RowKit
section
variable {P : Program} {ops : Array Oper} {Q : Exit → Act → World → Prop} {md : Region.Mode} {S : World → Prop} {k : Nat}
def chained (md : Region.Mode) (ops : Array Oper) (i : Nat) : Nat → List Nat → Bool
  | k, [] => waits md ops k i
  | k, e :: c => waits md ops k e && chained md ops i e c
theorem chained_spec {i : Nat} : ∀ {k : Nat} {c : List Nat}, chained md ops i k c = true → ∀ m ∈ k :: c, ∃ x ∈ i :: c, waits md ops m x = true
  | k, [], h, m, hm => by
    rw [List.mem_singleton] at hm
    subst hm
    exact ⟨i, List.mem_cons_self, h⟩
  | k, e :: c, h, m, hm => by
    unfold chained at h
    rw [Bool.and_eq_true] at h
    rcases List.mem_cons.1 hm with rfl | hm
    · exact ⟨e, by simp, h.1⟩
    · obtain ⟨x, hx, hw⟩ := chained_spec h.2 m hm
      refine ⟨x, ?_, hw⟩
      rcases List.mem_cons.1 hx with rfl | hx
      · exact List.mem_cons_self
      · exact List.mem_cons_of_mem _ (List.mem_cons_of_mem _ hx)
theorem wpAnyK_first2 {i : Nat} {oi : Oper} {v : Value} {c : List Nat} (hi : ops[i]? = some oi) (hsel : ∀ (j : Nat) (o : Oper) cs b, ops[j]? = some o → o.op ≠ .select cs b)
    (hQ : ∀ c a w, Q (.panic c) (a.put oi.dst v) w → Q (.panic c) a w) (hw : chained md ops i k c = true) (hki : k ≠ i) :
    ∀ (fuel : Nat) (listed : Array Bool) (a : Act) (w : World),
      (∀ j oj, ops[j]? = some oj → j ≠ i → listed.getD j true = false → (∀ e ∈ oj.after, Region.binds md e = true → e.on ≠ i) → oi.apart ops oj = true) →
      i ∈ Region.ready md ops listed → YieldsIf P ops S oi v a → S w → (∀ m ∈ k :: c, listed.getD m true = false) →
      wpAnyK P md ops Q S k fuel (listed.setIfInBounds i true) (a.put oi.dst v) w → wpAnyK P md ops Q S k (fuel + 1) listed a w := by
  intro fuel
  induction fuel with
  | zero =>
    intro listed a w _ hr hy hS hk H
    refine ⟨fun h => (by rw [h] at hr; cases hr), fun j hj => ?_⟩
    by_cases hji : j = i
    · subst hji; exact hy.wpOp hi hS ⟨.inr hS, H⟩
    · have := ready_mono hj hji
      rw [H.1] at this
      cases this
  | succ fuel ih =>
    intro listed a w hfree hr hy hS hk H
    refine ⟨fun h => (by rw [h] at hr; cases hr), fun j hj => ?_⟩
    by_cases hji : j = i
    · subst hji; exact hy.wpOp hi hS ⟨.inr hS, H⟩
    · have h1 := H.2 j (ready_mono hj hji)
      obtain ⟨hjun, oj, hoj, hall⟩ := mem_ready.1 hj
      have iun := (mem_ready.1 hr).1
      have hnot : ∀ x, listed.getD x true = false → ∀ e ∈ oj.after, Region.binds md e = true → e.on ≠ x := fun x hx e he hb heq => by
        have h1 := hall e he hb
        rw [heq] at h1
        rcases Nat.lt_or_ge x listed.size with h' | h'
        · simp [h'] at hx h1; rw [hx] at h1; cases h1
        · simp [Array.getElem?_eq_none h'] at hx
      have hnoti := hnot i iun
      have hjk : ∀ m ∈ k :: c, j ≠ m := fun m hm e => by
        subst e
        obtain ⟨x, hx, hwx⟩ := chained_spec hw j hm
        obtain ⟨o, ho, e, he, hb, heq⟩ := waits_spec hwx
        rw [hoj] at ho
        cases ho
        have hxun : listed.getD x true = false := by
          rcases List.mem_cons.1 hx with rfl | hx
          · exact iun
          · exact hk x (List.mem_cons_of_mem _ hx)
        exact hnot x hxun e he hb heq
      have h2 := wpOp_putIf hoj (hfree j oj hoj hji hjun hnoti) (fun cs b => hsel i oi cs b hi) (fun cs b => hsel j oj cs b hoj) hQ hy h1
      have hfree' : ∀ k ok, ops[k]? = some ok → k ≠ i → (listed.setIfInBounds j true).getD k true = false →
          (∀ e ∈ ok.after, Region.binds md e = true → e.on ≠ i) → oi.apart ops ok = true := fun k ok hk hki un hno => by
        refine hfree k ok hk hki ?_ hno
        by_cases hjk : j = k
        · subst hjk; exact hjun
        · rw [getD_set_ne true hjk] at un; exact un
      have hk' : ∀ m ∈ k :: c, (listed.setIfInBounds j true).getD m true = false := fun m hm => by rw [getD_set_ne true (hjk m hm)]; exact hk m hm
      have hkk := hk k List.mem_cons_self
      have hk2 : ((listed.setIfInBounds i true).setIfInBounds j true).getD k true = false := by rw [getD_set_ne true (hjk k List.mem_cons_self), getD_set_ne true (Ne.symm hki)]; exact hkk
      refine wpOp_mono (fun a' w' h3 => ?_) h2
      have hS' : S w' := by
        rcases h3.2.1 with h | h
        · rw [hk2] at h; cases h
        · exact h
      refine ⟨.inr hS', ih (listed.setIfInBounds j true) a' w' hfree' (ready_mono hr (Ne.symm hji)) h3.1 hS' hk' ?_⟩
      rw [Array.setIfInBounds_comm _ _ hji]
      exact h3.2.2
theorem wpAnyK_take2 {i : Nat} {oi : Oper} {v : Value} {fuel : Nat} {listed : Array Bool} {a : Act} {w : World} (c : List Nat) (hi' : ops.toList[i]? = some oi)
    (hs : Region.noSelect ops = true) (hf : Region.free md ops listed i = true) (hr : (Region.ready md ops listed).contains i = true) (hw : (chained md ops i k c && k != i && (k :: c).all (fun m => !listed.getD m true)) = true)
    (hQ : ∀ c a w, Q (.panic c) (a.put oi.dst v) w → Q (.panic c) a w) (hy : YieldsIf P ops S oi v a) (hS : S w)
    (h : wpAnyK P md ops Q S k fuel (listed.setIfInBounds i true) (a.put oi.dst v) w) : wpAnyK P md ops Q S k (fuel + 1) listed a w := by
  have hi : ops[i]? = some oi := by rw [← Array.getElem?_toList]; exact hi'
  rw [Bool.and_eq_true, Bool.and_eq_true] at hw
  obtain ⟨⟨h1, h2⟩, h3⟩ := hw
  rw [List.all_eq_true] at h3
  exact wpAnyK_first2 hi (Region.noSelect_spec hs) hQ h1 (by simpa using h2) fuel listed a w (Region.free_spec hi hf) (by simpa using hr) hy hS (fun m hm => by simpa using h3 m hm) h
end
end Go.Proofs.YtgifpkjcggnhgaaGreatDoorL

