/- Parts of the proof of the law that the last file states; declarations that nothing mentions are left out by a program. No conditions. -/
import Derived.Deep.RegionHeld3
import Derived.Below
import Derived.Test.YtbhiljaipikklaaGreatDoorLBoundsq
import Derived.Test.YtbhiljaipikklaaGreatDoorRx3q
import Derived.Test.YtbhiljaipikklaaGreatDoorLWidthq
set_option linter.unusedVariables false
set_option linter.unusedSimpArgs false
section
namespace Go.Proofs.YtbhiljaipikklaaGreatDoorL
open Go Go.Lib
def addC (z : Int) (out : List ByteArray) (p : ByteArray) : List ByteArray := if z = 0 ∧ out ≠ [] then out.dropLast ++ [(out.getLast?.getD ⟨#[]⟩) ++ p] else out ++ [p]
def cutR : Nat → List ByteArray → ByteArray → List ByteArray
  | 0, out, _ => out
  | n + 1, out, s => if s.size = 0 then out else cutR n (addC (ofR ((decodeL s.data.toList).1 : Int)) out (s.extract 0 (decodeL s.data.toList).2)) (s.extract (decodeL s.data.toList).2 s.size)
def startsG : Nat → List ByteArray → List Nat
  | a, [] => [a]
  | a, c :: l => a :: startsG (a + c.size) l
def sumL (l : List ByteArray) : Nat := (l.map (·.size)).sum
theorem startsG_snoc : ∀ (l : List ByteArray) (a : Nat) (p : ByteArray), startsG a (l ++ [p]) = startsG a l ++ [a + sumL l + p.size]
  | [], a, p => by simp [startsG, sumL]
  | c :: l, a, p => by
    rw [List.cons_append]
    unfold startsG
    rw [startsG_snoc l (a + c.size) p, List.cons_append]
    unfold sumL
    simp only [List.map_cons, List.sum_cons]
    congr 3
    omega
theorem sumL_snoc (l : List ByteArray) (p : ByteArray) : sumL (l ++ [p]) = sumL l + p.size := by
  unfold sumL
  simp
theorem ext_data (s : ByteArray) (p : Nat) : (s.extract p s.size).data.toList = s.data.toList.drop p := by
  rw [ByteArray.data_extract, Array.toList_extract]
  have e : s.size = s.data.toList.length := by rw [← Lib.size_eq]
  rw [List.extract_eq_take_drop, e]
  exact List.take_of_length_le (by rw [List.length_drop]; omega)
theorem ext_size (s : ByteArray) (p : Nat) : (s.extract p s.size).size = s.size - p := by rw [ByteArray.size_extract]; omega
theorem ext_ext (s : ByteArray) (p m : Nat) : (s.extract p s.size).extract m (s.extract p s.size).size = s.extract (p + m) s.size := by
  rw [ext_size, ByteArray.extract_extract]
  congr 1
  omega
theorem cut_starts (s : ByteArray) : ∀ (n : Nat) (out : List ByteArray) (pre : List Nat) (f pos : Nat), startsG 0 out = pre ++ [f, pos] → out ≠ [] → f < pos → pos ≤ s.size → s.size < pos + n →
    startsG 0 (cutR n out (s.extract pos s.size)) = pre ++ atsL (eachF s f pos) ++ [s.size]
  | 0, _, _, _, _, _, _, _, h, h2 => by omega
  | n + 1, out, pre, f, pos, hs, hne, hf, hp, hn => by
    unfold cutR
    rw [ext_size]
    by_cases hlt : pos < s.size
    · have hw := Lib.width_pos s pos
      have hle : pos + (Utf8.decode s pos).2 ≤ s.size := by
        have h1 := decodeL_le (s.data.toList.drop pos) (by
          intro e
          have := congrArg List.length e
          rw [List.length_drop, ← Lib.size_eq] at this
          simp at this
          omega)
        rw [decodeL_drop, List.length_drop, ← Lib.size_eq] at h1
        omega
      rw [if_neg (by omega), ext_data, decodeL_drop]
      have hx := ext_ext s pos (Utf8.decode s pos).2
      rw [ext_size] at hx
      rw [hx]
      have hps : ((s.extract pos s.size).extract 0 (Utf8.decode s pos).2).size = (Utf8.decode s pos).2 := by
        rw [ByteArray.size_extract, ext_size]
        omega
      generalize (s.extract pos s.size).extract 0 (Utf8.decode s pos).2 = p at hps ⊢
      rw [eachF_step, if_pos hlt]
      obtain ⟨init, c, rfl⟩ : ∃ i c, out = i ++ [c] := ⟨out.dropLast, out.getLast hne, (List.dropLast_concat_getLast hne).symm⟩
      rw [startsG_snoc] at hs
      have hs2 : startsG 0 init = pre ++ [f] ∧ 0 + sumL init + c.size = pos := by
        have : pre ++ [f, pos] = (pre ++ [f]) ++ [pos] := by simp
        rw [this] at hs
        exact ⟨(List.append_inj' hs rfl).1, List.head_eq_of_cons_eq (List.append_inj' hs rfl).2⟩
      by_cases h0 : ofR ((Utf8.decode s pos).1 : Int) = 0
      · rw [if_pos (.inr h0)]
        have e : addC (ofR ((Utf8.decode s pos).1 : Int)) (init ++ [c]) p = init ++ [c ++ p] := by
          unfold addC
          rw [if_pos ⟨h0, hne⟩]
          simp
        rw [e]
        refine cut_starts s n (init ++ [c ++ p]) pre f (pos + (Utf8.decode s pos).2) ?_ (by simp) (by omega) hle (by omega)
        rw [startsG_snoc, hs2.1, ByteArray.size_append, hps, List.append_assoc]
        congr 2
        simp
        omega
      · rw [if_neg (by simp only [not_or]; exact ⟨by omega, h0⟩)]
        have e : addC (ofR ((Utf8.decode s pos).1 : Int)) (init ++ [c]) p = init ++ [c] ++ [p] := by
          unfold addC
          rw [if_neg (fun h => h0 h.1)]
        rw [e, cut_starts s n (init ++ [c] ++ [p]) (pre ++ [f]) pos (pos + (Utf8.decode s pos).2) ?_ (by simp) (by omega) hle (by omega)]
        · simp [atsL]
        · rw [startsG_snoc, startsG_snoc, hs2.1, sumL_snoc, hps]
          simp
          omega
    · rw [if_pos (by omega), hs, eachF_step, if_neg hlt, if_pos (by omega)]
      have : pos = s.size := by omega
      subst this
      simp [atsL]
theorem cut_bounds (s : ByteArray) : startsG 0 (cutR (s.size + 1) [] s) = boundsL s := by
  have hb : boundsL s = atsL (eachF s 0 0) ++ [s.size] := rfl
  rw [hb]
  unfold cutR
  by_cases h : s.size = 0
  · rw [if_pos h, eachF_step, if_neg (by omega), if_neg (by omega), h]
    rfl
  · rw [if_neg h]
    have hd : decodeL s.data.toList = Utf8.decode s 0 := by
      have := decodeL_drop s 0
      rwa [List.drop_zero] at this
    rw [hd]
    have hw := Lib.width_pos s 0
    have hle : (Utf8.decode s 0).2 ≤ s.size := by
      have h1 := decodeL_le s.data.toList (by
        intro e
        have h2 : s.size = 0 := by rw [Lib.size_eq, e]; rfl
        exact h h2)
      rw [hd, ← Lib.size_eq] at h1
      exact h1
    have e : addC (ofR ((Utf8.decode s 0).1 : Int)) [] (s.extract 0 (Utf8.decode s 0).2) = [s.extract 0 (Utf8.decode s 0).2] := by
      unfold addC
      rw [if_neg (fun h => h.2 rfl)]
      rfl
    have hps : (s.extract 0 (Utf8.decode s 0).2).size = (Utf8.decode s 0).2 := by
      rw [ByteArray.size_extract]
      omega
    rw [e, cut_starts s s.size [s.extract 0 (Utf8.decode s 0).2] [] 0 (Utf8.decode s 0).2 (by simp [startsG, hps]) (by simp) (by omega) hle (by omega)]
    rw [eachF_step s 0 0, if_pos (by omega), if_pos (.inl rfl), Nat.zero_add]
    rfl
end Go.Proofs.YtbhiljaipikklaaGreatDoorL
end
section
namespace Go.Proofs.YtbhiljaipikklaaGreatDoorL
open Go Go.RowKit Go.Proofs.YtbhiljaipikklaaGreatDoorW.PrintWords Go.Proofs.YtbhiljaipikklaaGreatDoor.R
theorem between_tells (r a b : Int) : souffleurref02_between.f r a b = some (inR r (a, b)) := by
  unfold souffleurref02_between.f inR
  by_cases h : r ≥ a
  · rw [if_pos h]
    simp [show a ≤ r from h]
  · rw [if_neg h]
    simp [show ¬ a ≤ r from h]
theorem of_tells (r : Int) (k : Nat) (hk : 3 ≤ k) : souffleurref02_Of.f k r = some (ofR r) := by
  obtain ⟨k, rfl⟩ : ∃ i, k = i + 2 := ⟨k - 2, by omega⟩
  have j0t : souffleurref02_Of.j0 (k + 2) r true = some 0 := by unfold souffleurref02_Of.j0; rfl
  have j1t : souffleurref02_Of.j1 (k + 1) r true = some 2 := by unfold souffleurref02_Of.j1; rfl
  have j1f : souffleurref02_Of.j1 (k + 1) r false = some (if (inR r (65072, 65135) || inR r (65281, 65376) || inR r (65504, 65510) || inR r (127744, 129791) || inR r (131072, 262141)) = true then 2 else 1) := by
    unfold souffleurref02_Of.j1
    simp only [between_tells, Option.bind_some, Bool.false_eq_true, if_false]
    cases inR r (65072, 65135) <;> cases inR r (65281, 65376) <;> cases inR r (65504, 65510) <;> cases inR r (127744, 129791) <;> cases inR r (131072, 262141) <;> rfl
  have j0f : souffleurref02_Of.j0 (k + 2) r false = some (if (inR r (4352, 4447) || inR r (11904, 12350) || inR r (12353, 42191) || inR r (44032, 55203) || inR r (63744, 64255)) = true then 2 else if (inR r (65072, 65135) || inR r (65281, 65376) || inR r (65504, 65510) || inR r (127744, 129791) || inR r (131072, 262141)) = true then 2 else 1) := by
    unfold souffleurref02_Of.j0
    simp only [between_tells, Option.bind_some, Bool.false_eq_true, if_false]
    cases inR r (4352, 4447) <;> cases inR r (11904, 12350) <;> cases inR r (12353, 42191) <;> cases inR r (44032, 55203) <;> cases inR r (63744, 64255) <;> simp [j1t, j1f]
  have e : souffleurref02_Of.f (k + 2) r = some (if (inR r (768, 879) || inR r (6832, 6911) || inR r (7616, 7679) || inR r (8203, 8205) || inR r (8400, 8447) || inR r (65024, 65039) || inR r (65056, 65071)) = true then 0 else if (inR r (4352, 4447) || inR r (11904, 12350) || inR r (12353, 42191) || inR r (44032, 55203) || inR r (63744, 64255)) = true then 2 else if (inR r (65072, 65135) || inR r (65281, 65376) || inR r (65504, 65510) || inR r (127744, 129791) || inR r (131072, 262141)) = true then 2 else 1) := by
    unfold souffleurref02_Of.f
    simp only [between_tells, Option.bind_some]
    cases inR r (768, 879) <;> cases inR r (6832, 6911) <;> cases inR r (7616, 7679) <;> cases inR r (8203, 8205) <;> cases inR r (8400, 8447) <;> cases inR r (65024, 65039) <;> cases inR r (65056, 65071) <;> simp [j0t, j0f]
  rw [e]
  unfold ofR
  congr 1
  simp only [noneR, wideR, List.any_cons, List.any_nil, Bool.or_false, Bool.or_assoc]
  generalize inR r (4352, 4447) = b1
  generalize inR r (11904, 12350) = b2
  generalize inR r (12353, 42191) = b3
  generalize inR r (44032, 55203) = b4
  generalize inR r (63744, 64255) = b5
  split
  · rfl
  · cases b1 <;> cases b2 <;> cases b3 <;> cases b4 <;> cases b5 <;> simp
end Go.Proofs.YtbhiljaipikklaaGreatDoorL
end
section
namespace Go.Proofs.YtbhiljaipikklaaGreatDoorL
open Go Go.RowKit
section
variable {P : Program} {ops : Array Oper} {Q : Exit → Act → World → Prop} {md : Region.Mode} {S : World → Prop} {k : Nat}
def wpAnyK (P : Program) (md : Region.Mode) (ops : Array Oper) (Q : Exit → Act → World → Prop) (S : World → Prop) (k : Nat) : Nat → Array Bool → Act → World → Prop
  | 0, listed, a, w => Region.ready md ops listed = [] ∧ Q .normal a w
  | fuel + 1, listed, a, w =>
    (Region.ready md ops listed = [] → Q .normal a w) ∧
    ∀ i ∈ Region.ready md ops listed, wpOp P ops Q i (fun a' w' => ((listed.setIfInBounds i true).getD k true = true ∨ S w') ∧ wpAnyK P md ops Q S k fuel (listed.setIfInBounds i true) a' w') a w
theorem wpAny_of_K : ∀ (fuel : Nat) (listed : Array Bool) (a : Act) (w : World), wpAnyK P md ops Q S k fuel listed a w → wpAny P md ops Q fuel listed a w
  | 0, _, _, _, h => h
  | fuel + 1, _, _, _, h => ⟨h.1, fun i hi => wpOp_mono (fun a' w' h' => wpAny_of_K fuel _ a' w' h'.2) (h.2 i hi)⟩
def waits (md : Region.Mode) (ops : Array Oper) (k i : Nat) : Bool := match ops[k]? with
  | some o => o.after.any fun e => Region.binds md e && e.on == i
  | none => false
theorem waits_spec {i : Nat} (h : waits md ops k i = true) : ∃ o, ops[k]? = some o ∧ ∃ e ∈ o.after, Region.binds md e = true ∧ e.on = i := by
  unfold waits at h
  cases ho : ops[k]? with
  | none => rw [ho] at h; cases h
  | some o =>
    rw [ho] at h
    simp only [Array.any_eq_true, Bool.and_eq_true, beq_iff_eq] at h
    obtain ⟨j, hj, h1, h2⟩ := h
    exact ⟨o, rfl, _, Array.getElem_mem hj, h1, h2⟩
theorem wpAnyK_first {i : Nat} {oi : Oper} {v : Value} (hi : ops[i]? = some oi) (hsel : ∀ (j : Nat) (o : Oper) cs b, ops[j]? = some o → o.op ≠ .select cs b)
    (hQ : ∀ c a w, Q (.panic c) (a.put oi.dst v) w → Q (.panic c) a w) (hw : waits md ops k i = true) (hki : k ≠ i) :
    ∀ (fuel : Nat) (listed : Array Bool) (a : Act) (w : World),
      (∀ j oj, ops[j]? = some oj → j ≠ i → listed.getD j true = false → (∀ e ∈ oj.after, Region.binds md e = true → e.on ≠ i) → oi.apart ops oj = true) →
      i ∈ Region.ready md ops listed → YieldsIf P ops S oi v a → S w → listed.getD k true = false →
      wpAnyK P md ops Q S k fuel (listed.setIfInBounds i true) (a.put oi.dst v) w → wpAnyK P md ops Q S k (fuel + 1) listed a w := by
  intro fuel
  induction fuel with
  | zero =>
    intro listed a w _ hr hy hS hk H
    refine ⟨fun h => (by rw [h] at hr; cases hr), fun j hj => ?_⟩
    by_cases hji : j = i
    · subst hji; exact hy.wpOp hi hS ⟨.inr hS, H⟩
    · have := ready_mono hj hji
      rw [H.1] at this
      cases this
  | succ fuel ih =>
    intro listed a w hfree hr hy hS hk H
    refine ⟨fun h => (by rw [h] at hr; cases hr), fun j hj => ?_⟩
    by_cases hji : j = i
    · subst hji; exact hy.wpOp hi hS ⟨.inr hS, H⟩
    · have h1 := H.2 j (ready_mono hj hji)
      obtain ⟨hjun, oj, hoj, hall⟩ := mem_ready.1 hj
      have hnot : ∀ e ∈ oj.after, Region.binds md e = true → e.on ≠ i := fun e he hb heq => by
        have h1 := hall e he hb
        have h0 := (mem_ready.1 hr).1
        rw [heq] at h1
        rcases Nat.lt_or_ge i listed.size with h' | h'
        · simp [h'] at h0 h1; rw [h0] at h1; cases h1
        · simp [Array.getElem?_eq_none h'] at h1
      have hjk : j ≠ k := fun e => by
        subst e
        obtain ⟨o, ho, e, he, hb, heq⟩ := waits_spec hw
        rw [hoj] at ho
        cases ho
        exact hnot e he hb heq
      have h2 := wpOp_putIf hoj (hfree j oj hoj hji hjun hnot) (fun cs b => hsel i oi cs b hi) (fun cs b => hsel j oj cs b hoj) hQ hy h1
      have hfree' : ∀ k ok, ops[k]? = some ok → k ≠ i → (listed.setIfInBounds j true).getD k true = false →
          (∀ e ∈ ok.after, Region.binds md e = true → e.on ≠ i) → oi.apart ops ok = true := fun k ok hk hki hun hno => by
        refine hfree k ok hk hki ?_ hno
        by_cases hjk : j = k
        · subst hjk; exact hjun
        · rw [getD_set_ne true hjk] at hun; exact hun
      have hk' : (listed.setIfInBounds j true).getD k true = false := by rw [getD_set_ne true hjk]; exact hk
      have hk2 : ((listed.setIfInBounds i true).setIfInBounds j true).getD k true = false := by rw [getD_set_ne true hjk, getD_set_ne true (Ne.symm hki)]; exact hk
      refine wpOp_mono (fun a' w' h3 => ?_) h2
      have hS' : S w' := by
        rcases h3.2.1 with h | h
        · rw [hk2] at h; cases h
        · exact h
      refine ⟨.inr hS', ih (listed.setIfInBounds j true) a' w' hfree' (ready_mono hr (Ne.symm hji)) h3.1 hS' hk' ?_⟩
      rw [Array.setIfInBounds_comm _ _ hji]
      exact h3.2.2
theorem wpAnyK_take {i : Nat} {oi : Oper} {v : Value} {fuel : Nat} {listed : Array Bool} {a : Act} {w : World} (hi' : ops.toList[i]? = some oi)
    (hs : Region.noSelect ops = true) (hf : Region.free md ops listed i = true) (hr : (Region.ready md ops listed).contains i = true) (hw : (waits md ops k i && k != i && !listed.getD k true) = true)
    (hQ : ∀ c a w, Q (.panic c) (a.put oi.dst v) w → Q (.panic c) a w) (hy : YieldsIf P ops S oi v a) (hS : S w)
    (h : wpAnyK P md ops Q S k fuel (listed.setIfInBounds i true) (a.put oi.dst v) w) : wpAnyK P md ops Q S k (fuel + 1) listed a w := by
  have hi : ops[i]? = some oi := by rw [← Array.getElem?_toList]; exact hi'
  simp only [Bool.and_eq_true, bne_iff_ne, Bool.not_eq_true'] at hw
  exact wpAnyK_first hi (Region.noSelect_spec hs) hQ hw.1.1 hw.1.2 fuel listed a w (Region.free_spec hi hf) (by simpa using hr) hy hS hw.2 h
theorem wpAnyK_done {listed : Array Bool} {a : Act} {w : World} (hr : Region.ready md ops listed = []) (h : Q .normal a w) : ∀ fuel, wpAnyK P md ops Q S k fuel listed a w
  | 0 => ⟨hr, h⟩
  | _ + 1 => ⟨fun _ => h, by rw [hr]; simp⟩
def AllReadyK (P : Program) (md : Region.Mode) (ops : Array Oper) (Q : Exit → Act → World → Prop) (S : World → Prop) (k fuel : Nat) (listed : Array Bool) (a : Act) (w : World) (rs : List Nat) : Prop :=
  ∀ i ∈ rs, wpOp P ops Q i (fun a' w' => ((listed.setIfInBounds i true).getD k true = true ∨ S w') ∧ wpAnyK P md ops Q S k fuel (listed.setIfInBounds i true) a' w') a w
theorem AllReadyK.nil {fuel : Nat} {listed : Array Bool} {a : Act} {w : World} : AllReadyK P md ops Q S k fuel listed a w [] := fun _ h => by cases h
theorem AllReadyK.cons {fuel : Nat} {listed : Array Bool} {a : Act} {w : World} {i : Nat} {o : Oper} {rs : List Nat} (ho' : ops.toList[i]? = some o)
    (h : ∀ K' : Act → World → Prop, Shut (∀ a w, ((listed.setIfInBounds i true).getD k true = true ∨ S w) → wpAnyK P md ops Q S k fuel (listed.setIfInBounds i true) a w → K' a w) → if Region.wanted o (yielded ops a.tmps) = true then Oper.wp P o a w K' Q else K' (a.put o.dst undef) w)
    (hs : AllReadyK P md ops Q S k fuel listed a w rs) : AllReadyK P md ops Q S k fuel listed a w (i :: rs) := fun j hj => by
  rcases List.mem_cons.1 hj with rfl | hj
  · have ho : ops[j]? = some o := by rw [← Array.getElem?_toList]; exact ho'
    exact wpOp_step ho (fun K' hK => h K' (fun a w hS hW => hK a w ⟨hS, hW⟩))
  · exact hs j hj
theorem wpAnyK_ready {rs : List Nat} {fuel : Nat} {listed : Array Bool} {a : Act} {w : World} (hr : Region.ready md ops listed = rs) (hne : rs ≠ [])
    (h : AllReadyK P md ops Q S k fuel listed a w rs) : wpAnyK P md ops Q S k (fuel + 1) listed a w := ⟨fun h0 => absurd (hr ▸ h0) hne, hr ▸ h⟩
theorem regionK {id : Nat} {a : Act} {w : World} (S : World → Prop) (k : Nat) (hm : P.follows .mixedOrders = true) (h : ∀ wd, Below w.heap.size w wd → wpAnyK P .any ops Q S k ops.size (Array.replicate ops.size false) a wd) : (Code.region id ops true).wp P Q a w :=
  wp_region_any hm (wpAny_of_K _ _ _ _ (h w.drew ((Below.refl _ w).drew)))
end
end Go.Proofs.YtbhiljaipikklaaGreatDoorL
end
