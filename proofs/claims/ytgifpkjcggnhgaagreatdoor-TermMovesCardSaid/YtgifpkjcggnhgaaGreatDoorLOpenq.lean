/- Parts of the proof of the law that the last file states; declarations that nothing mentions are left out by a program. No conditions. -/
import Derived.Deep.Slices
import Derived.Deep.Fields
import Derived.ChangeSame
import Derived.OpenShut
import Derived.SizedLaws
import Derived.Test.YtgifpkjcggnhgaaGreatDoorWWordsq
set_option linter.unusedVariables false
set_option linter.unusedSimpArgs false
namespace Go.Proofs.YtgifpkjcggnhgaaGreatDoorL
open Go.ChangeShapes Go.WideShapes Go.Deep Go.Proofs.YtgifpkjcggnhgaaGreatDoorW.PrintWords
def Opens {α : Type} (P : Program) (d : Kd α) (Q : α → Prop) (t : TypeId) : Prop :=
  ∀ {H : Type} (enc : TypeId × Value → H) (w : World) (base : Nat) (spare : Nat → Bool) (held : Bool) (fuel : Nat) (cs : List Value) (x : DataW H × List MemPlace),
    DataW.trod enc P w base spare held fuel t cs = some x → (x.1.weights P t).all (· ≤ reachBytes) = true → ∃ a, d.K w a cs ∧ Q a
theorem opens_int {P : Program} {t : TypeId} {k : IntKind} (hu : P.underlying t = some (.int k)) : Opens P (Kd.int k) (fun n => (Lit.int k n).wf = true) t := by
  intro H enc w base spare held fuel cs x h _
  obtain ⟨n, rfl, _, hw⟩ := DataW.trod_int hu h
  exact ⟨n, rfl, hw⟩
theorem opens_bool {P : Program} {t : TypeId} (hu : P.underlying t = some .bool) : Opens P Kd.bool (fun _ => True) t := by
  intro H enc w base spare held fuel cs x h _
  obtain ⟨b, rfl, _⟩ := DataW.trod_bool hu h
  exact ⟨b, rfl, trivial⟩
theorem weightsAll_mem {H : Type} {P : Program} {e : TypeId} : ∀ {ds : List (DataW H)} {d : DataW H}, d ∈ ds → ∀ n ∈ d.weights P e, n ∈ DataW.weightsAll P e ds
  | d' :: r, d, hd, n, hn => by
    simp only [DataW.weightsAll, List.mem_append]
    rcases List.mem_cons.1 hd with rfl | hd
    · exact .inl hn
    · exact .inr (weightsAll_mem hd n hn)
theorem choose_list {α : Type} {p : Nat → α → Prop} : ∀ n, (∀ i, i < n → ∃ a, p i a) → ∃ l : List α, l.length = n ∧ ∀ i a, l[i]? = some a → p i a
  | 0, _ => ⟨[], rfl, fun i a h => by simp at h⟩
  | n + 1, h => by
    obtain ⟨l, hl, hp⟩ := choose_list n (fun i hi => h i (by omega))
    obtain ⟨a, ha⟩ := h n (by omega)
    refine ⟨l ++ [a], by simp [hl], fun i b hb => ?_⟩
    rcases Nat.lt_or_ge i n with hi | hi
    · rw [List.getElem?_append_left (by omega)] at hb
      exact hp i b hb
    · have : i = n := by
        have := (List.getElem?_eq_some_iff.1 hb).1
        simp [hl] at this
        omega
      subst this
      rw [List.getElem?_append_right (by omega), hl, Nat.sub_self] at hb
      simp at hb
      exact hb ▸ ha
theorem opens_slice {α : Type} {P : Program} {d : Kd α} {Q : α → Prop} {t e : TypeId} (hu : P.underlying t = some (.slice e)) (hc : P.cellsOf e = d.sz) (he : Opens P d Q e) :
    Opens P (Kd.slice e d) (fun xs => xs.length * P.bytesOf e ≤ reachBytes ∧ ∀ x ∈ xs, Q x) t := by
  intro H enc w base spare held fuel cs x h hw
  rcases open_slice hu h with ⟨rfl, _⟩ | ⟨a, len, cap, m, n, D, Pl, rfl, hb, hl, hm, hmm, rfl, hi⟩
  · refine ⟨[], ⟨none, 0, rfl, Nat.le_refl _, Kd.C_nil d w⟩, by simp, by simp⟩
  · simp only [DataW.weights, hu, List.all_cons, Bool.and_eq_true] at hw
    obtain ⟨hw1, hw2⟩ := hw
    have hlm : len ≤ m := by rw [hmm]; split <;> omega
    have hel : ∀ i, i < len → ∃ y : α, (∃ c, d.K w y c ∧ ∀ j u, c[j]? = some u → w.cell? (a.add (i * d.sz + j)) = some u) ∧ Q y := by
      intro i hil
      obtain ⟨cs', hcs, ht⟩ := hi i (by omega)
      obtain ⟨y, hK, hQ⟩ := he enc w base spare held n cs' _ ht (by
        refine List.all_eq_true.2 fun v hv => ?_
        refine List.all_eq_true.1 hw2 v (List.mem_append_left _ ?_)
        exact weightsAll_mem (d := D i) (List.mem_map.2 ⟨i, List.mem_range.2 hil, rfl⟩) v hv)
      refine ⟨y, ⟨cs', hK, fun j u hj => ?_⟩, hQ⟩
      obtain ⟨_, hlen, hat⟩ := World.cells?_some hcs
      have hjl : j < cs'.length := (List.getElem?_eq_some_iff.1 hj).1
      have := hat j (by omega)
      rw [Go.Deep.add_add, hc] at this
      exact this.trans hj
    obtain ⟨l, hll, hp⟩ := choose_list len hel
    subst hll
    refine ⟨l, ⟨some a, cap, rfl, hl, rfl, ?_, fun _ => ⟨a, rfl, ?_⟩⟩, ?_, ?_⟩
    · unfold maxLen at hm
      omega
    · intro i y hy
      obtain ⟨c, hK, hc'⟩ := (hp i y hy).1
      exact ⟨c, d.K_len hK, hK, hc'⟩
    · have := of_decide_eq_true hw1
      simp only [List.length_map, List.length_range] at this
      exact Nat.le_trans (Nat.mul_le_mul_right _ (Nat.le_add_right _ _)) this
    · intro y hy
      obtain ⟨i, hi⟩ := List.mem_iff_getElem?.1 hy
      exact (hp i y hi).2
theorem trod_cells {H : Type} {enc : TypeId × Value → H} {P : Program} {w : World} {base : Nat} {spare : Nat → Bool} {held : Bool} {t : TypeId} {fs : Array Field} {fuel : Nat} {cs : List Value} {x : DataW H × List MemPlace}
    (hu : P.underlying t = some (.struct fs)) (hone : oneCellFields P fs = true) (hC : P.cellsOf t = fs.size) (h : DataW.trod enc P w base spare held fuel t cs = some x) (hw : (x.1.weights P t).all (· ≤ reachBytes) = true) :
    cs.length = fs.size ∧ ∀ (j : Nat) (f : Field), fs[j]? = some f → ∃ (n : Nat) (v : Value) (y : DataW H × List MemPlace), cs[j]? = some v ∧ DataW.trod enc P w base spare held n f.type [v] = some y ∧ (y.1.weights P f.type).all (· ≤ reachBytes) = true := by
  obtain ⟨ys, n, _, rfl, hlen, hyl, hf⟩ := DataW.trod_struct hu h
  rw [hC] at hlen
  refine ⟨hlen, fun j f hj => ?_⟩
  obtain ⟨ho, hk⟩ := hone_of hone j f hj
  have hjl : j < fs.size := (Array.getElem?_eq_some_iff.1 hj).1
  have h1 := hf j f hj
  rw [ho, hk] at h1
  have hone' : (cs.drop j).take 1 = [cs[j]'(by omega)] := by
    rw [List.drop_eq_getElem_cons (by omega)]
    rfl
  rw [hone'] at h1
  have hys : ys[j]? = some (ys[j]'(by omega)) := List.getElem?_eq_getElem (by omega)
  refine ⟨n, cs[j]'(by omega), ys[j]'(by omega), List.getElem?_eq_getElem (by omega), h1.trans hys, ?_⟩
  refine List.all_eq_true.2 fun v hv => List.all_eq_true.1 hw v ?_
  simp only [DataW.weights, hu]
  refine DataW.weights_mem_each (j := j) (t := f.type) (d := (ys[j]'(by omega)).1) ?_ ?_ v hv
  · rw [List.getElem?_map, Array.getElem?_toList, hj]
    rfl
  · rw [List.getElem?_map, hys]
    rfl
theorem int_of {k : IntKind} {w : World} {a : Int} {v : Value} (h : (Kd.int k).K w a [v]) : v = .int k a := (List.cons.inj h).1
theorem bool_of {w : World} {a : Bool} {v : Value} (h : Kd.bool.K w a [v]) : v = .bool a := (List.cons.inj h).1
theorem slice_read {α : Type} {d : Kd α} {e : TypeId} {w : World} {xs : List α} {v : Value} (h : (Kd.slice e d).K w xs [v]) : ∃ A c, v = .slice A xs.length c ∧ xs.length ≤ c ∧ d.C w A xs.length xs := by
  obtain ⟨A, c, hv, hc, hC⟩ := h
  injection hv with hv
  exact ⟨A, c, hv, hc, hC⟩
end Go.Proofs.YtgifpkjcggnhgaaGreatDoorL

