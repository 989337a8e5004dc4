/- The plain model: Write, a copy, a crash. No conditions. -/
import Derived.Test.YtcpkoajnepijkaaSim5
namespace Go.Proofs.Ytcpkoajnepijkaa
set_option linter.unusedVariables false
set_option linter.unusedSimpArgs false
open Go.RowKit Go.Proofs.YtcpkoajnepijkaaL

section
variable {st : FS} {S : PS} {nos : List Nat}
theorem Rel.write (h : Rel st S nos) (s : ByteArray) (b : List Int) {new : Nat} (hnew : ∀ p ∈ st.files, p.2 ≠ new) : (writeL st s b new).1 = (writeP S s b).1 ∧ ∃ nos', Rel (writeL st s b new).2 (writeP S s b).2 nos' := by
  unfold writeL writeP
  rw [h.down]
  by_cases hd : st.down = true
  · rw [if_pos hd, if_pos hd]
    exact ⟨rfl, _, h⟩
  rw [if_neg hd, if_neg hd]
  rcases h.find s with ⟨h1, h2⟩ | ⟨f, g, h1, h1m, h1n, h2, h2m, _, h3, _, h4⟩
  · rw [h1, h2]
    simp only [true_and, Option.map_none, Option.getD_none, h.len]
    by_cases hn : namedB s = false ∨ 8 ≤ S.l.length
    · rw [if_pos hn, if_pos hn]
      exact ⟨rfl, _, h⟩
    rw [if_neg hn, if_neg hn]
    have hb0 : (bytesP ⟨s, [], []⟩).length = 0 := rfl
    rw [hb0]
    by_cases hfull : 0 + b.length > 65536
    · rw [if_pos hfull, if_pos hfull]
      exact ⟨rfl, _, h⟩
    rw [if_neg hfull, if_neg hfull, h.fault]
    cases hft : (st.fault == 0) with
    | true =>
      simp only [if_true]
      refine ⟨by rw [h.fuse], nos, ?_⟩
      have := h.fault_.count
      rw [h.fault] at this
      exact this
    | false =>
      simp only [Bool.false_eq_true, if_false]
      refine ⟨by rw [h.fuse], nos ++ [S.no], ?_⟩
      have hc := ((h.create h1 hnew (live := new :: st.live)).fault_.count).append (f := ⟨s, [], []⟩) (g := new) (b := b) (mem_withP.2 (.inl rfl)) (by
        show (s, new) ∈ put s new st.files
        rw [mem_put h.nd]
        exact .inl rfl)
      have hmem : ∀ p, p ∈ put s new st.files ↔ p ∈ put s new (put s new st.files) := fun p => by
        rw [mem_put (nodup_put h.nd), mem_put h.nd]
        constructor
        · rintro (a | a)
          · exact .inl a
          · exact .inr ⟨.inr a, a.2⟩
        · rintro (a | ⟨a, _⟩)
          · exact .inl a
          · exact a
      have hp : fnd s (put s new st.files) = some new := fnd_of_mem (nodup_put h.nd) (by rw [mem_put h.nd]; exact .inl rfl)
      have hc2 := hc.files (files := put s new st.files) hmem (nodup_put h.nd) (by
        show _ = (put s new (put s new st.files)).length
        rw [length_put (l := put s new st.files), hp]; rfl)
      have e0 : upd st.sz new 0 new = 0 := by simp [upd]
      have e1 : withP { (⟨s, [], []⟩ : PF) with row := [] ++ [⟨S.no, 0, b⟩] } (withP ⟨s, [], []⟩ S.l) = withP { (⟨s, [], []⟩ : PF) with row := [] ++ [⟨S.no, 0, b⟩] } S.l := withP_withP (f := ⟨s, [], []⟩) (f' := ⟨s, [], [] ++ [⟨S.no, 0, b⟩]⟩) rfl _
      rw [e0]
      have hc3 : Rel _ { countP { S with fault := decP S.fault } with l := withP { (⟨s, [], []⟩ : PF) with row := [] ++ [⟨S.no, 0, b⟩] } (withP ⟨s, [], []⟩ S.l), no := S.no + 1 } (nos ++ [S.no]) := hc2
      rw [e1, h.fault] at hc3
      have e2 : ∀ x : FS, x.sz = upd (upd st.sz new 0) new (upd st.sz new 0 new + b.length) → x.sz = upd (upd st.sz new 0) new (0 + b.length) := fun x hx => by rw [hx, e0]
      simp only [opS, faultS] at hc3 ⊢
      rw [e0] at hc3
      exact hc3
  · rw [h1, h2]
    have hcf : ¬ (namedB s = false ∨ ((some f : Option PF) = none ∧ 8 ≤ S.l.length)) ↔ ¬ namedB s = false := by simp
    have hcg : ¬ (namedB s = false ∨ ((some g : Option Nat) = none ∧ 8 ≤ st.files.length)) ↔ ¬ namedB s = false := by simp
    by_cases hn : namedB s = false
    · rw [if_pos (.inl hn), if_pos (.inl hn)]
      exact ⟨rfl, _, h⟩
    rw [if_neg (hcf.2 hn), if_neg (hcg.2 hn)]
    simp only [Option.map_some, Option.getD_some]
    rw [h3]
    by_cases hfull : (bytesP f).length + b.length > 65536
    · rw [if_pos hfull, if_pos hfull]
      exact ⟨rfl, _, h⟩
    rw [if_neg hfull, if_neg hfull, h.fault]
    cases hft : (st.fault == 0) with
    | true =>
      simp only [if_true]
      refine ⟨by rw [h.fuse], nos, ?_⟩
      have := h.fault_.count
      rw [h.fault] at this
      exact this
    | false =>
      simp only [Bool.false_eq_true, if_false]
      refine ⟨by rw [h.fuse], nos ++ [S.no], ?_⟩
      subst h1n
      have hc := (h.fault_.count).append (f := f) (g := g) (b := b) h1m h2m
      have hc3 : Rel _ { countP { S with fault := decP S.fault } with l := withP { f with row := f.row ++ [⟨S.no, (bytesP f).length, b⟩] } S.l, no := S.no + 1 } (nos ++ [S.no]) := hc
      rw [h.fault] at hc3
      simp only [opS, faultS] at hc3 ⊢
      rw [h3] at hc3
      exact hc3

theorem rowOf_map {st st' : FS} {f : Nat → Nat} {g : Nat} (nos : List Nat) (hrow : st'.row = st.row.map (fun x => { x with tgt := f x.tgt })) (hi : ∀ x ∈ st.row, f x.tgt = f g → x.tgt = g) : rowOf st'.row nos (f g) = rowOf st.row nos g := by
  rw [hrow]
  have : ∀ (row : List Wr) (nos : List Nat), (∀ x ∈ row, f x.tgt = f g → x.tgt = g) → rowOf (row.map (fun x => { x with tgt := f x.tgt })) nos (f g) = rowOf row nos g := by
    intro row
    induction row with
    | nil => intro nos _; simp [rowOf]
    | cons x row ih =>
      intro nos hi
      cases nos with
      | nil => simp [rowOf]
      | cons n nos =>
        have h2 := ih nos (fun y hy => hi y (List.mem_cons_of_mem _ hy))
        unfold rowOf at h2 ⊢
        simp only [List.map_cons, List.zip_cons_cons]
        by_cases e : x.tgt = g
        · rw [List.filter_cons_of_pos (by simp [e]), List.filter_cons_of_pos (by simp [e]), List.map_cons, List.map_cons, h2]
        · rw [List.filter_cons_of_neg (by
            have : ¬ f x.tgt = f g := fun e2 => e (hi x List.mem_cons_self e2)
            simpa using this), List.filter_cons_of_neg (by simp [e]), h2]
  exact this st.row nos hi

theorem Rel.copied (h : Rel st S nos) {st' : FS} (hnd : (st'.files.map (·.1)).Nodup) (hc : Copied st st') : Rel st' S nos := by
  obtain ⟨f, c1, c2, c3, c4, c5, _, _, c8, c9, c10, c11⟩ := hc
  have hmem : ∀ s k, (s, k) ∈ st'.files ↔ ∃ g, (s, g) ∈ st.files ∧ k = f g := fun s k => by
    constructor
    · intro hk
      have a := fnd_of_mem hnd hk
      rw [c1] at a
      cases hg : fnd s st.files with
      | none => rw [hg] at a; cases a
      | some g => rw [hg] at a; exact ⟨g, fnd_mem hg, (Option.some.inj a).symm⟩
    · rintro ⟨g, hg, rfl⟩
      refine fnd_mem ?_
      rw [c1, fnd_of_mem h.nd hg]
      rfl
  have hus : ∀ s g, (s, g) ∈ st.files → ((∃ s, fnd s st.files = some g) ∨ ∃ x ∈ st.row, x.tgt = g) := fun s g hg => .inl ⟨s, fnd_of_mem h.nd hg⟩
  refine ⟨h.sorted, c2.trans h.len, hnd, fun p hp q hq e => ?_, fun f0 h0 => ?_, fun p hp => ?_, fun x hx => ?_, by rw [c3, List.length_map]; exact h.nlen, h.ninc, h.nlt, h.ops.trans c8.symm, h.fuse.trans c9.symm, h.fault.trans c10.symm, h.down.trans c11.symm⟩
  · obtain ⟨g, hg, e1⟩ := (hmem p.1 p.2).1 hp
    obtain ⟨g', hg', e2⟩ := (hmem q.1 q.2).1 hq
    have e3 : g = g' := c4 g g' (hus _ _ hg) (hus _ _ hg') (by rw [← e1, ← e2, e])
    have := congrArg Prod.fst (h.inj _ hg _ hg' e3)
    exact Prod.ext this e
  · obtain ⟨g, h1, h2, h3, h4⟩ := h.fwd f0 h0
    obtain ⟨a1, a2⟩ := c5 g (hus _ _ h1)
    refine ⟨f g, (hmem _ _).2 ⟨g, h1, rfl⟩, a1.trans h2, a2.trans h3, ?_⟩
    rw [rowOf_map nos c3 (fun x hx e => c4 _ _ (.inr ⟨x, hx, rfl⟩) (hus _ _ h1) e), h4]
  · obtain ⟨g, hg, _⟩ := (hmem p.1 p.2).1 hp
    obtain ⟨f0, a, b⟩ := h.bwd (p.1, g) hg
    exact ⟨f0, a, b⟩
  · rw [c3] at hx
    obtain ⟨y, hy, rfl⟩ := List.mem_map.1 hx
    obtain ⟨s, hs⟩ := h.rows y hy
    exact ⟨s, (hmem _ _).2 ⟨y.tgt, hs, rfl⟩⟩
end

end Go.Proofs.Ytcpkoajnepijkaa
