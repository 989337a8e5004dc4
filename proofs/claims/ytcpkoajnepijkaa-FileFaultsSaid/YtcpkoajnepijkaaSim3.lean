/- The plain model: a call of the one is a call of the other. No conditions. -/
import Derived.Test.YtcpkoajnepijkaaSim2
namespace Go.Proofs.Ytcpkoajnepijkaa
set_option linter.unusedVariables false
set_option linter.unusedSimpArgs false
open Go.RowKit Go.Proofs.YtcpkoajnepijkaaL

def nosBut (row : List Wr) (nos : List Nat) (g : Nat) : List Nat := ((row.zip nos).filter fun x => !(x.1.tgt == g)).map (·.2)
theorem zip_but (g : Nat) : ∀ (row : List Wr) (nos : List Nat), nos.length = row.length → (row.filter fun x => !(x.tgt == g)).zip (nosBut row nos g) = (row.zip nos).filter fun x => !(x.1.tgt == g)
  | [], nos, h => by simp
  | x :: row, [], h => by simp at h
  | x :: row, n :: nos, h => by
    have ih := zip_but g row nos (by simpa using h)
    unfold nosBut at ih ⊢
    by_cases hx : x.tgt = g
    · simp only [List.zip_cons_cons]
      rw [List.filter_cons_of_neg (by simp [hx]), List.filter_cons_of_neg (by simp [hx])]
      exact ih
    · simp only [List.zip_cons_cons]
      rw [List.filter_cons_of_pos (by simp [hx]), List.filter_cons_of_pos (by simp [hx]), List.map_cons, List.zip_cons_cons, ih]
theorem length_but (g : Nat) (row : List Wr) (nos : List Nat) (h : nos.length = row.length) : (nosBut row nos g).length = (row.filter fun x => !(x.tgt == g)).length := by
  have e : (row.zip nos).map (·.1) = row := List.map_fst_zip (by omega)
  have : ((row.zip nos).filter fun x => !(x.1.tgt == g)).map (·.1) = row.filter fun x => !(x.tgt == g) := by
    conv => rhs; rw [← e, List.filter_map]
    rfl
  rw [← this]
  simp [nosBut]
theorem sub_but (g : Nat) (row : List Wr) (nos : List Nat) (h : nos.length = row.length) : (nosBut row nos g).Sublist nos := by
  have e : (row.zip nos).map (·.2) = nos := List.map_snd_zip (by omega)
  have h2 : (nosBut row nos g).Sublist ((row.zip nos).map (·.2)) := List.Sublist.map _ List.filter_sublist
  rwa [e] at h2
theorem rowOf_but (g k : Nat) (row : List Wr) (nos : List Nat) (h : nos.length = row.length) : rowOf (row.filter fun x => !(x.tgt == g)) (nosBut row nos g) k = if k = g then [] else rowOf row nos k := by
  unfold rowOf
  rw [zip_but g row nos h, List.filter_filter]
  split
  · rename_i e
    subst e
    have : ((row.zip nos).filter fun x => (x.1.tgt == k) && !(x.1.tgt == k)) = [] := List.filter_eq_nil_iff.2 (fun x _ => by simp)
    rw [this]
    rfl
  · rename_i e
    congr 1
    refine List.filter_congr (fun x _ => ?_)
    by_cases hx : x.1.tgt = k
    · have : ¬ x.1.tgt = g := fun h => e (hx.symm.trans h)
      simp [hx, e]
    · simp [hx]

section
variable {st : FS} {S : PS} {nos : List Nat}
theorem Rel.count (h : Rel st S nos) : Rel (opS st) (countP S) nos :=
  ⟨h.sorted, h.len, h.nd, h.inj, h.fwd, h.bwd, h.rows, h.nlen, h.ninc, h.nlt, congrArg (· + 1) h.ops, by show decP S.fuse = _; rw [h.fuse]; rfl, h.fault, by show (S.fuse == 0) = _; rw [h.fuse]; rfl⟩
theorem Rel.fault_ (h : Rel st S nos) : Rel (faultS st) { S with fault := decP S.fault } nos :=
  ⟨h.sorted, h.len, h.nd, h.inj, h.fwd, h.bwd, h.rows, h.nlen, h.ninc, h.nlt, h.ops, h.fuse, by show decP S.fault = _; rw [h.fault]; rfl, h.down⟩
theorem Rel.arm (h : Rel st S nos) (n : Int) : Rel { st with fuse := n } { S with fuse := n } nos := ⟨h.sorted, h.len, h.nd, h.inj, h.fwd, h.bwd, h.rows, h.nlen, h.ninc, h.nlt, h.ops, rfl, h.fault, h.down⟩
theorem Rel.armFault (h : Rel st S nos) (n : Int) : Rel { st with fault := n } { S with fault := n } nos := ⟨h.sorted, h.len, h.nd, h.inj, h.fwd, h.bwd, h.rows, h.nlen, h.ninc, h.nlt, h.ops, h.fuse, rfl, h.down⟩

/-- A file has other synced bytes, and no writes. -/
theorem Rel.set (h : Rel st S nos) {f : PF} {g : Nat} (hf : f ∈ S.l) (hg : (f.name, g) ∈ st.files) {b : List Int} :
    Rel { forgetS st g with sb := upd st.sb g b, sz := upd st.sz g b.length } { S with l := withP { f with b := b, row := [] } S.l } (nosBut st.row nos g) := by
  have hfn := findP_of h.sorted hf
  have hne : ∀ f0 g0, (f0, g0) ∈ st.files → f0 ≠ f.name → g0 ≠ g := fun f0 g0 h0 hn e => hn (congrArg Prod.fst (h.inj _ h0 _ hg e))
  refine ⟨sorted_withP h.sorted, ?_, h.nd, h.inj, fun f0 h0 => ?_, fun p hp => ?_, fun x hx => h.rows x (List.mem_filter.1 hx).1, ?_, h.ninc.sublist (sub_but g _ _ h.nlen), fun n hn => h.nlt n ((sub_but g _ _ h.nlen).subset hn), h.ops, h.fuse, h.fault, h.down⟩
  · show st.files.length = _
    rw [h.len, withP, length_insP, length_withoutP h.sorted hfn]
  · rcases mem_withP.1 h0 with rfl | ⟨h0, hn⟩
    · refine ⟨g, hg, upd_same _ _ _, ?_, ?_⟩
      · show upd st.sz g b.length g = _
        rw [upd_same]; rfl
      · show [] = rowOf _ _ g
        rw [show (forgetS st g).row = st.row.filter fun x => !(x.tgt == g) from rfl, rowOf_but g g _ _ h.nlen, if_pos rfl]
    · obtain ⟨g0, h1, h2, h3, h4⟩ := h.fwd f0 h0
      have hg0 := hne _ _ h1 hn
      refine ⟨g0, h1, ?_, ?_, ?_⟩
      · show upd st.sb g b g0 = _
        rw [upd_other _ _ hg0, h2]
      · show upd st.sz g b.length g0 = _
        rw [upd_other _ _ hg0, h3]
      · rw [h4, show (forgetS st g).row = st.row.filter fun x => !(x.tgt == g) from rfl, rowOf_but g g0 _ _ h.nlen, if_neg hg0]
  · obtain ⟨f0, h1, h2⟩ := h.bwd p hp
    by_cases e : p.1 = f.name
    · exact ⟨_, mem_withP.2 (.inl rfl), e.symm⟩
    · exact ⟨f0, mem_withP.2 (.inr ⟨h1, fun e2 => e (h2.symm.trans e2)⟩), h2⟩
  · rw [length_but g _ _ h.nlen]; rfl

/-- A file goes. -/
theorem Rel.remove (h : Rel st S nos) {f : PF} {g : Nat} (hf : f ∈ S.l) (hg : (f.name, g) ∈ st.files) :
    Rel { forgetS st g with files := drop_ f.name st.files } { S with l := withoutP f.name S.l } (nosBut st.row nos g) := by
  have hfn := findP_of h.sorted hf
  have hne : ∀ f0 g0, (f0, g0) ∈ st.files → f0 ≠ f.name → g0 ≠ g := fun f0 g0 h0 hn e => hn (congrArg Prod.fst (h.inj _ h0 _ hg e))
  refine ⟨sorted_withoutP h.sorted, ?_, nodup_drop h.nd, fun p hp q hq => h.inj p ((mem_drop h.nd).1 hp).1 q ((mem_drop h.nd).1 hq).1, fun f0 h0 => ?_, fun p hp => ?_, fun x hx => ?_, ?_, h.ninc.sublist (sub_but g _ _ h.nlen), fun n hn => h.nlt n ((sub_but g _ _ h.nlen).subset hn), h.ops, h.fuse, h.fault, h.down⟩
  · show (drop_ f.name st.files).length = (withoutP f.name S.l).length
    have h1 := length_withoutP h.sorted hfn
    have h2 := length_drop (s := f.name) (l := st.files) (by rw [fnd_of_mem h.nd hg]; rfl)
    have h3 := h.len
    omega
  · obtain ⟨h0, hn⟩ := mem_withoutP.1 h0
    obtain ⟨g0, h1, h2, h3, h4⟩ := h.fwd f0 h0
    have hg0 := hne _ _ h1 hn
    refine ⟨g0, (mem_drop h.nd).2 ⟨h1, hn⟩, h2, h3, ?_⟩
    rw [h4, show (forgetS st g).row = st.row.filter fun x => !(x.tgt == g) from rfl, rowOf_but g g0 _ _ h.nlen, if_neg hg0]
  · obtain ⟨hp, hn⟩ := (mem_drop h.nd).1 hp
    obtain ⟨f0, h1, h2⟩ := h.bwd p hp
    exact ⟨f0, mem_withoutP.2 ⟨h1, fun e => hn (h2.symm.trans e)⟩, h2⟩
  · obtain ⟨hx, hx2⟩ := List.mem_filter.1 hx
    obtain ⟨s, hs⟩ := h.rows x hx
    refine ⟨s, (mem_drop h.nd).2 ⟨hs, fun e => ?_⟩⟩
    have := congrArg Prod.snd (h.inj _ hs _ hg (by
      have e2 : (s, x.tgt) = (f.name, x.tgt) := by rw [show s = f.name from e]
      have h5 := fnd_of_mem h.nd hs
      have h6 := fnd_of_mem h.nd hg
      rw [show s = f.name from e, h6] at h5
      exact (Option.some.inj h5).symm))
    simp at hx2
    exact hx2 this
  · rw [length_but g _ _ h.nlen]; rfl
end

end Go.Proofs.Ytcpkoajnepijkaa
