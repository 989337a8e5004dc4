/- The plain model: how many writes there are; a crash. No conditions. -/
import Derived.Test.YtcpkoajnepijkaaSim6
namespace Go.Proofs.Ytcpkoajnepijkaa
set_option linter.unusedVariables false
set_option linter.unusedSimpArgs false
open Go.RowKit Go.Proofs.YtcpkoajnepijkaaL

theorem sum_one {t : Nat} : ∀ {ks : List Nat} (F : Nat → Nat), ks.Nodup → t ∈ ks → (ks.map fun k => (if t = k then 1 else 0) + F k).sum = 1 + (ks.map F).sum
  | [], _, _, h => by cases h
  | k :: ks, F, hn, h => by
    rw [List.nodup_cons] at hn
    simp only [List.map_cons, List.sum_cons]
    by_cases e : t = k
    · subst e
      have : (ks.map fun k => (if t = k then 1 else 0) + F k) = ks.map F := List.map_congr_left (fun x hx => by
        have : ¬ t = x := fun e => hn.1 (e ▸ hx)
        simp [this])
      rw [this]
      simp
      omega
    · have hm : t ∈ ks := by
        rcases List.mem_cons.1 h with h | h
        · exact absurd h e
        · exact h
      rw [sum_one F hn.2 hm]
      simp [e]
      omega
theorem sum_part {α : Type} {ks : List Nat} (hn : ks.Nodup) (t : α → Nat) (q : α → Bool) : ∀ {zs : List α}, (∀ z ∈ zs, t z ∈ ks) → (ks.map fun k => (zs.filter fun z => (t z == k) && q z).length).sum = (zs.filter q).length
  | [], _ => by
    simp only [List.filter_nil, List.length_nil]
    induction ks with
    | nil => rfl
    | cons k ks ih => simpa using ih (List.nodup_cons.1 hn).2
  | z :: zs, h => by
    have ih := sum_part hn t q (zs := zs) (fun y hy => h y (List.mem_cons_of_mem _ hy))
    have hz := h z List.mem_cons_self
    by_cases hq : q z = true
    · have e : (fun k => ((z :: zs).filter fun z => (t z == k) && q z).length) = fun k => (if t z = k then 1 else 0) + (zs.filter fun z => (t z == k) && q z).length := by
        funext k
        by_cases e : t z = k
        · rw [List.filter_cons_of_pos (by simp [e, hq])]
          simp [e]
          omega
        · rw [List.filter_cons_of_neg (by simp [e])]
          simp [e]
      rw [e, sum_one _ hn hz, ih, List.filter_cons_of_pos hq, List.length_cons]
      omega
    · have e : (fun k => ((z :: zs).filter fun z => (t z == k) && q z).length) = fun k => (zs.filter fun z => (t z == k) && q z).length := by
        funext k
        rw [List.filter_cons_of_neg (by simp [hq])]
      rw [e, ih, List.filter_cons_of_neg hq]

section
variable {st : FS} {S : PS} {nos : List Nat}
def gOf (st : FS) (f : PF) : Nat := (fnd f.name st.files).getD 0
theorem Rel.gOf_ (h : Rel st S nos) {f : PF} (hf : f ∈ S.l) : (f.name, gOf st f) ∈ st.files ∧ f.row = rowOf st.row nos (gOf st f) ∧ st.sb (gOf st f) = f.b := by
  obtain ⟨g, h1, h2, h3, h4⟩ := h.fwd f hf
  have : gOf st f = g := by simp [gOf, fnd_of_mem h.nd h1]
  rw [this]
  exact ⟨h1, h4, h2⟩
theorem Rel.gOfNodup (h : Rel st S nos) : (S.l.map (gOf st)).Nodup := by
  refine List.pairwise_map.2 (h.sorted.imp_of_mem (fun {x y} hx hy hlt e => ?_))
  have h1 := (h.gOf_ hx).1
  have h2 := (h.gOf_ hy).1
  have := congrArg Prod.fst (h.inj _ h1 _ h2 e)
  exact ltN_ne hlt this
theorem Rel.tgtMem (h : Rel st S nos) {x : Wr} (hx : x ∈ st.row) : x.tgt ∈ S.l.map (gOf st) := by
  obtain ⟨s, hs⟩ := h.rows x hx
  obtain ⟨f, hf, e⟩ := h.bwd _ hs
  refine List.mem_map.2 ⟨f, hf, ?_⟩
  have h1 := fnd_of_mem h.nd hs
  have e' : f.name = s := e
  simp [gOf, e', h1]
theorem Rel.sumRows (h : Rel st S nos) (q : PP → Bool) : (S.l.map fun f => (f.row.filter q).length).sum = ((st.row.zip nos).filter fun x => q ⟨x.2, x.1.at_, x.1.b⟩).length := by
  have hp := sum_part h.gOfNodup (fun x : Wr × Nat => x.1.tgt) (fun x => q ⟨x.2, x.1.at_, x.1.b⟩) (zs := st.row.zip nos) (fun z hz => h.tgtMem (List.of_mem_zip hz).1)
  rw [← hp, List.map_map]
  congr 1
  refine List.map_congr_left (fun f hf => ?_)
  rw [(h.gOf_ hf).2.1]
  unfold rowOf
  rw [List.filter_map, List.length_map, List.filter_filter]
  simp only [Function.comp_def]
  congr 1
  exact List.filter_congr (fun x _ => Bool.and_comm _ _)
theorem Rel.pending (h : Rel st S nos) : st.row.length = pendingP S := by
  have := h.sumRows (fun _ => true)
  have e1 : ∀ l : List PP, l.filter (fun _ => true) = l := fun l => List.filter_eq_self.2 (fun _ _ => rfl)
  have e2 : (st.row.zip nos).filter (fun _ => true) = st.row.zip nos := List.filter_eq_self.2 (fun _ _ => rfl)
  rw [e2, List.length_zip, h.nlen, Nat.min_self] at this
  simp only [e1] at this
  exact this.symm
theorem count_lt : ∀ {nos : List Nat} (_ : nos.Pairwise (· < ·)) {i : Nat} (hi : i < nos.length), (nos.filter fun n => decide (n < nos[i])).length = i
  | [], _, i, hi => by simp at hi
  | n :: nos, hp, 0, _ => by
    have h' := List.pairwise_cons.1 hp
    rw [List.filter_eq_nil_iff.2 (fun x hx => by
      rcases List.mem_cons.1 hx with rfl | hx
      · simp
      · have := h'.1 x hx
        simp
        omega)]
    rfl
  | n :: nos, hp, i + 1, hi => by
    have h' := List.pairwise_cons.1 hp
    have hi' : i < nos.length := by simpa using hi
    simp only [List.getElem_cons_succ]
    rw [List.filter_cons_of_pos (by simpa using h'.1 _ (List.getElem_mem hi')), List.length_cons, count_lt h'.2 hi']
theorem Rel.rank (h : Rel st S nos) {i : Nat} (hi : i < nos.length) : rankP S nos[i] = i := by
  have := h.sumRows (fun p => decide (p.no < nos[i]))
  unfold rankP
  rw [this]
  have e : ((st.row.zip nos).filter fun x => decide (x.2 < nos[i])).length = (((st.row.zip nos).map (·.2)).filter fun n => decide (n < nos[i])).length := by
    rw [List.filter_map, List.length_map]
    rfl
  rw [e, List.map_snd_zip (by rw [h.nlen]; exact Nat.le_refl _), count_lt h.ninc hi]
theorem crash_at (keep : List Bool) (g : Nat) : ∀ (l : List (Wr × Nat)) (sb : Nat → List Int), (l.foldl (crash1 keep) sb) g = l.foldl (fun b x => if x.1.tgt = g ∧ keptAt keep x.2 = true then laidL b x.1.at_ x.1.b else b) (sb g)
  | [], sb => rfl
  | x :: l, sb => by
    rw [List.foldl_cons, List.foldl_cons, crash_at keep g l]
    congr 1
    unfold crash1
    by_cases hk : keptAt keep x.2 = true
    · by_cases ht : x.1.tgt = g
      · simp [hk, ht, upd]
      · have : ¬ g = x.1.tgt := fun e => ht e.symm
        simp [hk, ht, upd, this]
    · simp [hk]
theorem Rel.zipIdx (h : Rel st S nos) : (st.row.zip nos).map (fun x => (x.1, rankP S x.2)) = st.row.zipIdx := by
  refine List.ext_getElem (by simp [h.nlen]) (fun i h1 h2 => ?_)
  have hi : i < nos.length := by simp [h.nlen] at h1; rw [h.nlen]; exact h1
  simp [h.rank hi]
theorem foldl_rowOf (q : Nat → Bool) (g : Nat) : ∀ (zs : List (Wr × Nat)) (b : List Int),
    (((zs.filter fun x => x.1.tgt == g).map fun x => (⟨x.2, x.1.at_, x.1.b⟩ : PP)).filter fun p => q p.no).foldl overP b = zs.foldl (fun b x => if x.1.tgt = g ∧ q x.2 = true then laidL b x.1.at_ x.1.b else b) b
  | [], b => rfl
  | z :: zs, b => by
    by_cases ht : z.1.tgt = g
    · rw [List.filter_cons_of_pos (by simp [ht]), List.map_cons, List.foldl_cons]
      by_cases hk : q z.2 = true
      · rw [List.filter_cons_of_pos (p := fun p : PP => q p.no) hk, List.foldl_cons, foldl_rowOf q g zs, if_pos ⟨ht, hk⟩]
        rfl
      · rw [List.filter_cons_of_neg (p := fun p : PP => q p.no) hk, foldl_rowOf q g zs, if_neg (fun e => hk e.2)]
    · rw [List.filter_cons_of_neg (by simp [ht]), List.foldl_cons, foldl_rowOf q g zs, if_neg (fun e => ht e.1)]
theorem Rel.crash (h : Rel st S nos) (keep : List Bool) : Rel (crashL st keep) (crashP S keep) [] := by
  have hsb : ∀ f ∈ S.l, crashSb keep st.row st.sb (gOf st f) = (f.row.filter fun p => keptAt keep (rankP S p.no)).foldl overP f.b := fun f hf => by
    obtain ⟨h1, h2, h3⟩ := h.gOf_ hf
    rw [h2]
    unfold crashSb rowOf
    rw [crash_at, foldl_rowOf (fun n => keptAt keep (rankP S n)), ← h.zipIdx, List.foldl_map, h3]
  refine ⟨List.pairwise_map.2 h.sorted, by show st.files.length = (S.l.map _).length; rw [List.length_map]; exact h.len, h.nd, h.inj, fun f0 h0 => ?_, fun p hp => ?_, (fun x hx => by cases hx), rfl, List.Pairwise.nil, (fun n hn => by cases hn), h.ops, rfl, rfl, rfl⟩
  · obtain ⟨f, hf, rfl⟩ := List.mem_map.1 h0
    refine ⟨gOf st f, (h.gOf_ hf).1, hsb f hf, ?_, rfl⟩
    show (if gOf st f ∈ st.files.map (·.2) then (crashSb keep st.row st.sb (gOf st f)).length else st.sz (gOf st f)) = _
    rw [if_pos (List.mem_map.2 ⟨_, (h.gOf_ hf).1, rfl⟩), hsb f hf]
    rfl
  · obtain ⟨f, hf, e⟩ := h.bwd p hp
    exact ⟨_, List.mem_map.2 ⟨f, hf, rfl⟩, e⟩
end

end Go.Proofs.Ytcpkoajnepijkaa
