/- Parts of the proof of the law that the last file states; declarations that nothing mentions are left out by a program. No conditions. -/
import Derived.Maps.AppendAt
import Derived.Test.YtgifpkjcggnhgaaGreatDoorLTermZq
set_option linter.unusedVariables false
set_option linter.unusedSimpArgs false
namespace Go.Proofs.YtgifpkjcggnhgaaGreatDoorL
open Go Go.RowKit Go.Proofs.YtgifpkjcggnhgaaGreatDoorW.PrintWords
theorem all2_set {α β : Type} {R R' : α → β → Prop} {a : α} {b : β} : ∀ {l : List α} {m : List β} {i : Nat}, All2 R l m → (∀ j r x, l[j]? = some r → j ≠ i → R r x → R' r x) → R' a b → All2 R' (l.set i a) (m.set i b)
  | _, _, _, .nil, _, _ => .nil
  | r :: l, x :: m, 0, .cons h t, h2, h1 => by
    rw [List.set_cons_zero, List.set_cons_zero]
    refine .cons h1 (forall_imp t (fun c hc y hy => ?_))
    obtain ⟨j, hj, rfl⟩ := List.mem_iff_getElem.1 hc
    exact h2 (j + 1) _ y (by simp [hj]) (by omega) hy
  | r :: l, x :: m, i + 1, .cons h t, h2, h1 => by
    rw [List.set_cons_succ, List.set_cons_succ]
    exact .cons (h2 0 r x rfl (by omega) h) (all2_set t (fun j r' x' hj hne hR => h2 (j + 1) r' x' (by simpa using hj) (by omega) hR) h1)
section
variable {P : Nat → Prop} {w w' w1 : World} {T : Nat} {s s' : Tm} {lv gv bv lv1 gv1 : Value} {L G L1 : List RR}
theorem spine_set {ad : Addr} {n c base : Nat} {xs : List RR} (h : rrK.Q 29 w base P (.slice (some ad) n c) xs) {k : Nat} (hk : k < xs.length) (r1 : RR) :
    rrK.Q 29 (w.setCell (ad.add k) r1.v) base P (.slice (some ad) n c) (xs.set k r1) ∧ w.frozen? (ad.add k) = false ∧ (ad.add k).block = ad.block ∧ (ad.add k) = ⟨ad.block, (ad.add k).off, none⟩ := by
  obtain ⟨h0, inner, ⟨hl, hq⟩, hr⟩ := h
  rcases hq with ⟨h1, _⟩ | ⟨g, off, cap, cur, he, hb, hh, hnc, hcm, hcs, ht⟩
  · omega
  · obtain ⟨he1, rfl, rfl⟩ := Value.slice.inj he
    cases he1
    have hin : inner = xs.map RR.v := by
      apply List.ext_getElem?
      intro j
      rcases Nat.lt_or_ge j xs.length with hj | hj
      · have h2 := hr.2 j _ (List.getElem?_eq_getElem hj)
        have h3 : (inner.drop (j * 1)).take 1 = [xs[j].v] := h2
        rw [Nat.mul_one] at h3
        rw [List.getElem?_map, List.getElem?_eq_getElem hj]
        have h4 : ((inner.drop j).take 1)[0]? = some (xs[j].v) := by rw [h3]; rfl
        rw [List.getElem?_take, if_pos (by omega), List.getElem?_drop] at h4
        simpa using h4
      · rw [List.getElem?_eq_none (by rw [hl, show rrK.sz = 1 from rfl]; omega), List.getElem?_eq_none (by rw [List.length_map]; exact hj)]
    have e1 : (⟨g, off * rrK.sz, none⟩ : Addr).add k = ⟨g, off + k, none⟩ := by rw [Addr.add_lit_, show rrK.sz = 1 from rfl, Nat.mul_one]
    have hbk : Blk w g 29 cur := hh
    rw [e1]
    refine ⟨?_, hbk.frozen _, rfl, rfl⟩
    have hset : Blk (w.setCell ⟨g, off + k, none⟩ r1.v) g 29 (cur.setIfInBounds (off + k) r1.v) := hbk.set_ _ _
    refine ⟨fun j hj => h0 j hj, (xs.set k r1).map RR.v, ?_, Kd.reps_scalar (enc := RR.v) _⟩
    · refine ⟨by rw [List.length_map, show rrK.sz = 1 from rfl, Nat.mul_one], .inr ⟨g, off, c, _, ?_, hb, hset, by rw [List.length_set]; exact hnc, hcm, by rw [Array.size_setIfInBounds]; exact hcs, ?_⟩⟩
      · rw [List.length_set]
      · rw [Array.toList_setIfInBounds, List.map_set, ← hin, ← ht]
        rw [show rrK.sz = 1 from rfl, Nat.mul_one, Nat.mul_one, List.drop_set, if_neg (by omega), List.take_set, List.length_set, Nat.mul_one]
        rw [show off + k - off = k by omega]
theorem RowAt.take_ {r : RR} {l : List TC} (h : RowAt w r l) {m : Nat} (hm : m ≤ l.length) : RowAt w ⟨r.g, m, r.c⟩ (l.take m) := by
  obtain ⟨a, b, c, cur, hh, d, e⟩ := h
  refine ⟨by rw [List.length_take]; exact (Nat.min_eq_left hm).symm, by show m ≤ r.c; omega, c, cur, hh, d, ?_⟩
  show cur.toList.take (m * 3) = _
  rw [rowV_take, ← e, List.take_take, Nat.min_eq_left (by omega)]
theorem row_app_step {ops : Array Oper} {o : Oper} {a : Act} {W : World} {K : Act → World → Prop} {Q : Exit → Act → World → Prop} (hw : Region.wanted o (yielded ops a.tmps) = true) {N : Tmp} (hd : o.dst = some N) (x y : Operand) (ho : o.op = .call { callee := .builtin .append, args := #[x, y], argTypes := #[29, 29] }) {r r2 : RR} {l l2 : List TC} (hx : a.eval x = r.v) (hy : a.eval y = r2.v)
    (h1 : RowAt W r l) (h2 : RowAt W r2 l2) (hpos : 0 < l.length) (hlen : l.length + l2.length ≤ 1000)
    (h : ∀ r' w', RowAt w' r' (l ++ l2) → W.grownBy w' (some r.g) → (r'.g = r.g ∨ r'.g = W.heap.size) → K (a.put (some N) r'.v) w') : if Region.wanted o (yielded ops a.tmps) = true then Oper.wp Tryz.prog o a W K Q else K (a.put o.dst undef) W := by
  obtain ⟨i0, hi, hz0, hz1, hz2⟩ := info_parts infoCellz
  obtain ⟨v', w', hr, hown, hg, hnil, hat⟩ := run_append_own_at (P := Tryz.prog) W 0 29 o.type 32 i0 _ 3 32 Tryz.underlying29 hi hz0 hz1 hz2 rfl (by decide) r.v r.n (rowV l) h1.own ⟨r2.g, 0, none⟩ r2.n r2.c (rowV l2) (by rw [rowV_len, h2.1]) h2.reads (rowV_one l2)
    (by rw [h1.1, h2.1]; unfold maxLen; omega) (by rw [h1.1, h2.1]; omega) (Nat.zero_le _)
  rw [← rowV_append] at hown
  obtain ⟨r', rfl, hra, _, hn⟩ := RowAt.of_own (l := l ++ l2) hown (by rw [h1.1, h2.1, List.length_append]) (by rw [h1.1]; omega)
  rw [if_pos hw]
  unfold Oper.wp execOp
  have hy' : a.eval y = .slice (some ⟨r2.g, 0, none⟩) r2.n r2.c := hy
  simp only [ho, resolve, invoke, builtin, Sem.run_bind, Sem.run_pure, Result.andThen_ok, List.map_toArray, List.map_cons, List.map_nil, hx, hy', hr]
  show K (a.put o.dst _) _
  rw [hd]
  refine h r' w' hra hg ?_
  rcases hat with hat | hat
  · left; injection hat
  · right; injection hat
theorem nodup_set {i : Nat} {r1 : RR} (h : ((L ++ G).map RR.g).Nodup) (hi : i < L.length) (hr : r1.g = L[i].g ∨ ∀ r ∈ L ++ G, r.g ≠ r1.g) : ((L.set i r1 ++ G).map RR.g).Nodup := by
  have e : (L.set i r1 ++ G).map RR.g = ((L ++ G).map RR.g).set i r1.g := by
    rw [← List.set_append_left i r1 hi, List.map_set]
  rw [e]
  rcases hr with hr | hr
  · have : ((L ++ G).map RR.g).set i r1.g = (L ++ G).map RR.g := by
      refine List.ext_getElem? (fun j => ?_)
      rw [List.getElem?_set]
      split
      · rename_i hij
        subst hij
        rw [if_pos (by rw [List.length_map, List.length_append]; omega), List.getElem?_map, List.getElem?_append_left hi, List.getElem?_eq_getElem hi, hr]
        rfl
      · rfl
    rw [this]
    exact h
  · unfold List.Nodup at h ⊢
    rw [List.pairwise_iff_getElem] at h ⊢
    intro a b ha hb hab
    rw [List.length_set] at ha hb
    rw [List.getElem_set, List.getElem_set]
    split
    · rename_i ea
      rw [if_neg (by omega), List.getElem_map]
      exact fun e => hr _ (List.getElem_mem _) e.symm
    · split
      · rw [List.getElem_map]
        exact fun e => hr _ (List.getElem_mem _) e
      · exact h a b ha hb hab
theorem TermO.put_row {ad : Addr} {n c i : Nat} {r1 : RR} {l1 : List TC} (h : TermO P w T s (.slice (some ad) n c) gv bv L G) (hi : i < L.length) (ho : Only (· = L[i].g) w w1) (hat : r1.g = L[i].g ∨ w.heap.size ≤ r1.g) (hr : RowAt w1 r1 l1) (hP : P r1.g) :
    TermO P (w1.setCell (ad.add i) r1.v) T { s with l := s.l.set i l1 } (.slice (some ad) n c) gv bv (L.set i r1) G ∧ Only P w (w1.setCell (ad.add i) r1.v) := by
  have hlen := forall_len h.fl
  obtain ⟨a1, a2, a3, a4⟩ := h.apart
  have hmem : L[i] ∈ L ++ G := List.mem_append_left _ (List.getElem_mem _)
  obtain ⟨lk, hlk⟩ := h.row_lt hmem
  have hob : (Value.slice (some ad) n c).ownBlock = some ad.block := rfl
  have hadT : ad.block ≠ T := fun e => a1 (by rw [hob, e])
  have hadlt : ad.block < w.heap.size := Kd.Q_lt h.ql _ hob
  have keep : ∀ k, k < w.heap.size → k ≠ L[i].g → w1.heap[k]? = w.heap[k]? := fun k hk hne => ho.block k hk hne
  have hq1 : rrK.Q 29 w1 0 P (.slice (some ad) n c) L := q_frame rfl h.ql (fun k hk => keep k (Kd.Q_lt h.ql k hk) (fun e => q_type_ne h.ql hlk (by decide) (e ▸ hk)))
  obtain ⟨hq2, hfz, hbl, hsh⟩ := spine_set hq1 hi r1
  have keep2 : ∀ k, k ≠ ad.block → (w1.setCell (ad.add i) r1.v).heap[k]? = w1.heap[k]? := fun k hk => Below.heap_setCell w1 (ad.add i) r1.v k (by rw [hbl]; exact hk)
  have keep3 : ∀ k, k < w.heap.size → k ≠ L[i].g → k ≠ ad.block → (w1.setCell (ad.add i) r1.v).heap[k]? = w.heap[k]? := fun k h1 h2 h3 => (keep2 k h3).trans (keep k h1 h2)
  have hrowne : ∀ r l, RowAt w r l → r.g ≠ ad.block := fun r l hl e => q_type_ne h.ql hl (by decide) (by rw [hob, e])
  have hr1ne : r1.g ≠ ad.block := by
    rcases hat with e | e
    · rw [e]; exact hrowne _ _ hlk
    · omega
  have hne : ∀ j r, (L ++ G)[j]? = some r → j ≠ i → r.g ≠ L[i].g := fun j r hj hji => by
    have := nodup_get h.nd (i := i) (by rw [List.length_append]; omega) hj hji
    rwa [List.getElem_append_left (by omega)] at this
  refine ⟨⟨h.b.to (keep3 T h.b.lt (a4 _ hmem).symm hadT.symm), h.pt, hq2, q_frame rfl h.qg (fun k hk => keep3 k (Kd.Q_lt h.qg k hk) (fun e => q_type_ne h.qg hlk (by decide) (e ▸ hk)) (fun e => h.ne k (by rw [hob, e]) hk)), h.ne, q_frame rfl h.qb (fun k hk => keep3 k (Kd.Q_lt h.qb k hk) (fun e => q_type_ne h.qb hlk (by decide) (e ▸ hk)) (fun e => q_two h.qb h.ql (by decide) hk (by rw [hob, e]))), ?_, ?_, ?_, ?_⟩, ?_⟩
  · exact all2_set h.fl (fun j r l hj hji hl => hl.to (keep3 r.g hl.lt (hne j r (by rw [List.getElem?_append_left (List.getElem?_eq_some_iff.1 hj).1]; exact hj) hji) (hrowne r l hl))) (hr.to (keep2 r1.g hr1ne))
  · refine forall_imp h.fg (fun r hrm l hl => hl.to (keep3 r.g hl.lt ?_ (hrowne r l hl)))
    obtain ⟨j, hj, rfl⟩ := List.mem_iff_getElem.1 hrm
    refine hne (L.length + j) _ ?_ (by omega)
    rw [List.getElem?_append_right (by omega), Nat.add_sub_cancel_left, List.getElem?_eq_getElem hj]
  · refine nodup_set h.nd hi ?_
    rcases hat with e | e
    · exact .inl e
    · right
      intro r hrm
      obtain ⟨l, hl⟩ := h.row_lt hrm
      have := hl.lt
      omega
  · intro r hrm
    rcases List.mem_append.1 hrm with h1 | h1
    · rcases List.mem_or_eq_of_mem_set h1 with h2 | rfl
      · exact h.pr r (List.mem_append_left _ h2)
      · exact hP
    · exact h.pr r (List.mem_append_right _ h1)
  · exact (ho.mono (fun k _ hk => by rw [hk]; exact h.pr _ hmem)).setCell (.inl (by rw [hbl]; exact h.ql.1 _ hob)) _
theorem TermO.spine_at {ad : Addr} {n c i : Nat} (h : TermO P w T s (.slice (some ad) n c) gv bv L G) (hi : i < L.length) (ho : Only (· = L[i].g) w w1) :
    w1.cell? (ad.add i) = some (L[i].v) ∧ w1.frozen? (ad.add i) = false ∧ ad.add i = ⟨(ad.add i).block, (ad.add i).off, none⟩ := by
  have hmem : L[i] ∈ L ++ G := List.mem_append_left _ (List.getElem_mem _)
  obtain ⟨lk, hlk⟩ := h.row_lt hmem
  have hq1 : rrK.Q 29 w1 0 P (.slice (some ad) n c) L := q_frame rfl h.ql (fun k hk => ho.block k (Kd.Q_lt h.ql k hk) (fun e => q_type_ne h.ql hlk (by decide) (e ▸ hk)))
  obtain ⟨hq2, hfz, hbl, hsh⟩ := spine_set hq1 hi L[i]
  obtain ⟨ad', e, hc, _⟩ := spine_cell hq1 hi
  cases e
  exact ⟨hc, hfz, by rw [hbl]; exact hsh⟩
theorem cell_step_at {Pg : Program} {o : Oper} {a : Act} {w : World} {K : Act → World → Prop} {Q : Exit → Act → World → Prop} {ty : TypeId} {x y : Operand} (ho : o.op = .store ty x y) (hd : o.dst = none) {p : Addr} {u v : Value} (hx : a.eval x = .pointer (some p)) (hy : a.eval y = v)
    (hc : w.cell? p = some u) (hf : w.frozen? p = false) (hp : p = ⟨p.block, p.off, none⟩) (hs : (Pg.info? ty).map (·.size) = some 1) (h1 : v.oneCell' = true) (h : K a (w.setCell p v)) : Oper.wp Pg o a w K Q := by
  obtain ⟨b, f, sp⟩ := p
  injection hp with _ _ hp
  subst hp
  exact cell_step ho hd hx hy hc hf hs h1 h
theorem info_rowc1 : (Tryz.prog.info? 29).map (·.size) = some 1 := by kernel_rfl
theorem TermO.cols_ (h : TermO P w T s lv gv bv L G) (n : Nat) : TermO P (w.setCell ⟨T, 0, none⟩ (.int .i64 n)) T { s with cols := n } lv gv bv L G := h.set_ 0 _ rfl rfl rfl rfl
theorem TermO.pushL {rn : RR} {ln : List TC} (h : TermO P w T s lv gv bv L G) (hrow : RowAt w rn ln) (hfresh : ∀ r ∈ L ++ G, r.g ≠ rn.g) (hPr : P rn.g) (hq : rrK.Q 29 w1 0 P lv1 (L ++ [rn])) (hg : w.grownBy w1 lv.ownBlock) (hat : lv1.ownBlock = lv.ownBlock ∨ ∃ b, lv1.ownBlock = some b ∧ w.heap.size ≤ b) :
    TermO P (w1.setCell ⟨T, 1, none⟩ lv1) T { s with l := s.l ++ [ln] } lv1 gv bv (L ++ [rn]) G ∧ Only P w (w1.setCell ⟨T, 1, none⟩ lv1) := by
  obtain ⟨a1, a2, a3, a4⟩ := h.apart
  have hk : ∀ k, k < w.heap.size → k ≠ T → lv.ownBlock ≠ some k → (w1.setCell ⟨T, 1, none⟩ lv1).heap[k]? = w.heap[k]? := fun k h1 h2 h3 => (Below.heap_setCell w1 ⟨T, 1, none⟩ lv1 k h2).trans (hg.block k h1 (fun e => h3 e.symm))
  have hT : lv1.ownBlock ≠ some T := by
    rcases hat with e | ⟨b, e, hb⟩
    · rw [e]; exact a1
    · rw [e]
      intro e2
      injection e2 with e2
      have := h.b.lt
      omega
  have hrT : rn.g ≠ T := fun e => hrow.ne_blk h.b (by decide) e.symm
  have hrg : ∀ r l, RowAt w r l → r.g ≠ T → RowAt (w1.setCell ⟨T, 1, none⟩ lv1) r l := fun r l hl hne => hl.to (hk r.g hl.lt hne (q_type_ne h.ql hl (by decide)))
  refine ⟨⟨(h.b.to (hg.block T h.b.lt (fun e => a1 e.symm))).set_ 1 lv1, h.pt, q_frame rfl hq (fun k hk1 => Below.heap_setCell w1 ⟨T, 1, none⟩ lv1 k (fun e => hT (by rw [hk1]; exact congrArg some e))), q_frame rfl h.qg (fun k hk1 => hk k (Kd.Q_lt h.qg k hk1) (fun e => a2 (e ▸ hk1)) (fun e => h.ne k e hk1)), fun k hk1 e => ?_, q_frame rfl h.qb (fun k hk1 => hk k (Kd.Q_lt h.qb k hk1) (fun e => a3 (e ▸ hk1)) (q_two h.qb h.ql (by decide) hk1)), ?_, ?_, ?_, ?_⟩, ?_⟩
  · rcases hat with e2 | ⟨b, e2, hb⟩
    · exact h.ne k (by rw [← e2]; exact hk1) e
    · rw [e2] at hk1
      injection hk1 with hk1
      have := Kd.Q_lt h.qg k e
      omega
  · exact all2_app (forall_imp h.fl (fun r hr l hl => hrg r l hl (a4 r (List.mem_append_left _ hr)))) (hrg rn ln hrow hrT)
  · exact forall_imp h.fg (fun r hr l hl => hrg r l hl (a4 r (List.mem_append_right _ hr)))
  · have h2 : ((rn :: (L ++ G)).map RR.g).Nodup := by
      rw [List.map_cons, List.nodup_cons]
      refine ⟨fun hm => ?_, h.nd⟩
      obtain ⟨r, hr1, he⟩ := List.mem_map.1 hm
      exact hfresh r hr1 he
    refine (List.Perm.map RR.g ?_).nodup_iff.1 h2
    rw [List.append_assoc]
    exact (List.perm_middle (a := rn) (l₁ := L) (l₂ := G)).symm
  · intro r hr
    rw [List.append_assoc] at hr
    rcases List.mem_append.1 hr with hr | hr
    · exact h.pr r (List.mem_append_left _ hr)
    · rcases List.mem_append.1 hr with hr | hr
      · rw [List.mem_singleton.1 hr]; exact hPr
      · exact h.pr r (List.mem_append_right _ hr)
  · exact ((Only.refl P w).grown hg (fun g e => .inl (h.ql.1 g e))).setCell (.inl h.pt) lv1
end
end Go.Proofs.YtgifpkjcggnhgaaGreatDoorL

