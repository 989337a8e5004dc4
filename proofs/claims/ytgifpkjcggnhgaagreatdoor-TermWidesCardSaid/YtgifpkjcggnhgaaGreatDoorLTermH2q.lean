/- Parts of the proof of the law that the last file states; declarations that nothing mentions are left out by a program. No conditions. -/
import Derived.Test.YtgifpkjcggnhgaaGreatDoorLTermW5q
set_option linter.unusedVariables false
set_option linter.unusedSimpArgs false
namespace Go.Proofs.YtgifpkjcggnhgaaGreatDoorL
open Go Go.RowKit Go.Proofs.YtgifpkjcggnhgaaGreatDoorW.PrintWords
theorem all2_app {α β : Type} {R : α → β → Prop} : ∀ {l : List α} {m : List β} {a : α} {b : β}, All2 R l m → R a b → All2 R (l ++ [a]) (m ++ [b])
  | _, _, _, _, .nil, h => .cons h .nil
  | _, _, _, _, .cons h t, k => .cons h (all2_app t k)
theorem all2_drop {α β : Type} {R : α → β → Prop} : ∀ {l : List α} {m : List β} (n : Nat), All2 R l m → All2 R (l.drop n) (m.drop n)
  | _, _, 0, h => h
  | _, _, n + 1, .nil => by simpa using All2.nil
  | _, _, n + 1, .cons h t => all2_drop n t
theorem all2_take {α β : Type} {R : α → β → Prop} : ∀ {l : List α} {m : List β} (n : Nat), All2 R l m → All2 R (l.take n) (m.take n)
  | _, _, 0, h => by simpa using All2.nil
  | _, _, n + 1, .nil => by simpa using All2.nil
  | _, _, n + 1, .cons h t => .cons h (all2_take n t)
structure TermY (P : Nat → Prop) (w : World) (T : Nat) (s : Tm) (lv gv bv : Value) (L G : List RR) : Prop where
  b : Blk w T 57 (cellsT s lv gv bv)
  pt : P T
  ql : rrK.Q 29 w 0 P lv L
  qg : rrK.Q 29 w 0 P gv G
  ne : ∀ k, lv.ownBlock = some k → gv.ownBlock ≠ some k
  qb : (Kd.int .u8).Q 5 w 0 P bv (nbL s.b)
  fl : All2 (RowAt w) L s.l
  fg : All2 (RowAt w) G s.gone
  pr : ∀ r ∈ L ++ G, P r.g
section
variable {P : Nat → Prop} {w w' w1 : World} {T : Nat} {s s' : Tm} {lv gv bv lv1 gv1 : Value} {L G L1 : List RR}
theorem TermO.y (h : TermO P w T s lv gv bv L G) : TermY P w T s lv gv bv L G := ⟨h.b, h.pt, h.ql, h.qg, h.ne, h.qb, h.fl, h.fg, h.pr⟩
theorem TermY.o (h : TermY P w T s lv gv bv L G) (hn : ((L ++ G).map RR.g).Nodup) : TermO P w T s lv gv bv L G := ⟨h.b, h.pt, h.ql, h.qg, h.ne, h.qb, h.fl, h.fg, hn, h.pr⟩
theorem q_two {α β : Type} {d : Kd α} {d' : Kd β} {e e' base base' : Nat} {P P' : Nat → Prop} {v u : Value} {xs : List α} {ys : List β} (h : d.Q e w base P v xs) (h' : d'.Q e' w base' P' u ys) (he : e ≠ e') {k : Nat} (hk : v.ownBlock = some k) : u.ownBlock ≠ some k := by
  intro hu
  obtain ⟨c1, h1⟩ := Kd.Q_typed h k hk
  obtain ⟨c2, h2⟩ := Kd.Q_typed h' k hu
  rw [h1] at h2
  injection h2 with h2
  injection h2 with _ h2
  exact he h2
theorem TermY.row_at (h : TermY P w T s lv gv bv L G) {r : RR} (hr : r ∈ L ++ G) : ∃ l, RowAt w r l := by
  rcases List.mem_append.1 hr with hr | hr
  · obtain ⟨l, _, h1⟩ := forall_mem h.fl hr
    exact ⟨l, h1⟩
  · obtain ⟨l, _, h1⟩ := forall_mem h.fg hr
    exact ⟨l, h1⟩
theorem TermY.apart (h : TermY P w T s lv gv bv L G) : lv.ownBlock ≠ some T ∧ gv.ownBlock ≠ some T ∧ bv.ownBlock ≠ some T ∧ ∀ r ∈ L ++ G, r.g ≠ T := by
  refine ⟨fun e => Kd.Q_ne h.ql h.b (by decide) e.symm, fun e => Kd.Q_ne h.qg h.b (by decide) e.symm, fun e => Kd.Q_ne h.qb h.b (by decide) e.symm, fun r hr => ?_⟩
  obtain ⟨l, hl⟩ := h.row_at hr
  exact fun e => hl.ne_blk h.b (by decide) e.symm
theorem TermY.all (h : TermY P w T s lv gv bv L G) : (w.cell? ⟨T, 0, none⟩ = some (.int .i64 s.cols) ∧ w.cell? ⟨T, 1, none⟩ = some lv ∧ w.cell? ⟨T, 2, none⟩ = some gv ∧ w.cell? ⟨T, 3, none⟩ = some (.int .i64 s.off) ∧ w.cell? ⟨T, 4, none⟩ = some (.int .i64 s.row) ∧ w.cell? ⟨T, 5, none⟩ = some (.int .i64 s.col) ∧ w.cell? ⟨T, 6, none⟩ = some (.bool s.full) ∧ w.cell? ⟨T, 7, none⟩ = some (.bool s.dim) ∧ w.cell? ⟨T, 8, none⟩ = some (.int .i64 s.inn) ∧ w.cell? ⟨T, 9, none⟩ = some (.string s.seq) ∧ w.cell? ⟨T, 10, none⟩ = some bv) ∧ ∀ i, w.frozen? ⟨T, i, none⟩ = false :=
  ⟨⟨h.b.cell 0 rfl, h.b.cell 1 rfl, h.b.cell 2 rfl, h.b.cell 3 rfl, h.b.cell 4 rfl, h.b.cell 5 rfl, h.b.cell 6 rfl, h.b.cell 7 rfl, h.b.cell 8 rfl, h.b.cell 9 rfl, h.b.cell 10 rfl⟩, fun i => h.b.frozen i⟩
theorem TermY.below (h : TermY P w T s lv gv bv L G) (hb : Below w.heap.size w w') : TermY P w' T s lv gv bv L G :=
  ⟨h.b.to (hb.block T h.b.lt), h.pt, Kd.Q_below h.ql hb, Kd.Q_below h.qg hb, h.ne, Kd.Q_below h.qb hb, forall_imp h.fl (fun r _ l hl => hl.to (hb.block r.g hl.lt)), forall_imp h.fg (fun r _ l hl => hl.to (hb.block r.g hl.lt)), h.pr⟩
theorem TermY.set_ (h : TermY P w T s lv gv bv L G) (i : Nat) (u : Value) (he : (cellsT s lv gv bv).setIfInBounds i u = cellsT s' lv gv bv) (hl : s'.l = s.l) (hg : s'.gone = s.gone) (hbb : s'.b = s.b) : TermY P (w.setCell ⟨T, i, none⟩ u) T s' lv gv bv L G := by
  obtain ⟨a1, a2, a3, a4⟩ := h.apart
  have hk : ∀ k, k ≠ T → (w.setCell ⟨T, i, none⟩ u).heap[k]? = w.heap[k]? := fun k hk => Below.heap_setCell w ⟨T, i, none⟩ u k hk
  have q : ∀ {α : Type} {d : Kd α} {e : Nat} {v : Value} {xs : List α}, d.E = [] → d.Q e w 0 P v xs → v.ownBlock ≠ some T → d.Q e (w.setCell ⟨T, i, none⟩ u) 0 P v xs := fun hE hq hn => q_frame hE hq (fun k hk1 => hk k (fun e => hn (e ▸ hk1)))
  refine ⟨by rw [← he]; exact h.b.set_ i u, h.pt, q rfl h.ql a1, q rfl h.qg a2, h.ne, by rw [hbb]; exact q rfl h.qb a3, ?_, ?_, h.pr⟩
  · rw [hl]
    exact forall_imp h.fl (fun r hr l hl => hl.to (hk r.g (a4 r (List.mem_append_left _ hr))))
  · rw [hg]
    exact forall_imp h.fg (fun r hr l hl => hl.to (hk r.g (a4 r (List.mem_append_right _ hr))))
theorem TermY.off_ (h : TermY P w T s lv gv bv L G) {n : Nat} (hn : s.off = n) : TermY P (w.setCell ⟨T, 3, none⟩ (.int .i64 ((n : Int) + 1))) T { s with off := n + 1 } lv gv bv L G := h.set_ 3 _ rfl rfl rfl rfl
theorem spine_cells {ad : Addr} {n c base : Nat} {xs : List RR} (h : rrK.Q 29 w base P (.slice (some ad) n c) xs) : ∀ (j : Nat) (u : Value), (xs.map RR.v)[j]? = some u → w.cell? (ad.add j) = some u := by
  intro j u hj
  rw [List.getElem?_map] at hj
  obtain ⟨x, hx, rfl⟩ := Option.map_eq_some_iff.1 hj
  obtain ⟨hi, rfl⟩ := List.getElem?_eq_some_iff.1 hx
  obtain ⟨ad', e, hc, _⟩ := spine_cell (Kd.Q_lower h (Nat.zero_le _)) hi
  cases e
  exact hc
theorem spine_own {v : Value} {base : Nat} {xs : List RR} (h : w.ownsRow base 29 1 v xs.length (xs.map RR.v)) (hP : ∀ k, base ≤ k → P k) : rrK.Q 29 w base P v xs := by
  refine Kd.Q_of_R (Kd.R_of_own (enc := RR.v) (h1 := fun _ => rfl) h (fun k hk => hP k ?_))
  exact Kd.R_base (Kd.R_of_own (enc := RR.v) (h1 := fun _ => rfl) (ok := fun _ => True) h (fun _ _ => trivial)) k hk
theorem TermY.push {r0 : RR} {l0 : List TC} (h : TermY P w T s lv gv bv L G) (hr0 : r0 ∈ L) (hrow : RowAt w r0 l0) (hq : rrK.Q 29 w1 0 P gv1 (G ++ [r0])) (hg : w.grownBy w1 gv.ownBlock) (hat : gv1.ownBlock = gv.ownBlock ∨ ∃ b, gv1.ownBlock = some b ∧ w.heap.size ≤ b) :
    TermY P (w1.setCell ⟨T, 2, none⟩ gv1) T { s with gone := s.gone ++ [l0] } lv gv1 bv L (G ++ [r0]) ∧ Only P w (w1.setCell ⟨T, 2, none⟩ gv1) := by
  obtain ⟨a1, a2, a3, a4⟩ := h.apart
  have hk : ∀ k, k < w.heap.size → k ≠ T → gv.ownBlock ≠ some k → (w1.setCell ⟨T, 2, none⟩ gv1).heap[k]? = w.heap[k]? := fun k h1 h2 h3 => (Below.heap_setCell w1 ⟨T, 2, none⟩ gv1 k h2).trans (hg.block k h1 (fun e => h3 e.symm))
  have hT : gv1.ownBlock ≠ some T := by
    rcases hat with e | ⟨b, e, hb⟩
    · rw [e]; exact a2
    · rw [e]
      intro e2
      injection e2 with e2
      have := h.b.lt
      omega
  have hrg : ∀ r ∈ L ++ G, ∀ l, RowAt w r l → RowAt (w1.setCell ⟨T, 2, none⟩ gv1) r l := fun r hr l hl => hl.to (hk r.g hl.lt (a4 r hr) (q_type_ne h.qg hl (by decide)))
  refine ⟨⟨(h.b.to (hg.block T h.b.lt (fun e => a2 e.symm))).set_ 2 gv1, h.pt, q_frame rfl h.ql (fun k hk1 => hk k (Kd.Q_lt h.ql k hk1) (fun e => a1 (e ▸ hk1)) (h.ne k hk1)), q_frame rfl hq (fun k hk1 => Below.heap_setCell w1 ⟨T, 2, none⟩ gv1 k (fun e => hT (by rw [hk1]; exact congrArg some e))), fun k hk1 => ?_, q_frame rfl h.qb (fun k hk1 => hk k (Kd.Q_lt h.qb k hk1) (fun e => a3 (e ▸ hk1)) (q_two h.qb h.qg (by decide) hk1)), ?_, ?_, ?_⟩, ?_⟩
  · rcases hat with e | ⟨b, e, hb⟩
    · rw [e]; exact h.ne k hk1
    · rw [e]
      intro e2
      injection e2 with e2
      have := Kd.Q_lt h.ql k hk1
      omega
  · exact forall_imp h.fl (fun r hr l hl => hrg r (List.mem_append_left _ hr) l hl)
  · exact all2_app (forall_imp h.fg (fun r hr l hl => hrg r (List.mem_append_right _ hr) l hl)) (hrg r0 (List.mem_append_left _ hr0) l0 hrow)
  · intro r hr
    rw [← List.append_assoc] at hr
    rcases List.mem_append.1 hr with hr | hr
    · exact h.pr r hr
    · rw [List.mem_singleton.1 hr]
      exact h.pr r0 (List.mem_append_left _ hr0)
  · refine ((Only.refl P w).grown hg (fun g e => .inl (h.qg.1 g e))).setCell (.inl h.pt) gv1
theorem TermY.cutG {A : Option Addr} {n c m : Nat} (h : TermY P w T s lv (.slice A n c) bv L G) (hm : m ≤ G.length) :
    TermY P (w.setCell ⟨T, 2, none⟩ (.slice (if c = m then A else A.map (·.add (m * 1))) (n - m) (c - m))) T { s with gone := s.gone.drop m } lv (.slice (if c = m then A else A.map (·.add (m * 1))) (n - m) (c - m)) bv L (G.drop m) := by
  obtain ⟨a1, a2, a3, a4⟩ := h.apart
  have hq := Kd.Q_drop h.qg hm
  have hob : (Value.slice (if c = m then A else A.map (·.add (m * 1))) (n - m) (c - m)).ownBlock = (Value.slice A n c).ownBlock := by
    split
    · cases A <;> rfl
    · cases A with
      | none => rfl
      | some a => simp [Value.ownBlock]; unfold Addr.add; split <;> rfl
  rw [show rrK.sz = 1 from rfl] at hq
  generalize (Value.slice (if c = m then A else A.map (·.add (m * 1))) (n - m) (c - m)) = u at *
  have hk : ∀ k, k ≠ T → (w.setCell ⟨T, 2, none⟩ u).heap[k]? = w.heap[k]? := fun k hk => Below.heap_setCell w ⟨T, 2, none⟩ u k hk
  have q : ∀ {α : Type} {d : Kd α} {e : Nat} {v : Value} {xs : List α}, d.E = [] → d.Q e w 0 P v xs → v.ownBlock ≠ some T → d.Q e (w.setCell ⟨T, 2, none⟩ u) 0 P v xs := fun hE hq hn => q_frame hE hq (fun k hk1 => hk k (fun e => hn (e ▸ hk1)))
  refine ⟨h.b.set_ 2 u, h.pt, q rfl h.ql a1, q rfl hq (by rw [hob]; exact a2), fun k hk1 => by rw [hob]; exact h.ne k hk1, q rfl h.qb a3, ?_, ?_, ?_⟩
  · exact forall_imp h.fl (fun r hr l hl => hl.to (hk r.g (a4 r (List.mem_append_left _ hr))))
  · exact all2_drop m (forall_imp h.fg (fun r hr l hl => hl.to (hk r.g (a4 r (List.mem_append_right _ hr)))))
  · intro r hr
    rcases List.mem_append.1 hr with hr | hr
    · exact h.pr r (List.mem_append_left _ hr)
    · exact h.pr r (List.mem_append_right _ (List.mem_of_mem_drop hr))
theorem TermY.cutL {A : Option Addr} {n c m : Nat} (h : TermY P w T s (.slice A n c) gv bv L G) (hm : m ≤ L.length) :
    TermY P (w.setCell ⟨T, 1, none⟩ (.slice (if c = m then A else A.map (·.add (m * 1))) (n - m) (c - m))) T { s with l := s.l.drop m } (.slice (if c = m then A else A.map (·.add (m * 1))) (n - m) (c - m)) gv bv (L.drop m) G := by
  obtain ⟨a1, a2, a3, a4⟩ := h.apart
  have hq := Kd.Q_drop h.ql hm
  have hob : (Value.slice (if c = m then A else A.map (·.add (m * 1))) (n - m) (c - m)).ownBlock = (Value.slice A n c).ownBlock := by
    split
    · cases A <;> rfl
    · cases A with
      | none => rfl
      | some a => simp [Value.ownBlock]; unfold Addr.add; split <;> rfl
  rw [show rrK.sz = 1 from rfl] at hq
  generalize (Value.slice (if c = m then A else A.map (·.add (m * 1))) (n - m) (c - m)) = u at *
  have hk : ∀ k, k ≠ T → (w.setCell ⟨T, 1, none⟩ u).heap[k]? = w.heap[k]? := fun k hk => Below.heap_setCell w ⟨T, 1, none⟩ u k hk
  have q : ∀ {α : Type} {d : Kd α} {e : Nat} {v : Value} {xs : List α}, d.E = [] → d.Q e w 0 P v xs → v.ownBlock ≠ some T → d.Q e (w.setCell ⟨T, 1, none⟩ u) 0 P v xs := fun hE hq hn => q_frame hE hq (fun k hk1 => hk k (fun e => hn (e ▸ hk1)))
  refine ⟨h.b.set_ 1 u, h.pt, q rfl hq (by rw [hob]; exact a1), q rfl h.qg a2, fun k hk1 => h.ne k (by rw [← hob]; exact hk1), q rfl h.qb a3, ?_, ?_, ?_⟩
  · exact all2_drop m (forall_imp h.fl (fun r hr l hl => hl.to (hk r.g (a4 r (List.mem_append_left _ hr)))))
  · exact forall_imp h.fg (fun r hr l hl => hl.to (hk r.g (a4 r (List.mem_append_right _ hr))))
  · intro r hr
    rcases List.mem_append.1 hr with hr | hr
    · exact h.pr r (List.mem_append_left _ (List.mem_of_mem_drop hr))
    · exact h.pr r (List.mem_append_right _ hr)
theorem TermY.newL {l1 : List (List TC)} (h : TermY P w T s lv gv bv L G) (hb : Below w.heap.size w w1) (hq : rrK.Q 29 w1 0 P lv1 L1) (hn : ∀ k, lv1.ownBlock = some k → w.heap.size ≤ k) (hf : All2 (RowAt w1) L1 l1) (hpr : ∀ r ∈ L1, P r.g) :
    TermY P (w1.setCell ⟨T, 1, none⟩ lv1) T { s with l := l1 } lv1 gv bv L1 G ∧ Only P w (w1.setCell ⟨T, 1, none⟩ lv1) := by
  have h1 := h.below hb
  obtain ⟨a1, a2, a3, a4⟩ := h1.apart
  have hk : ∀ k, k ≠ T → (w1.setCell ⟨T, 1, none⟩ lv1).heap[k]? = w1.heap[k]? := fun k hk => Below.heap_setCell w1 ⟨T, 1, none⟩ lv1 k hk
  have q : ∀ {α : Type} {d : Kd α} {e : Nat} {v : Value} {xs : List α}, d.E = [] → d.Q e w1 0 P v xs → v.ownBlock ≠ some T → d.Q e (w1.setCell ⟨T, 1, none⟩ lv1) 0 P v xs := fun hE hq hn => q_frame hE hq (fun k hk1 => hk k (fun e => hn (e ▸ hk1)))
  refine ⟨⟨h1.b.set_ 1 lv1, h.pt, q rfl hq (fun e => ?_), q rfl h1.qg a2, fun k hk1 e => ?_, q rfl h1.qb a3, ?_, ?_, ?_⟩, ?_⟩
  · have := hn T e
    have := h.b.lt
    omega
  · have := hn k hk1
    have := Kd.Q_lt h.qg k e
    omega
  · exact forall_imp hf (fun r hr l hl => hl.to (hk r.g (fun e => hl.ne_blk h1.b (by decide) e.symm)))
  · exact forall_imp h1.fg (fun r hr l hl => hl.to (hk r.g (a4 r (List.mem_append_right _ hr))))
  · intro r hr
    rcases List.mem_append.1 hr with hr | hr
    · exact hpr r hr
    · exact h.pr r (List.mem_append_right _ hr)
  · exact (Only.of_below hb).setCell (.inl h.pt) lv1
theorem cell_step {P : Program} {o : Oper} {a : Act} {w : World} {K : Act → World → Prop} {Q : Exit → Act → World → Prop} {ty : TypeId} {x y : Operand} (ho : o.op = .store ty x y) (hd : o.dst = none) {g i : Nat} {u v : Value} (hx : a.eval x = .pointer (some ⟨g, i, none⟩)) (hy : a.eval y = v)
    (hc : w.cell? ⟨g, i, none⟩ = some u) (hf : w.frozen? ⟨g, i, none⟩ = false) (hs : (P.info? ty).map (·.size) = some 1) (h1 : v.oneCell' = true) (h : K a (w.setCell ⟨g, i, none⟩ v)) : Oper.wp P o a w K Q := by
  have hcs : v.cells = #[v] := by cases v <;> first | rfl | cases h1
  have hr : (storeVar ty ⟨g, i, none⟩ v).run P w = .ok () (w.setCell ⟨g, i, none⟩ v) := by
    cases hq : P.info? ty with
    | none => simp [hq] at hs
    | some ii =>
      have hs' : ii.size = 1 := by simpa [hq] using hs
      simp [storeVar, sizeOf, typeInfo, hq, hcs, hs', storeCells, Sem.run_bind, Addr.add]
      rw [run_store P _ _ v _ h1, hc]
      simp [hf]
  unfold Oper.wp execOp
  simp only [ho, hx, hy, Instr.storeAt, Instr.sureAddr, Sem.run_bind, Sem.run_pure, Result.andThen_ok, hr]
  show K (a.put o.dst undef) _
  rw [hd]
  exact h
theorem build1_step {ops : Array Oper} {o : Oper} {a : Act} {W : World} {K : Act → World → Prop} {Q : Exit → Act → World → Prop} (hw : Region.wanted o (yielded ops a.tmps) = true) {N : Tmp} (hd : o.dst = some N) {v : Value} {e : TypeId} (hrun : (execOp a.eval o).run Tryz.prog W = .ok (.value (.slice (some ⟨W.heap.size, 0, none⟩) 1 1)) (W.alloc (.cells #[v] e)))
    (h : K (a.put (some N) (.slice (some ⟨W.heap.size, 0, none⟩) 1 1)) (W.alloc (.cells #[v] e))) : if Region.wanted o (yielded ops a.tmps) = true then Oper.wp Tryz.prog o a W K Q else K (a.put o.dst undef) W := by
  rw [if_pos hw]
  unfold Oper.wp
  rw [hrun]
  show K (a.put o.dst _) _
  rw [hd]
  exact h
theorem pure_step {P : Program} {ops : Array Oper} {o : Oper} {a : Act} {W : World} {K : Act → World → Prop} {Q : Exit → Act → World → Prop} (hw : Region.wanted o (yielded ops a.tmps) = true) {v : Value} (hrun : (execOp a.eval o).run P W = .ok (.value v) W) (h : K (a.put o.dst v) W) : if Region.wanted o (yielded ops a.tmps) = true then Oper.wp P o a W K Q else K (a.put o.dst undef) W := by
  rw [if_pos hw]
  unfold Oper.wp
  rw [hrun]
  exact h
theorem info_row1 : (Tryz.prog.info? 55).map (·.size) = some 1 := by kernel_rfl
end
end Go.Proofs.YtgifpkjcggnhgaaGreatDoorL

