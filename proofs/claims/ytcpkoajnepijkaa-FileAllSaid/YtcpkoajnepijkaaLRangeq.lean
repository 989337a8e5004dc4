/- Parts of the proof of the law that the last file states; declarations that nothing mentions are left out by a program. No conditions. -/
import Derived.Maps.RangeRun
import Derived.Maps.RangeWalk
import Derived.Test.YtcpkoajnepijkaaLHeapq
set_option linter.unusedVariables false
set_option linter.unusedSimpArgs false
namespace Go.Proofs.YtcpkoajnepijkaaL
open Go.RowKit Go.MapKept
open Go.ChangeMaps (setBlock)
theorem filter_erase : ∀ (L : List MapEntry) (_ : (L.map (·.born)).Nodup) (j : Nat) (hj : j < L.length), L.filter (fun x => !(x.born == L[j].born)) = L.eraseIdx j
  | [], _, j, hj => by simp at hj
  | x :: L, hn, 0, hj => by
    rw [List.map_cons, List.nodup_cons] at hn
    simp only [List.getElem_cons_zero, List.eraseIdx_cons_zero]
    rw [List.filter_cons_of_neg (by simp)]
    refine List.filter_eq_self.2 (fun y hy => ?_)
    have : y.born ≠ x.born := fun e => hn.1 (e ▸ List.mem_map.2 ⟨y, hy, rfl⟩)
    simp [this]
  | x :: L, hn, j + 1, hj => by
    have hn' := hn
    rw [List.map_cons, List.nodup_cons] at hn
    simp only [List.getElem_cons_succ, List.eraseIdx_cons_succ]
    have hj' : j < L.length := by simpa using hj
    have : x.born ≠ L[j].born := fun e => hn.1 (e ▸ List.mem_map.2 ⟨L[j], List.getElem_mem hj', rfl⟩)
    rw [List.filter_cons_of_pos (by simp [this]), filter_erase L hn.2 j hj']
theorem map_eraseIdx {α β : Type} (f : α → β) : ∀ (L : List α) (j : Nat), (L.eraseIdx j).map f = (L.map f).eraseIdx j
  | [], _ => by simp
  | _ :: _, 0 => by simp
  | x :: L, j + 1 => by simp [map_eraseIdx f L j]
theorem leftOf_push (es : Array MapEntry) (seen : Array Nat) (b : Nat) : (leftOf es (seen.push b)).toList = (leftOf es seen).toList.filter (fun x => !(x.born == b)) := by
  simp only [leftOf, Array.toList_filter, List.filter_filter]
  congr 1
  funext x
  simp only [Array.contains_push]
  cases seen.contains x.born <;> simp [Bool.beq_comm]
def Iter (w : World) (r M : Nat) (l left : List (ByteArray × Value)) : Prop :=
  ∃ es clock seen c0 since, w.heap[M]? = some (.map es clock) ∧ Stamped es clock ∧ es.toList.map (fun e => (e.key, e.val)) = l.map (fun p => (Value.string p.1, p.2)) ∧ w.heap[r]? = some (.mapIter (some M) since seen c0) ∧
    (∀ x ∈ es.toList, x.born < since) ∧ since ≤ c0 ∧ since ≤ clock ∧ (leftOf es seen).toList.map (fun e => (e.key, e.val)) = left.map (fun p => (Value.string p.1, p.2))
section
variable {P : Program} {w w' : World} {r M : Nat} {l left : List (ByteArray × Value)} {T k e : TypeId}
theorem Iter.lt (h : Iter w r M l left) : r < w.heap.size := by
  obtain ⟨es, clock, seen, c0, since, _, _, _, h, _⟩ := h
  exact (Array.getElem?_eq_some_iff.1 h).1
theorem Iter.map (h : Iter w r M l left) : MapStr w M l := by
  obtain ⟨es, clock, seen, c0, since, h1, h2, h3, _⟩ := h
  exact ⟨es, clock, h1, h2, h3⟩
theorem Iter.to (h : Iter w r M l left) (h1 : w'.heap[r]? = w.heap[r]?) (h2 : w'.heap[M]? = w.heap[M]?) : Iter w' r M l left := by
  obtain ⟨es, clock, seen, c0, since, a1, a2, a3, a4, a5⟩ := h
  exact ⟨es, clock, seen, c0, since, h2.trans a1, a2, a3, h1.trans a4, a5⟩
theorem Iter.ne_blk {g t : Nat} {cs : Array Value} (h : Iter w r M l left) (hb : Blk w g t cs) : r ≠ g := by
  obtain ⟨es, clock, seen, c0, since, a1, a2, a3, a4, a5⟩ := h
  intro e
  subst e
  rw [Blk, a4] at hb
  cases hb
theorem Iter.not_T5 (h : Iter w r M l left) : ¬ ∃ cells fr, w.heap[r]? = some (.cells cells 5 fr) := by
  obtain ⟨es, clock, seen, c0, since, a1, a2, a3, a4, a5⟩ := h
  rintro ⟨c, fr, hh⟩
  rw [a4] at hh
  cases hh
theorem Iter.ne_map (h : Iter w r M l left) : r ≠ M := by
  obtain ⟨es, clock, seen, c0, since, a1, a2, a3, a4, a5⟩ := h
  intro e
  subst e
  rw [a4] at a1
  cases a1
theorem MapStr.nodup (h : MapStr w M l) : (l.map (·.1)).Nodup := by
  obtain ⟨es, clock, _, ⟨_, _, h2⟩, h3⟩ := h
  have e1 : es.toList.map (·.key) = (l.map (·.1)).map Value.string := by
    have := congrArg (List.map Prod.fst) h3
    simpa [List.map_map, Function.comp_def] using this
  rw [e1] at h2
  refine (List.pairwise_map.1 h2).imp (fun hne e => hne (congrArg _ e))
theorem MapStr.range (h : MapStr w M l) (hT : P.underlying T = some (.map k e)) : ∃ o, (Instr.range T (.map (some M))).run P w = .ok (.pointer (some ⟨w.heap.size, 0, none⟩)) (w.alloc o) ∧ Iter (w.alloc o) w.heap.size M l l := by
  have hlt := h.lt
  obtain ⟨es, clock, hb, hs, hl⟩ := h
  refine ⟨_, run_range_map w T k e M es clock hT hb, es, clock, #[], clock, clock, ((MapKept.heap_alloc w _).2 M hlt).trans hb, hs, hl, (MapKept.heap_alloc w _).1, hs.1, Nat.le_refl _, Nat.le_refl _, ?_⟩
  have : leftOf es #[] = es := by simp [leftOf]
  rw [this]
  exact hl
theorem Iter.next (h : Iter w r M l left) (ty : TypeId) :
    (left = [] ∧ (Instr.next (.pointer (some ⟨r, 0, none⟩)) false ty).run P w = .ok (.tuple #[.bool false]) w) ∨
    ∃ (j : Nat) (hj : j < left.length) (w' : World), (Instr.next (.pointer (some ⟨r, 0, none⟩)) false ty).run P w = .ok (.tuple #[.bool true, .string left[j].1, left[j].2]) w' ∧ Iter w' r M l (left.eraseIdx j) ∧ Only (· = r) w w' ∧ w'.heap.size = w.heap.size ∧
      (Instr.entry (.pointer (some ⟨r, 0, none⟩))).run P w' = .ok (.tuple #[.string left[j].1, left[j].2]) w' := by
  have hrM := h.ne_map
  have hrl := h.lt
  obtain ⟨es, clock, seen, c0, since, a1, a2, a3, a4, a5, a6, a7, a8⟩ := h
  rcases run_next_at (P := P) w ty r M since c0 seen es clock a4 a1 a5 a6 with ⟨h0, hrun⟩ | ⟨x, hx, w1, hw1, hrun⟩
  · left
    have h1 : (leftOf es seen) = #[] := Array.eq_empty_of_size_eq_zero h0
    rw [h1] at a8
    exact ⟨by simpa using a8.symm, hrun⟩
  · right
    obtain ⟨j, hj, hxj⟩ := List.getElem_of_mem hx
    have hlen : (leftOf es seen).toList.length = left.length := by simpa using congrArg List.length a8
    have hjl : j < left.length := by omega
    have hkv : (x.key, x.val) = (Value.string left[j].1, left[j].2) := by
      have e1 : ((leftOf es seen).toList.map (fun e => (e.key, e.val)))[j]? = some (x.key, x.val) := by rw [List.getElem?_map, List.getElem?_eq_getElem hj, hxj]; rfl
      rw [a8, List.getElem?_map, List.getElem?_eq_getElem hjl] at e1
      exact (Option.some.inj e1).symm
    injection hkv with hk hv
    rw [hk, hv] at hrun
    have hh : w1.heap = w.heap := by rcases hw1 with rfl | rfl <;> rfl
    have hset : ∀ i, i ≠ r → (setBlock w1 r (.mapIter (some M) since (seen.push x.born) clock)).heap[i]? = w.heap[i]? := fun i hi => by
      unfold setBlock
      simp only
      rw [Array.getElem?_setIfInBounds_ne (Ne.symm hi), hh]
    have hsame : (setBlock w1 r (.mapIter (some M) since (seen.push x.born) clock)).heap[r]? = some (.mapIter (some M) since (seen.push x.born) clock) := by
      unfold setBlock
      simp only
      rw [Array.getElem?_setIfInBounds_self_of_lt (by rw [hh]; exact hrl)]
    have hM := (hset M (Ne.symm hrM)).trans a1
    have hes : ((leftOf es seen).toList.map (·.born)).Nodup := by
      refine List.Nodup.sublist (List.Sublist.map _ ?_) a2.2.1
      simp only [leftOf, Array.toList_filter]
      exact List.filter_sublist
    refine ⟨j, hjl, _, hrun, ⟨es, clock, seen.push x.born, clock, since, hM, a2, a3, hsame, a5, a7, a7, ?_⟩, ⟨?_, ?_, ?_, ?_, fun i _ hi => hset i hi⟩, ?_, ?_⟩
    · rw [leftOf_push, ← hxj, filter_erase _ hes j hj, map_eraseIdx, map_eraseIdx, a8]
    · rcases hw1 with rfl | rfl <;> rfl
    · rcases hw1 with rfl | rfl <;> rfl
    · rcases hw1 with rfl | rfl <;> rfl
    · simp [setBlock, hh]
    · simp [setBlock, hh]
    · have hxe : x ∈ es.toList := (mem_left hx).1
      have := run_entry_at (P := P) (setBlock w1 r (.mapIter (some M) since (seen.push x.born) clock)) r M since seen es clock x hsame hM hxe a2.2.1
      rw [hk, hv] at this
      exact this
theorem wpList_range_str (h : MapStr w M l) {ops : Array Oper} {rest : List Oper} {o : Oper} {a : Act} {Q : Exit → Act → World → Prop}
    (hg : o.guard = none) (m : Operand) (hop : o.op = Op.range T m) (hT : P.underlying T = some (.map k e)) (hm : a.eval m = .map (some M))
    (hK : ∀ o', Iter (w.alloc o') w.heap.size M l l → wpList P ops Q rest (a.put o.dst (.pointer (some ⟨w.heap.size, 0, none⟩))) (w.alloc o')) :
    wpList P ops Q (o :: rest) a w := by
  refine wpList_plain hg fun K' hK' => ?_
  obtain ⟨o', hrun, r1⟩ := h.range hT
  unfold Oper.wp
  simp [execOp, hop, hm, hrun, Result.andThen]
  exact hK' _ _ (hK o' r1)
theorem wpList_next_str (h : Iter w r M l left) {ops : Array Oper} {rest : List Oper} {o : Oper} {a : Act} {Q : Exit → Act → World → Prop}
    (hg : o.guard = none) (it : Operand) (hop : o.op = Op.next it false) (hit : a.eval it = .pointer (some ⟨r, 0, none⟩))
    (hDone : left = [] → wpList P ops Q rest (a.put o.dst (.tuple #[.bool false])) w)
    (hMore : ∀ (j : Nat) (hj : j < left.length) (w' : World), Iter w' r M l (left.eraseIdx j) → Only (· = r) w w' → w'.heap.size = w.heap.size →
      (Instr.entry (.pointer (some ⟨r, 0, none⟩))).run P w' = .ok (.tuple #[.string left[j].1, left[j].2]) w' → wpList P ops Q rest (a.put o.dst (.tuple #[.bool true, .string left[j].1, left[j].2])) w') :
    wpList P ops Q (o :: rest) a w := by
  refine wpList_plain hg fun K' hK' => ?_
  unfold Oper.wp execOp
  simp only [hop, hit]
  rcases Iter.next (P := P) h o.type with ⟨h0, hrun⟩ | ⟨j, hj, w', hrun, r1, r2, r3, r4⟩
  · simp [hrun, Result.andThen]
    exact hK' _ _ (hDone h0)
  · simp [hrun, Result.andThen]
    exact hK' _ _ (hMore j hj w' r1 r2 r3 r4)
end
end Go.Proofs.YtcpkoajnepijkaaL

