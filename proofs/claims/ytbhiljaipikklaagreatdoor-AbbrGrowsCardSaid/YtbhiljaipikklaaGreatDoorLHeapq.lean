/- Parts of the proof of the law that the last file states; declarations that nothing mentions are left out by a program. No conditions. -/
import Derived.Below
import Derived.Laws.OwnMore
import Derived.Deep.Draws
import Derived.Laws.Rows
import Derived.WalkKit
import Derived.KernelRfl
import Derived.Handy
import Derived.MapKept
import Derived.ChangeMaps4
import Derived.Test.YtbhiljaipikklaaGreatDoorWWordsq
set_option linter.unusedVariables false
set_option linter.unusedSimpArgs false
namespace Go.Proofs.YtbhiljaipikklaaGreatDoorL
open Go.RowKit Go.MapKept
open Go.ChangeMaps (setBlock)
def Blk (w : World) (g : Nat) (t : TypeId) (cs : Array Value) : Prop := w.heap[g]? = some (.cells cs t (0, 0))
section
variable {w w' : World} {g : Nat} {t : TypeId} {cs : Array Value}
theorem Blk.lt (h : Blk w g t cs) : g < w.heap.size := (Array.getElem?_eq_some_iff.1 h).1
theorem Blk.cell (h : Blk w g t cs) (i : Nat) {v : Value} (hv : cs[i]? = some v) : w.cell? ⟨g, i, none⟩ = some v := (cell_of_row w g i cs t (0, 0) h).trans hv
theorem Blk.frozen (h : Blk w g t cs) (i : Nat) : w.frozen? ⟨g, i, none⟩ = false := by
  unfold Blk at h
  simp [World.frozen?, h]
theorem Blk.new (w : World) (t : TypeId) (cs : Array Value) : Blk (w.alloc (.cells cs t)) w.heap.size t cs := heap_alloc_new w _
theorem Blk.drewN (h : Blk w g t cs) (n : Nat) : Blk (w.drewN n) g t cs := h
theorem Blk.alloc (h : Blk w g t cs) (o : Obj) : Blk (w.alloc o) g t cs := (Below.heap_alloc w o g h.lt).trans h
theorem Blk.set_ (h : Blk w g t cs) (i : Nat) (u : Value) : Blk (w.setCell ⟨g, i, none⟩ u) g t (cs.setIfInBounds i u) := by
  unfold Blk at h ⊢
  simp [World.setCell, Array.getElem?_modify, h]
theorem Blk.to (h : Blk w g t cs) (he : w'.heap[g]? = w.heap[g]?) : Blk w' g t cs := he.trans h
theorem Blk.ne_map {M : Nat} {es : Array MapEntry} {clock : Nat} (h : Blk w g t cs) (h' : w.heap[M]? = some (.map es clock)) : g ≠ M := by
  rintro rfl
  unfold Blk at h
  rw [h] at h'
  cases h'
end
structure Only (F : Nat → Prop) (w w' : World) : Prop where
  os : w'.os = w.os
  tape : w'.tape = w.tape
  output : w'.output = w.output
  size : w.heap.size ≤ w'.heap.size
  block : ∀ i, i < w.heap.size → ¬ F i → w'.heap[i]? = w.heap[i]?
section
variable {F : Nat → Prop} {a w w' : World}
theorem Only.mono {G : Nat → Prop} (h : Only F a w) (hG : ∀ i, i < a.heap.size → F i → G i) : Only G a w := ⟨h.os, h.tape, h.output, h.size, fun i hi hn => h.block i hi (fun hf => hn (hG i hi hf))⟩
theorem Only.alloc (h : Only F a w) (o : Obj) : Only F a (w.alloc o) :=
  ⟨h.os, h.tape, h.output, Nat.le_trans h.size (by simp), fun i hi hn => (Below.heap_alloc w o i (Nat.lt_of_lt_of_le hi h.size)).trans (h.block i hi hn)⟩
theorem Only.setCell (h : Only F a w) {p : Addr} (hp : F p.block ∨ a.heap.size ≤ p.block) (u : Value) : Only F a (w.setCell p u) :=
  ⟨h.os, h.tape, h.output, by simpa [World.setCell] using h.size, fun i hi hn => (Below.heap_setCell w p u i (by
    rintro rfl
    rcases hp with hp | hp
    · exact hn hp
    · omega)).trans (h.block i hi hn)⟩
theorem Only.of_below (h : Below a.heap.size a w) : Only F a w := ⟨h.os, h.tape, h.output, h.size, fun i hi _ => h.block i hi⟩
theorem Only.grown (h : Only F a w) {row : Option Nat} (k : w.grownBy w' row) (hr : ∀ g, row = some g → F g ∨ a.heap.size ≤ g) : Only F a w' :=
  ⟨k.os.trans h.os, k.tape.trans h.tape, k.output.trans h.output, Nat.le_trans h.size k.size, fun i hi hn => (k.block i (Nat.lt_of_lt_of_le hi h.size) (fun e => by
    rcases hr i e.symm with hf | hf
    · exact hn hf
    · omega)).trans (h.block i hi hn)⟩
theorem Only.to_below (h : Only F a w) {B : Nat} (hB : ∀ g, F g → B ≤ g) (hs : B ≤ a.heap.size) : Below B a w :=
  ⟨h.os, h.tape, h.output, h.size, fun i hi => h.block i (by omega) (fun hf => by have := hB i hf; omega)⟩
end
def fnd {β : Type} (s : ByteArray) : List (ByteArray × β) → Option β
  | [] => none
  | p :: r => if p.1 = s then some p.2 else fnd s r
def put {β : Type} (s : ByteArray) (v : β) : List (ByteArray × β) → List (ByteArray × β)
  | [] => [(s, v)]
  | p :: r => if p.1 = s then (s, v) :: r else p :: put s v r
def drop_ {β : Type} (s : ByteArray) : List (ByteArray × β) → List (ByteArray × β)
  | [] => []
  | p :: r => if p.1 = s then r else p :: drop_ s r
def MapStr (w : World) (M : Nat) (l : List (ByteArray × Value)) : Prop :=
  ∃ es clock, w.heap[M]? = some (.map es clock) ∧ Stamped es clock ∧ es.toList.map (fun e => (e.key, e.val)) = l.map (fun p => (Value.string p.1, p.2))
section
variable {P : Program} {w w' : World} {M : Nat} {l : List (ByteArray × Value)} {T k e : TypeId}
theorem MapStr.lt (h : MapStr w M l) : M < w.heap.size := by
  obtain ⟨es, clock, h, _⟩ := h
  exact (Array.getElem?_eq_some_iff.1 h).1
theorem MapStr.to (h : MapStr w M l) (he : w'.heap[M]? = w.heap[M]?) : MapStr w' M l := by
  obtain ⟨es, clock, h, hs⟩ := h
  exact ⟨es, clock, he.trans h, hs⟩
theorem MapStr.new (w : World) : MapStr (w.alloc (.map #[] 0)) w.heap.size [] := ⟨#[], 0, heap_alloc_new w _, stamped_empty 0, rfl⟩
theorem entry_keys {es : List MapEntry} {l : List (ByteArray × Value)} (h : es.map (fun e => (e.key, e.val)) = l.map (fun p => (Value.string p.1, p.2))) : ∀ x ∈ es, IsKey .string x.key := by
  intro x hx
  have : (x.key, x.val) ∈ l.map (fun p => (Value.string p.1, p.2)) := h ▸ List.mem_map.2 ⟨x, hx, rfl⟩
  obtain ⟨p, _, hp⟩ := List.mem_map.1 this
  injection hp with h1 _
  rw [← h1]
  trivial
theorem findNow_str (s : ByteArray) : ∀ (es : List MapEntry) (l : List (ByteArray × Value)) (i : Nat), es.map (fun e => (e.key, e.val)) = l.map (fun p => (Value.string p.1, p.2)) →
    ∃ r, Instr.findNow .string (.string s) es i = some r ∧ r.map (·.2) = fnd s l ∧ ∀ j v, r = some (j, v) → ∃ m, j = i + m ∧ (es[m]?).map (·.key) = some (Value.string s) ∧ ∀ v', (es.modify m fun e => { e with key := .string s, val := v' }).map (fun e => (e.key, e.val)) = (put s v' l).map (fun p => (Value.string p.1, p.2)) ∧ (es.eraseIdx m).map (fun e => (e.key, e.val)) = (drop_ s l).map (fun p => (Value.string p.1, p.2))
  | [], [], i, _ => ⟨none, rfl, rfl, fun j v h => by cases h⟩
  | [], _ :: _, i, h => by simp at h
  | _ :: _, [], i, h => by simp at h
  | e :: es, p :: l, i, h => by
    simp only [List.map_cons, List.cons.injEq, Prod.mk.injEq] at h
    obtain ⟨⟨h1, h2⟩, h3⟩ := h
    by_cases hp : p.1 = s
    · subst hp
      refine ⟨some (i, e.val), ?_, ?_, ?_⟩
      · have : Instr.sameNow .string (.string p.1) e.key = some true := by
          rw [h1]
          simp [Instr.sameNow, bytes_beq]
        simp [Instr.findNow, this]
      · simp [fnd, h2]
      · intro j v hj
        simp only [Option.some.injEq, Prod.mk.injEq] at hj
        refine ⟨0, by omega, by simp [h1], fun v' => ?_⟩
        simp [put, drop_, h3]
    · obtain ⟨r, hr, hf, hm⟩ := findNow_str s es l (i + 1) h3
      have hs : Instr.sameNow .string (.string s) e.key = some false := by
        rw [h1]
        have : ¬ s = p.1 := fun e => hp e.symm
        simp [Instr.sameNow]
        rw [← Bool.not_eq_true, bytes_beq]
        exact this
      refine ⟨r, by simp [Instr.findNow, hs, hr], by simp [fnd, hp, hf], fun j v hj => ?_⟩
      obtain ⟨m, hjm, hk, hb⟩ := hm j v hj
      refine ⟨m + 1, by omega, by simpa using hk, fun v' => ?_⟩
      obtain ⟨b1, b2⟩ := hb v'
      simp [put, drop_, hp, h1, h2, b1, b2]
theorem MapStr.look (h : MapStr w M l) (hT : P.underlying T = some (.map k e)) (hk : P.underlying k = some .string) (s : ByteArray) {z : Value} (hz : ∀ w, (zeroValue e).run P w = .ok z w) :
    (Instr.lookup T (.map (some M)) (.string s) true).run P w = .ok (.tuple #[(fnd s l).getD z, .bool (fnd s l).isSome]) w := by
  obtain ⟨es, clock, hM, hs, hl⟩ := h
  obtain ⟨r, hr, hf, _⟩ := findNow_str s es.toList l 0 hl
  rw [← hf]
  cases r with
  | none => simp [Instr.lookup, run_underlying hT, MapKept.run_getObj_map hM, run_checkKey hk (show IsKey .string (.string s) from trivial), run_findKey hk hr, hz, Result.andThen]
  | some p => simp [Instr.lookup, run_underlying hT, MapKept.run_getObj_map hM, run_checkKey hk (show IsKey .string (.string s) from trivial), run_findKey hk hr, Result.andThen]
theorem put_fresh {β : Type} {s : ByteArray} {v : β} : ∀ {l : List (ByteArray × β)}, fnd s l = none → put s v l = l ++ [(s, v)]
  | [], _ => rfl
  | p :: r, h => by
    by_cases hp : p.1 = s
    · simp [fnd, hp] at h
    · simp only [fnd, hp, if_false] at h
      simp [put, hp, put_fresh h]
theorem drop_none {β : Type} {s : ByteArray} : ∀ {l : List (ByteArray × β)}, fnd s l = none → drop_ s l = l
  | [], _ => rfl
  | p :: r, h => by
    by_cases hp : p.1 = s
    · simp [fnd, hp] at h
    · simp only [fnd, hp, if_false] at h
      simp [drop_, hp, drop_none h]
theorem MapStr.update (h : MapStr w M l) (hT : P.underlying T = some (.map k e)) (hk : P.underlying k = some .string) (s : ByteArray) (v : Value) :
    ∃ w', (Instr.mapUpdate T (.map (some M)) (.string s) v).run P w = .ok () w' ∧ MapStr w' M (put s v l) ∧ w.grownBy w' (some M) := by
  obtain ⟨es, clock, hM, hs, hl⟩ := h
  have hks := entry_keys hl
  obtain ⟨r, hr, hf, hm⟩ := findNow_str s es.toList l 0 hl
  have hkey : IsKey .string (.string s) := trivial
  cases r with
  | none =>
    have hnk : ∀ x ∈ es.toList, x.key ≠ .string s := by
      rcases findNow_spec hkey es.toList 0 hks with ⟨_, h2⟩ | ⟨j, e', h1, _⟩
      · exact h2
      · rw [hr] at h1
        cases h1
    refine ⟨{ w with heap := w.heap.setIfInBounds M (.map (es.push { key := .string s, val := v, born := clock }) (clock + 1)) }, by simp [Instr.mapUpdate, run_underlying hT, MapKept.run_getObj_map hM, run_checkKey hk hkey, run_findKey hk hr, MapKept.run_setObj_map _ hM, Result.andThen], ⟨_, _, (heap_set hM).1, stamped_push hs hnk, ?_⟩, ⟨rfl, rfl, rfl, by simp, fun i _ hi => (heap_set hM).2 i (fun e => hi (by rw [e]))⟩⟩
    rw [put_fresh (by rw [← hf]; rfl)]
    simp [hl]
  | some p =>
    obtain ⟨j, v0⟩ := p
    obtain ⟨m, hjm, hkm, hb⟩ := hm j v0 rfl
    obtain rfl : j = m := by omega
    obtain ⟨x, hx, hxk⟩ : ∃ x, es[j]? = some x ∧ x.key = .string s := by
      rw [Array.getElem?_toList] at hkm
      cases hx : es[j]? with
      | none => rw [hx] at hkm; cases hkm
      | some x => rw [hx] at hkm; exact ⟨x, rfl, by simpa using hkm⟩
    refine ⟨{ w with heap := w.heap.setIfInBounds M (.map (es.modify j fun e => { e with key := .string s, val := v }) clock) }, by simp [Instr.mapUpdate, run_underlying hT, MapKept.run_getObj_map hM, run_checkKey hk hkey, run_findKey hk hr, hx, hxk, run_keyThatStays hkey, MapKept.run_setObj_map _ hM, Result.andThen], ⟨_, _, (heap_set hM).1, stamped_modify hs _ _ (fun _ _ => rfl) (fun e' _ he' => by
      rw [hx] at he'
      injection he' with he'
      subst he'
      exact hxk.symm), ?_⟩, ⟨rfl, rfl, rfl, by simp, fun i _ hi => (heap_set hM).2 i (fun e => hi (by rw [e]))⟩⟩
    rw [Array.toList_modify]
    exact (hb v).1
theorem MapStr.delete (h : MapStr w M l) (hT : P.underlying T = some (.map k e)) (hk : P.underlying k = some .string) (s : ByteArray) (ty : TypeId) :
    ∃ w', (Builtin.delete_ #[T, k] ty #[.map (some M), .string s]).run P w = .ok (.tuple #[]) w' ∧ MapStr w' M (drop_ s l) ∧ w.grownBy w' (some M) := by
  obtain ⟨es, clock, hM, hs, hl⟩ := h
  obtain ⟨r, hr, hf, hm⟩ := findNow_str s es.toList l 0 hl
  have hkey : IsKey .string (.string s) := trivial
  cases r with
  | none =>
    refine ⟨{ w with heap := w.heap.setIfInBounds M (.map es clock) }, by simp [Builtin.delete_, run_underlying hT, MapKept.run_getObj_map hM, run_checkKey hk hkey, run_findKey hk hr, MapKept.run_setObj_map _ hM, Result.andThen], ⟨_, _, (heap_set hM).1, hs, ?_⟩, ⟨rfl, rfl, rfl, by simp, fun i _ hi => (heap_set hM).2 i (fun e => hi (by rw [e]))⟩⟩
    rw [drop_none (by rw [← hf]; rfl)]
    exact hl
  | some p =>
    obtain ⟨j, v0⟩ := p
    obtain ⟨m, hjm, hkm, hb⟩ := hm j v0 rfl
    obtain rfl : j = m := by omega
    refine ⟨{ w with heap := w.heap.setIfInBounds M (.map (es.eraseIdxIfInBounds j) clock) }, by simp [Builtin.delete_, run_underlying hT, MapKept.run_getObj_map hM, run_checkKey hk hkey, run_findKey hk hr, MapKept.run_setObj_map _ hM, Result.andThen], ⟨_, _, (heap_set hM).1, stamped_erase hs _, ?_⟩, ⟨rfl, rfl, rfl, by simp, fun i _ hi => (heap_set hM).2 i (fun e => hi (by rw [e]))⟩⟩
    have hj : j < es.size := by
      rcases Nat.lt_or_ge j es.size with h | h
      · exact h
      · rw [Array.getElem?_toList, Array.getElem?_eq_none h] at hkm
        cases hkm
    simp only [Array.eraseIdxIfInBounds, hj, dif_pos, Array.toList_eraseIdx]
    exact (hb v0).2
theorem MapStr.len (h : MapStr w M l) (hT : P.underlying T = some (.map k e)) (ty : TypeId) : (Builtin.len_ #[T] ty #[.map (some M)]).run P w = .ok (.int .i64 l.length) w := by
  obtain ⟨es, clock, hM, hs, hl⟩ := h
  have : es.size = l.length := by
    have := congrArg List.length hl
    simpa using this
  simp [Builtin.len_, run_underlying hT, MapKept.run_getObj_map hM, Result.andThen, this, goInt]
theorem wpList_mapUpdate_str (h : MapStr w M l) {ops : Array Oper} {rest : List Oper} {o : Oper} {a : Act} {Q : Exit → Act → World → Prop}
    (hg : o.guard = none) (m x v : Operand) (hop : o.op = Op.mapUpdate T m x v) (hT : P.underlying T = some (.map k e)) (hk : P.underlying k = some .string) (s : ByteArray) (val : Value)
    (hm : a.eval m = .map (some M)) (hx : a.eval x = .string s) (hv : a.eval v = val)
    (hK : ∀ w', MapStr w' M (put s val l) → w.grownBy w' (some M) → wpList P ops Q rest (a.put o.dst undef) w') :
    wpList P ops Q (o :: rest) a w := by
  refine wpList_plain hg fun K' hK' => ?_
  obtain ⟨w', hrun, r1, r2⟩ := h.update hT hk s val
  unfold Oper.wp
  simp [execOp, hop, hm, hx, hv, hrun, Result.andThen]
  exact hK' _ _ (hK w' r1 r2)
theorem wpList_delete_str (h : MapStr w M l) {ops : Array Oper} {rest : List Oper} {o : Oper} {a : Act} {Q : Exit → Act → World → Prop}
    (hg : o.guard = none) (m x : Operand) (hop : o.op = .call { callee := .builtin .delete, args := #[m, x], argTypes := #[T, k] }) (hT : P.underlying T = some (.map k e)) (hk : P.underlying k = some .string) (s : ByteArray)
    (hm : a.eval m = .map (some M)) (hx : a.eval x = .string s)
    (hK : ∀ w', MapStr w' M (drop_ s l) → w.grownBy w' (some M) → wpList P ops Q rest (a.put o.dst (.tuple #[])) w') :
    wpList P ops Q (o :: rest) a w := by
  refine wpList_plain hg fun K' hK' => ?_
  obtain ⟨w', hrun, r1, r2⟩ := h.delete hT hk s o.type
  unfold Oper.wp execOp
  simp only [hop, resolve, invoke, builtin, Sem.run_bind, Sem.run_pure, Result.andThen_ok, List.map_toArray, List.map_cons, List.map_nil, hm, hx, hrun]
  exact hK' _ _ (hK w' r1 r2)
theorem MapStr.ne_blk {g t : Nat} {cs : Array Value} (h : MapStr w M l) (hb : Blk w g t cs) : M ≠ g := by
  obtain ⟨es, clock, hM, _⟩ := h
  exact fun e => hb.ne_map hM e.symm
end
end Go.Proofs.YtbhiljaipikklaaGreatDoorL

