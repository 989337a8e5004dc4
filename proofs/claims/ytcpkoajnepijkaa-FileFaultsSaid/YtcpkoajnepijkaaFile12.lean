/- Copy: the map from an inode to its copy; the closure. No conditions. -/
import Derived.Test.YtcpkoajnepijkaaFile11
namespace Go.Proofs.Ytcpkoajnepijkaa
set_option linter.unusedVariables false
set_option linter.unusedSimpArgs false
open Go.RowKit Go.Proofs.YtcpkoajnepijkaaL Go.Proofs.YtcpkoajnepijkaaW.PrintWords Go.MapKept

def fndN (g : Nat) : List (Nat × Nat) → Option Nat
  | [] => none
  | p :: r => if g = p.1 then some p.2 else fndN g r
/-- Block M maps pointers so. -/
def MapPtr (w : World) (M : Nat) (l : List (Nat × Nat)) : Prop :=
  ∃ es clock, w.heap[M]? = some (.map es clock) ∧ es.toList.map (fun e => (e.key, e.val)) = l.map (fun p => (ptr p.1, ptr p.2))

theorem run_equal_ptr {w : World} {a b : Nat} (ha : IsC w a) (hb : IsC w b) : (Op.equal 71 (ptr a) (ptr b)).run Try.prog w = .ok (decide (a = b)) w := by
  obtain ⟨j, hj, hjs⟩ := info77
  obtain ⟨ca, ta, ha⟩ := ha
  obtain ⟨cb, tb, hb⟩ := hb
  by_cases h : a = b
  · subst h
    have h : ∀ d : Nat, (Op.equalIn (d + 1) 71 (ptr a) (ptr a)).run Try.prog w = .ok true w := fun d => by
      simp [Op.equalIn, run_underlying Try.underlying71, sizeOf, typeInfo, hj, run_sameAddr_same]
    simp [Op.equal, Op.maxDepth, h 9999]
  · have hne : (⟨a, 0, none⟩ : Addr) ≠ ⟨b, 0, none⟩ := fun e => h (congrArg Addr.block e)
    have h' : ∀ d : Nat, (Op.equalIn (d + 1) 71 (ptr a) (ptr b)).run Try.prog w = .ok false w := fun d => by
      simp [Op.equalIn, run_underlying Try.underlying71, sizeOf, typeInfo, hj, hjs, run_sameAddr_other w hne ha hb]
    simp [Op.equal, Op.maxDepth, h' 9999, h]

theorem run_asking {w : World} {g : Nat} (hg : IsC w g) : ∀ (es : List MapEntry) (l : List (Nat × Nat)) (i : Nat), es.map (fun e => (e.key, e.val)) = l.map (fun p => (ptr p.1, ptr p.2)) → (∀ p ∈ l, IsC w p.1) →
    ∃ r, (Instr.findAsking 71 (ptr g) es i).run Try.prog w = .ok r w ∧ r.map (·.2) = (fndN g l).map ptr
  | [], [], i, _, _ => ⟨none, by simp [Instr.findAsking], rfl⟩
  | [], _ :: _, i, h, _ => by simp at h
  | _ :: _, [], i, h, _ => by simp at h
  | e :: es, p :: l, i, h, hc => by
    simp only [List.map_cons, List.cons.injEq, Prod.mk.injEq] at h
    obtain ⟨⟨h1, h2⟩, h3⟩ := h
    have hq := run_equal_ptr hg (hc p List.mem_cons_self)
    obtain ⟨r, hr, hr2⟩ := run_asking hg es l (i + 1) h3 (fun q hq => hc q (List.mem_cons_of_mem _ hq))
    by_cases hp : g = p.1
    · refine ⟨some (i, e.val), ?_, ?_⟩
      · rw [decide_eq_true hp] at hq
        simp [Instr.findAsking, h1, hq]
      · simp [fndN, hp, h2]
    · refine ⟨r, ?_, ?_⟩
      · rw [decide_eq_false hp] at hq
        simp [Instr.findAsking, h1, hq, hr]
      · rw [hr2, fndN, if_neg hp]

theorem run_findKey_ptr {w : World} {g : Nat} (hg : IsC w g) {es : List MapEntry} {l : List (Nat × Nat)} (h : es.map (fun e => (e.key, e.val)) = l.map (fun p => (ptr p.1, ptr p.2))) (hc : ∀ p ∈ l, IsC w p.1) :
    ∃ r, (Instr.findKey 71 (ptr g) es).run Try.prog w = .ok r w ∧ r.map (·.2) = (fndN g l).map ptr := by
  cases es with
  | nil =>
    have : l = [] := by simpa using h.symm
    subst this
    exact ⟨none, by simp [Instr.findKey, run_underlying Try.underlying71, Instr.findNow], rfl⟩
  | cons e es =>
    obtain ⟨r, hr, hr2⟩ := run_asking hg (e :: es) l 0 h hc
    refine ⟨r, ?_, hr2⟩
    simp [Instr.findKey, run_underlying Try.underlying71, Instr.findNow, Instr.sameNow, hr]

theorem run_checkKey_ptr (w : World) (b : Bool) (v : Value) : (Instr.checkKey b 10000 71 v).run Try.prog w = .ok () w := by
  have : ∀ n, (Instr.checkKey b (n + 1) 71 v).run Try.prog w = .ok () w := fun n => by
    simp [Instr.checkKey, run_underlying Try.underlying71]
  exact this 9999

theorem MapPtr.look {w : World} {M : Nat} {l : List (Nat × Nat)} (h : MapPtr w M l) (hc : ∀ p ∈ l, IsC w p.1) {g : Nat} (hg : IsC w g) :
    (Instr.lookup 74 (.map (some M)) (ptr g) false).run Try.prog w = .ok ((fndN g l).elim (.pointer none) ptr) w := by
  obtain ⟨es, clock, hM, hl⟩ := h
  obtain ⟨r, hr, hr2⟩ := run_findKey_ptr hg hl hc
  simp only [Instr.lookup]
  cases r with
  | none =>
    have : fndN g l = none := by simpa using hr2.symm
    simp [run_underlying Try.underlying74, MapKept.run_getObj_map hM, run_checkKey_ptr, hr, zero71, this]
  | some p =>
    cases hf : fndN g l with
    | none => rw [hf] at hr2; cases hr2
    | some k =>
      rw [hf] at hr2
      simp only [Option.map_some, Option.some.injEq] at hr2
      simp [run_underlying Try.underlying74, MapKept.run_getObj_map hM, run_checkKey_ptr, hr, hr2]

theorem MapPtr.add {w : World} {M : Nat} {l : List (Nat × Nat)} (h : MapPtr w M l) (hc : ∀ p ∈ l, IsC w p.1) {g : Nat} (hg : IsC w g) (hn : fndN g l = none) (k : Nat) :
    ∃ w', (Instr.mapUpdate 74 (.map (some M)) (ptr g) (ptr k)).run Try.prog w = .ok () w' ∧ MapPtr w' M (l ++ [(g, k)]) ∧ w.grownBy w' (some M) := by
  obtain ⟨es, clock, hM, hl⟩ := h
  obtain ⟨r, hr, hr2⟩ := run_findKey_ptr hg hl hc
  rw [hn] at hr2
  cases r with
  | some p => cases hr2
  | none =>
    refine ⟨{ w with heap := w.heap.setIfInBounds M (.map (es.push { key := ptr g, val := ptr k, born := clock }) (clock + 1)) }, by simp [Instr.mapUpdate, run_underlying Try.underlying74, MapKept.run_getObj_map hM, run_checkKey_ptr, hr, MapKept.run_setObj_map _ hM, Result.andThen], ⟨_, _, (heap_set hM).1, ?_⟩, ⟨rfl, rfl, rfl, by simp, fun i _ hi => (heap_set hM).2 i (fun e => hi (by rw [e]))⟩⟩
    simp [hl]

end Go.Proofs.Ytcpkoajnepijkaa
