/- Parts of the proof of the law that the last file states; declarations that nothing mentions are left out by a program. No conditions. -/
import Derived.OrdersIn
import Derived.RangeFuncOwn
import Derived.RangeFuncCalls
import Derived.RangeFuncKeeps
import Derived.TacticsIn
import Derived.Test.YtledplnlcjfafaaDoorLHeldq
import Derived.Test.YtledplnlcjfafaaDoorLHeapq
set_option linter.unusedVariables false
set_option linter.unusedSimpArgs false
namespace Go.Proofs.YtledplnlcjfafaaDoorL
open Go Go.RowKit
section
variable {P : Program} {ops : Array Oper} {Q : Exit → Act → World → Prop} {md : Region.Mode} {l n : Nat}
theorem calls_round {f : FuncId} {args : Array Value} {w : World} {R : Ending → World → Prop} (h : Calls P f args w R) : CallsIn (Fence.wide.inRound l) n P f args w R := (callsIn_wide (n := n)).2 h
theorem rows_round {row : String} {args : Array Value} {w : World} {R : Value → World → Prop} (h : Rows P row args w R) : RowsIn (Fence.wide.inRound l) n P row args w R := fun c cs _ => by
  obtain ⟨v, w', r, s⟩ := h c cs
  exact ⟨v, w', r, (stepsIn_wide (P := P)).2 s⟩
def noDefer (ops : Array Oper) : Bool := ops.all fun o => match o.op with
  | .defer _ => false
  | _ => true
theorem noDefer_spec (h : noDefer ops = true) {i : Nat} {o : Oper} (ho : ops[i]? = some o) : ∀ c, o.op ≠ .defer c := by
  intro c e
  unfold noDefer at h
  rw [Array.all_eq_true] at h
  obtain ⟨hi, rfl⟩ := Array.getElem?_eq_some_iff.1 ho
  have := h i hi
  rw [e] at this
  cases this
theorem opIn_of_op (hQ : ¬ LetsOut Q) (hd : noDefer ops = true) {i : Nat} {K : Act → World → Prop} {a : Act} {w : World} (h : wpOp P ops Q i K a w) : wpOpIn (Fence.wide.inRound l) n P ops Q i K a w := by
  unfold wpOp at h
  unfold wpOpIn
  cases ho : ops[i]? with
  | none => rw [ho] at h; exact h
  | some o =>
    rw [ho] at h
    dsimp only at h ⊢
    split at h
    · rename_i hw
      rw [if_pos hw]
      rcases h with h | h
      · refine ⟨fun _ _ => trivial, ?_⟩
        rw [show (Fence.wide.inRound l).round = some l from rfl, Oper.semAt_some l _ _ (noDefer_spec hd ho)]
        unfold Oper.wp at h
        generalize (execOp a.eval o).run P w = r at *
        cases r with
        | ok x w' =>
          cases x with
          | value v => exact h
          | skip => exact h
          | defer d => exact h
          | enter f args => exact ⟨(fun e => by rw [show (Fence.wide.inRound l).depth = none from rfl] at e; cases e), calls_round h⟩
          | row r args => exact ⟨(fun e => by rw [show (Fence.wide.inRound l).depth = none from rfl] at e; cases e), rows_round h⟩
          | _ => exact h.elim
        | halt x w' =>
          cases x with
          | panic v => exact h
          | _ => exact h.elim
      · exact absurd h.2 hQ
    · rename_i hw
      rw [if_neg hw]
      exact ⟨fun _ _ => trivial, h⟩
theorem anyIn_of_any (hQ : ¬ LetsOut Q) (hd : noDefer ops = true) : ∀ (fuel : Nat) (listed : Array Bool) (a : Act) (w : World), wpAny P md ops Q fuel listed a w → wpAnyIn (Fence.wide.inRound l) n P md ops Q fuel listed a w
  | 0, _, _, _, h => h
  | fuel + 1, _, _, _, h => ⟨h.1, fun i hi => wpOpIn_mono (fun a' w' h' => anyIn_of_any hQ hd fuel _ a' w' h') (opIn_of_op hQ hd (h.2 i hi))⟩
theorem roundK {id : Nat} {a : Act} {w : World} (S : World → Prop) (k : Nat) (hm : P.follows .mixedOrders = true) (hd : noDefer ops = true) (hQ : ¬ LetsOut Q) (h : ∀ wd, Below w.heap.size w wd → wpAnyK P .any ops Q S k ops.size (Array.replicate ops.size false) a wd) : (Code.region id ops true).wpIn (Fence.wide.inRound l) n P Q a w :=
  wpIn_region_any hm (anyIn_of_any hQ hd _ _ _ _ (wpAny_of_K _ _ _ _ (h w.drew ((Below.refl _ w).drew))))
def noP (Q : Exit → Act → World → Prop) : Exit → Act → World → Prop
  | .panic _, _, _ => False
  | e, a, w => Q e a w
theorem noP_le : ∀ e a w, noP Q e a w → Q e a w := fun e a w h => by
  cases e <;> first | exact h | exact h.elim
theorem Only.others {F : Nat → Prop} {w w' : World} (h : Only F w w') (hF : ∀ k, F k → k < w.heap.size → ∃ cs t f, w.heap[k]? = some (.cells cs t f)) : KeepsOthers w w' := by
  refine ⟨h.size, fun k o ho hc => ?_⟩
  have hk := (Array.getElem?_eq_some_iff.1 ho).1
  rw [h.block k hk (fun hf => ?_)]
  · exact ho
  · obtain ⟨cs, t, f, e⟩ := hF k hf hk
    rw [e] at ho
    cases ho
    cases hc
end
end Go.Proofs.YtledplnlcjfafaaDoorL

