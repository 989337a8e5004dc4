/- Parts of the proof of the law that the last file states; declarations that nothing mentions are left out by a program. No conditions. -/
import Derived.Test.YtcpkoajnepijkaaNamesk
import Derived.Test.YtcpkoajnepijkaaAlive2k
namespace Go.Proofs.Ytcpkoajnepijkaa
set_option linter.unusedVariables false
set_option linter.unusedSimpArgs false
open Go.RowKit Go.Proofs.YtcpkoajnepijkaaL Go.Proofs.YtcpkoajnepijkaaW.PrintWords
section
variable {base : Nat} {Lz Lz' : Nat → Prop} {w w' : World} {v : Value} {xs : List Int} {F : Nat} {fp : Nat → Prop} {G : Nat → Prop} {st : FS} {M : Nat} {rv : Value} {cells : List Value} {S : PS} {k : Nat}
def OwnL (v : Value) : Nat → Prop := fun g => v.ownBlock = some g
theorem own_T5 (h : Own w base v xs) : ∀ g, OwnL v g → T5 w g := fun g hg => by
  obtain ⟨cells, hh⟩ := own_typed (Kd.own_of_R (enc := Value.int .u8) h) g hg
  exact ⟨cells, _, hh⟩
theorem FSat.apart (h : FSat base Lz w F fp S k) (ho : Own w base v xs) : ∀ g, OwnL v g → ¬ fp g := fun g hg hf => (h.mut g hf).2 (own_T5 ho g hg)
end
def AllL : Nat → Prop := fun _ => True
theorem RB.any {base : Nat} {Lz : Nat → Prop} {w : World} {v : Value} {xs : List Int} (h : RB base AllL w v xs) : RB base Lz w v xs := h.loose (fun _ _ _ => trivial)
end Go.Proofs.Ytcpkoajnepijkaa

