/- Parts of the proof of the law that the last file states; declarations that nothing mentions are left out by a program. No conditions. -/
import Derived.Test.YtcpkoajnepijkaaNamesq
import Derived.Test.YtcpkoajnepijkaaAlive2q
set_option linter.unusedVariables false
set_option linter.unusedSimpArgs false
namespace Go.Proofs.Ytcpkoajnepijkaa
open Go.RowKit Go.Proofs.YtcpkoajnepijkaaL Go.Proofs.YtcpkoajnepijkaaW.PrintWords
section
variable {base : Nat} {Lz Lz' : Nat → Prop} {w w' : World} {v : Value} {xs : List Int} {F : Nat} {fp : Nat → Prop} {G : Nat → Prop} {st : FS} {M : Nat} {rv : Value} {cells : List Value} {S : PS} {k : Nat}
end
def AllL : Nat → Prop := fun _ => True
theorem RB.any {base : Nat} {Lz : Nat → Prop} {w : World} {v : Value} {xs : List Int} (h : RB base AllL w v xs) : RB base Lz w v xs := h.loose (fun _ _ _ => trivial)
end Go.Proofs.Ytcpkoajnepijkaa

