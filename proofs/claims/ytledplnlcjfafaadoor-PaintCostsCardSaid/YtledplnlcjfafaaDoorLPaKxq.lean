/- Parts of the proof of the law that the last file states; declarations that nothing mentions are left out by a program. No conditions. -/
import Derived.Test.YtledplnlcjfafaaDoorLPaKq
set_option linter.unusedVariables false
set_option linter.unusedSimpArgs false
namespace Go.Proofs.YtledplnlcjfafaaDoorL
open Go Go.RowKit Go.Proofs.YtledplnlcjfafaaDoor.K Go.Proofs.YtledplnlcjfafaaDoorW.PrintWords
theorem costs_walk' {W : World} {x : Int × Int} {a b : S24} {cs ca cb : Array Value} (hK : kArr2.K W x cs.toList) (hA : k24.K W a ca.toList) (hQA : SizedV a) (hB : k24.K W b cb.toList) (hQB : SizedV b) (hT : TabsP W) :
    Calls Tryd.prog 3 #[.agg cs, .agg ca, .agg cb] W fun e W' => e = .returned (.bool true) ∧ Below W.heap.size W W' := by
  obtain rfl : cs = #[.int .i64 x.1, .int .i64 x.2] := Array.toList_inj.1 (kArr2_open hK)
  have ea := k24_open hA
  have eb := k24_open hB
  obtain rfl : ca = #[.int .i64 a.f0, .int .i64 a.f1, .string a.f2, .string a.f3, .string a.f4, .string a.f5, .int .i64 a.f6] := Array.toList_inj.1 ea
  obtain rfl : cb = #[.int .i64 b.f0, .int .i64 b.f1, .string b.f2, .string b.f3, .string b.f4, .string b.f5, .int .i64 b.f6] := Array.toList_inj.1 eb
  exact costs_walk x.1 x.2 hQA hQB hT
end Go.Proofs.YtledplnlcjfafaaDoorL

