/- Parts of the proof of the law that the last file states; declarations that nothing mentions are left out by a program. No conditions. -/
import Derived.Test.YtbhiljaipikklaaGreatDoorLSignq
set_option linter.unusedVariables false
set_option linter.unusedSimpArgs false
namespace Go.Proofs.YtbhiljaipikklaaGreatDoorL
open Go Go.RowKit Go.Proofs.YtbhiljaipikklaaGreatDoorW.PrintWords
set_option maxRecDepth 100000 in
theorem clean_calls (s : ByteArray) (hs : s.size ≤ 1099511627776) {A : Option Addr} {n c : Nat} (w : World) (hcv : (convert 95 9 (.slice A n c)).run Tryz.prog w = .ok (.string s) w) :
    Calls Tryz.prog 53 #[.slice A n c] w fun e w' => e = .returned (.string ⟨(cleanL s.data.toList).toArray⟩) ∧ Below w.heap.size w w' := by
  have X := Hd.mk (runes_calls s hs w hcv)
  have HE : Hd (runesBytes ((runesL s.data.toList).map fun (r : Nat) => (r : Int)) = ⟨(cleanL s.data.toList).toArray⟩) := ⟨by
    have := clean_runes _ _ (Nat.le_refl s.data.toList.length)
    rw [← this]⟩
  generalize runesBytes ((runesL s.data.toList).map fun (r : Nat) => (r : Int)) = R at HE
  have HR : Hd (∀ w' v, w'.ownsRow w.heap.size 21 1 v (runesL s.data.toList).length (runeCells (runesL s.data.toList)) → (convert 120 9 v).run Tryz.prog w' = .ok (.string ⟨(cleanL s.data.toList).toArray⟩) w') := ⟨fun w' v h => by
    have h1 := runes_convert h
    have := clean_runes _ _ (Nat.le_refl s.data.toList.length)
    rw [h1, ← this]⟩
  clear hcv hs HE
  go_enter Tryz.func53, Tryz.ntmps53
  go_wp2_with fail
  go_at_call 73
  with_reducible refine (X.out).mono ?_
  rintro _ w2 ⟨v, rfl, hown, hb⟩
  have hcv := HR.out _ _ hown
  have HB := Hd.mk hb
  clear hown hb X HR
  go_wp2
  go_ret
  exact ⟨rfl, HB.out⟩
end Go.Proofs.YtbhiljaipikklaaGreatDoorL

