/- FileFaults, its walk at all inputs. No conditions. -/
import Derived.Test.YtcpkoajnepijkaaFaults2
namespace Go.Proofs.Ytcpkoajnepijkaa
set_option linter.unusedVariables false
set_option linter.unusedSimpArgs false
open Go.RowKit Go.Proofs.YtcpkoajnepijkaaL Go.Proofs.YtcpkoajnepijkaaW.PrintWords

set_option maxRecDepth 100000 in
set_option maxHeartbeats 2000000 in
theorem faults_out {W : World} {A0 A1 : Option Addr} {c0 c1 : Nat} {b c : List Int} {n : Int}
    (h : 500 < b.length ∨ (b.length ≤ 500 ∧ 500 < c.length) ∨ (b.length ≤ 500 ∧ c.length ≤ 500 ∧ n < 0) ∨ (b.length ≤ 500 ∧ c.length ≤ 500 ∧ 0 ≤ n ∧ 20 < n)) :
    Calls Try.prog 7 #[.slice A0 b.length c0, .slice A1 c.length c1, .int .i64 n] W fun e w' => e = .returned (.bool true) ∧ Below W.heap.size W w' := by
  have XN := Aside0.mk (fsat_new (base := W.heap.size) (Lz := NoL) (w := W) (Nat.le_refl _) (fun _ h => h.elim))
  rcases h with h | ⟨h, h1⟩ | ⟨h, h1, h2⟩ | ⟨h, h1, h2, h3⟩
  all_goals
    go_enter Try.func7, Try.ntmps7
    go_wp2_with fail
    go_at_call 12
    with_reducible refine (XN.out).mono ?_
    rintro e w1 ⟨F, fp, rfl, hf1, hfp, hb1⟩
    have HB1 := Aside0.mk hb1
    clear hf1 hfp hb1
    go_wp2_with fail
    have XL := Aside0.mk (alive_walk w1)
    go_at_call 11
    with_reducible refine (XL.out).mono ?_
    rintro e w2 ⟨rfl, hb2⟩
    have HB2 := Aside0.mk hb2
    clear hb2 XL
    go_wp2
    go_ret
    exact ⟨rfl, HB1.out.trans (HB2.out.mono HB1.out.size)⟩

theorem fileFaults_walk {W : World} {A0 A1 : Option Addr} {c0 c1 : Nat} {b c : List Int} (n : Int) (hc0 : b.length ≤ c0) (hC0 : u8.C W A0 b.length b) (hc1 : c.length ≤ c1) (hC1 : u8.C W A1 c.length c) :
    Calls Try.prog 7 #[.slice A0 b.length c0, .slice A1 c.length c1, .int .i64 n] W fun e w' => e = .returned (.bool true) ∧ Below W.heap.size W w' := by
  by_cases h : b.length ≤ 500 ∧ c.length ≤ 500 ∧ 0 ≤ n ∧ n ≤ 20
  · exact faults_walk (RB.arg hc0 hC0) (RB.arg hc1 hC1) h.1 h.2.1 h.2.2.1 h.2.2.2
  · exact faults_out (by omega)

end Go.Proofs.Ytcpkoajnepijkaa
