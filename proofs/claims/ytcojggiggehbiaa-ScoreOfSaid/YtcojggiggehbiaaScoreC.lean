/- The arguments of the laws on scores open to lists and structs; the walk of ScoreOf. No conditions. -/
import Derived.Test.YtcojggiggehbiaaLOpen
import Derived.Test.YtcojggiggehbiaaScoreB
namespace Go.Proofs.Ytcojggiggehbiaa.Pure
open Go.RowKit Go.Proofs.Ytcojggiggehbiaa.P Go.Proofs.YtcojggiggehbiaaW.PrintWords Go.Proofs.YtcojggiggehbiaaL

theorem opens49 : Opens Try.prog k49 (fun _ => True) 49 := by
  intro H enc w base spare held fuel cs x h hw
  obtain ⟨hl, hf⟩ := trod_cells Try.underlying49 (by kernel_rfl) (by kernel_rfl) h hw
  obtain ⟨n0, v0, y0, e0, h0, w0⟩ := hf 0 _ rfl
  obtain ⟨n1, v1, y1, e1, h1, w1⟩ := hf 1 _ rfl
  obtain ⟨a0, g0, _⟩ := opens_int Try.underlying3 enc w base spare held _ _ _ h0 w0
  obtain ⟨a1, g1, _⟩ := opens_string Try.underlying9 enc w base spare held _ _ _ h1 w1
  obtain rfl := int_of g0
  obtain rfl := string_of g1
  match cs, hl with
  | [c0, c1], _ =>
    simp at e0 e1
    subst e0 e1
    exact ⟨⟨a0, a1⟩, k49_mk w _, trivial⟩
theorem opens22 : Opens Try.prog (Kd.slice 49 k49) (fun xs => xs.length * Try.prog.bytesOf 49 ≤ reachBytes ∧ ∀ x ∈ xs, True) 22 :=
  opens_slice Try.underlying22 (by kernel_rfl) opens49

theorem scoreOf_walk (A : Option Addr) (c : Nat) (l : List S49) (now : Int) (dir : ByteArray) (w : World) (hr : Kd.C k49 w A l.length l) (hc : l.length ≤ c) (hl : l.length * Try.prog.bytesOf 49 ≤ reachBytes) :
    Calls Try.prog 3 #[.slice A l.length c, .int .i64 now, .string dir] w fun e w' => e = .returned (.bool true) ∧ Below w.heap.size w w' := by
  have hb : Try.prog.bytesOf 49 = 24 := by kernel_rfl
  rw [hb] at hl
  unfold reachBytes at hl
  obtain ⟨k, hk⟩ := ScoreOf l (by omega) now dir
  exact souffleurlaw14_ScoreOf.calls k A c l now dir true w hr hc hk

end Go.Proofs.Ytcojggiggehbiaa.Pure
