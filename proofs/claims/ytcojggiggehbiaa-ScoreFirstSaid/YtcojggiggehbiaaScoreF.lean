/- The arguments of the laws on ranks open to lists and structs; the walk of ScoreBetter. No conditions. -/
import Derived.Test.YtcojggiggehbiaaLOpen
import Derived.Test.YtcojggiggehbiaaScoreD
namespace Go.Proofs.Ytcojggiggehbiaa.Pure
open Go.RowKit Go.Proofs.Ytcojggiggehbiaa.P Go.Proofs.YtcojggiggehbiaaW.PrintWords Go.Proofs.YtcojggiggehbiaaL

theorem opens35 : Opens Try.prog k35 (fun _ => True) 35 := by
  intro H enc w base spare held fuel cs x h hw
  obtain ⟨hl, hf⟩ := trod_cells Try.underlying35 (by kernel_rfl) (by kernel_rfl) h hw
  obtain ⟨n0, v0, y0, e0, h0, w0⟩ := hf 0 _ rfl
  obtain ⟨n1, v1, y1, e1, h1, w1⟩ := hf 1 _ rfl
  obtain ⟨n2, v2, y2, e2, h2, w2⟩ := hf 2 _ rfl
  obtain ⟨a0, g0, _⟩ := opens_int Try.underlying3 enc w base spare held _ _ _ h0 w0
  obtain ⟨a1, g1, _⟩ := opens_int Try.underlying3 enc w base spare held _ _ _ h1 w1
  obtain ⟨a2, g2, _⟩ := opens_string Try.underlying9 enc w base spare held _ _ _ h2 w2
  obtain rfl := int_of g0
  obtain rfl := int_of g1
  obtain rfl := string_of g2
  match cs, hl with
  | [c0, c1, c2], _ =>
    simp at e0 e1 e2
    subst e0 e1 e2
    exact ⟨⟨a0, a1, a2⟩, k35_mk w _, trivial⟩
theorem opens39 : Opens Try.prog (Kd.slice 35 k35) (fun xs => xs.length * Try.prog.bytesOf 35 ≤ reachBytes ∧ ∀ x ∈ xs, True) 39 :=
  opens_slice Try.underlying39 (by kernel_rfl) opens35

theorem agg_of {cs : Array Value} {l : List Value} (h : cs.toList = l) : cs = l.toArray := by
  rw [← h]

theorem scoreBetter_walk (x y : S35) (cs ds : Array Value) (w : World) (hx : k35.K w x cs.toList) (hy : k35.K w y ds.toList) :
    Calls Try.prog 5 #[.agg cs, .agg ds] w fun e w' => e = .returned (.bool true) ∧ Below w.heap.size w w' := by
  obtain rfl := agg_of (k35_open hx)
  obtain rfl := agg_of (k35_open hy)
  obtain ⟨k, hk⟩ := ScoreBetter (x.f0, x.f1, x.f2) (y.f0, y.f1, y.f2)
  exact souffleurlaw14_ScoreBetter.calls k x.f0 x.f1 x.f2 y.f0 y.f1 y.f2 true w hk

end Go.Proofs.Ytcojggiggehbiaa.Pure
