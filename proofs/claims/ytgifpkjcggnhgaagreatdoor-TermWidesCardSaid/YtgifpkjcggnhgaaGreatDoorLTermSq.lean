/- Parts of the proof of the law that the last file states; declarations that nothing mentions are left out by a program. No conditions. -/
import Derived.Deep.Slices
import Derived.Deep.Fields
import Derived.ChangeSame
import Derived.OpenShut
import Derived.SizedLaws
import Derived.Test.YtgifpkjcggnhgaaGreatDoorWWordsq
import Derived.Test.YtgifpkjcggnhgaaGreatDoorLTermAq
import Derived.Test.YtgifpkjcggnhgaaGreatDoorKx2q
import Derived.Test.YtgifpkjcggnhgaaGreatDoorKx0q
import Derived.Test.YtgifpkjcggnhgaaGreatDoorLTermQq
set_option linter.unusedVariables false
set_option linter.unusedSimpArgs false
section
namespace Go.Proofs.YtgifpkjcggnhgaaGreatDoorL
open Go Go.RowKit Go.Proofs.YtgifpkjcggnhgaaGreatDoorW.PrintWords Go.Proofs.YtgifpkjcggnhgaaGreatDoor.K
def toT (c : TC) : S32 := ⟨c.S, c.wide, c.dim⟩
theorem RowAt.C {w : World} {r : RR} {l : List TC} (h : RowAt w r l) (h1 : l.length ≤ 1000) : Kd.C k32 w (some ⟨r.g, 0, none⟩) l.length (l.map toT) := by
  refine ⟨by rw [List.length_map], by omega, fun _ => ⟨_, rfl, fun j p hj => ?_⟩⟩
  rw [List.getElem?_map] at hj
  obtain ⟨c, hc, rfl⟩ := Option.map_eq_some_iff.1 hj
  have hjl := (List.getElem?_eq_some_iff.1 hc).1
  have hcj := (List.getElem?_eq_some_iff.1 hc).2
  refine ⟨cV c, rfl, k32_mk w (toT c), fun i u hi => ?_⟩
  have hi3 : i < 3 := (List.getElem?_eq_some_iff.1 hi).1
  have h2 := h.cell hjl hi3
  rw [getC_get hjl, hcj] at h2
  rw [Addr.add_lit_, Nat.zero_add]
  exact h2.trans hi
end Go.Proofs.YtgifpkjcggnhgaaGreatDoorL
end
section
namespace Go.Proofs.YtgifpkjcggnhgaaGreatDoorL
open Go Go.RowKit
def Dims (s t : Tm) : Prop := t.cols = s.cols ∧ t.l.length = s.l.length
section
variable {M : Nat} {s t u : Tm}
theorem Dims.refl (s : Tm) : Dims s s := ⟨rfl, rfl⟩
theorem Dims.trans (h : Dims s t) (k : Dims t u) : Dims s u := ⟨k.1.trans h.1, k.2.trans h.2⟩
theorem dims_onRow (s : Tm) (r : Nat) (f : List TC → List TC) : Dims s (s.onRow r f) := ⟨rfl, by unfold Tm.onRow; exact List.length_modify ..⟩
theorem cutN_same {n m : Nat} (h1 : 1 ≤ n) (h2 : n ≤ m) : cutN (n : Int) m = n := by unfold cutN; omega
end
end Go.Proofs.YtgifpkjcggnhgaaGreatDoorL
end
