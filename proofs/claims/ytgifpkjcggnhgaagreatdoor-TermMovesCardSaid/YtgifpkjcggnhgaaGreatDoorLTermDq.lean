/- Parts of the proof of the law that the last file states; declarations that nothing mentions are left out by a program. No conditions. -/
import Derived.Test.YtgifpkjcggnhgaaGreatDoorLTermQq
set_option linter.unusedVariables false
set_option linter.unusedSimpArgs false
namespace Go.Proofs.YtgifpkjcggnhgaaGreatDoorL
open Go Go.RowKit
def Dims (s t : Tm) : Prop := t.cols = s.cols ∧ t.l.length = s.l.length
section
variable {M : Nat} {s t u : Tm}
theorem Dims.refl (s : Tm) : Dims s s := ⟨rfl, rfl⟩
theorem Dims.trans (h : Dims s t) (k : Dims t u) : Dims s u := ⟨k.1.trans h.1, k.2.trans h.2⟩
theorem dims_onRow (s : Tm) (r : Nat) (f : List TC → List TC) : Dims s (s.onRow r f) := ⟨rfl, by unfold Tm.onRow; exact List.length_modify ..⟩
theorem dims_down (s : Tm) (h : 1 ≤ s.l.length) : Dims s s.down := by
  unfold Tm.down
  split
  · exact ⟨rfl, rfl⟩
  · refine ⟨rfl, ?_⟩
    unfold Tm.scroll
    show (s.l.tail ++ [blankR s.cols]).length = s.l.length
    rw [List.length_append, List.length_tail, List.length_singleton]
    omega
theorem dims_fresh (s : Tm) (h : 1 ≤ s.l.length) : Dims s s.fresh := dims_down s h
theorem dims_roomy (s : Tm) (w : Nat) (h : 1 ≤ s.l.length) : Dims s (s.roomy w) := by
  unfold Tm.roomy
  split
  · have h1 := dims_onRow s s.row (putR · s.col blankC)
    exact h1.trans (dims_fresh _ (by rw [h1.2]; exact h))
  · exact Dims.refl s
theorem dims_half (s : Tm) (w : Nat) : Dims s (s.half w) := by
  unfold Tm.half
  split
  · exact dims_onRow ..
  · exact Dims.refl s
theorem dims_go_on (s : Tm) (w : Nat) : Dims s (s.go_on w) := by
  unfold Tm.go_on
  split <;> exact ⟨rfl, rfl⟩
theorem dims_print (s : Tm) (r : Int) (w : Nat) (h : 1 ≤ s.l.length) : Dims s (s.print r w) := by
  unfold Tm.print
  have h1 := dims_roomy s w h
  have h2 : Dims (s.roomy w) ((s.roomy w).show_ r w) := dims_onRow ..
  exact ((h1.trans h2).trans (dims_half _ w)).trans (dims_go_on _ w)
theorem dims_join (s : Tm) (t : ByteArray) : Dims s (s.join t) := by
  unfold Tm.join
  split
  · exact dims_onRow ..
  split
  · exact Dims.refl s
  · exact dims_onRow ..
theorem dims_sign (s : Tm) (r : Int) (h : 1 ≤ s.l.length) : Dims s (s.sign r) := by
  unfold Tm.sign
  split
  · exact Dims.refl s
  split
  · exact dims_join ..
  dsimp only
  have h1 : Dims s (if s.full = true then s.fresh else s) := by
    split
    · exact dims_fresh s h
    · exact Dims.refl s
  generalize (if s.full = true then s.fresh else s) = s1 at h1 ⊢
  split
  · exact h1.trans (dims_print _ _ _ (by rw [h1.2]; exact h))
  · exact h1.trans (dims_print _ _ _ (by rw [h1.2]; exact h))
theorem dims_signs : ∀ (l : List Nat) (s : Tm), 1 ≤ s.l.length → Dims s (s.signs l)
  | [], s, _ => Dims.refl s
  | r :: l, s, h => by
    have e : s.signs (r :: l) = (s.sign (r : Int)).signs l := by unfold Tm.signs; rw [List.foldl_cons]
    rw [e]
    have h1 := dims_sign s r h
    exact h1.trans (dims_signs l _ (by rw [h1.2]; exact h))
theorem dims_control (s : Tm) (x : Nat) (h : 1 ≤ s.l.length) : Dims s (s.control x) := by
  unfold Tm.control
  split
  · exact ⟨rfl, rfl⟩
  split
  · exact dims_down s h
  split <;> exact ⟨rfl, rfl⟩
theorem dims_to (s : Tm) (a b : Int) : Dims s (s.to_ a b) := ⟨rfl, rfl⟩
theorem dims_home (s : Tm) (q : List UInt8) : Dims s (s.home q) := by
  unfold Tm.home
  dsimp only
  split <;> exact ⟨rfl, rfl⟩
theorem dims_eraseRest : ∀ (n k : Nat) (s : Tm), Dims s (eraseRest n k s)
  | 0, _, s => Dims.refl s
  | n + 1, k, s => (dims_onRow s k _).trans (dims_eraseRest n (k + 1) (s.erase k 0))
theorem dims_ends (s : Tm) (q : List UInt8) (x : Nat) : Dims s (s.ends q x) := by
  unfold Tm.ends
  refine ite_ind (Dims s) (fun _ => dims_home s q) (fun _ => ite_ind (Dims s) (fun _ => Dims.refl s) (fun _ => ?_))
  dsimp only
  refine ite_ind (Dims s) (fun _ => dims_to _ _ _) (fun _ => ite_ind (Dims s) (fun _ => dims_to _ _ _) (fun _ => ite_ind (Dims s) (fun _ => dims_to _ _ _) (fun _ => ite_ind (Dims s) (fun _ => dims_to _ _ _) (fun _ => ite_ind (Dims s) (fun _ => dims_to _ _ _) (fun _ => ?_)))))
  refine ite_ind (Dims s) (fun _ => ite_ind (Dims s) (fun _ => (dims_onRow s s.row _).trans (dims_eraseRest _ _ _)) (fun _ => Dims.refl s)) (fun _ => ?_)
  refine ite_ind (Dims s) (fun _ => ite_ind (Dims s) (fun _ => dims_onRow ..) (fun _ => Dims.refl s)) (fun _ => ?_)
  exact ite_ind (Dims s) (fun _ => ite_ind (Dims s) (fun _ => ⟨rfl, rfl⟩) (fun _ => Dims.refl s)) (fun _ => Dims.refl s)
theorem dims_drain : ∀ (n : Nat) (s : Tm), 1 ≤ s.l.length → Dims s (drainT n s)
  | 0, s, _ => Dims.refl s
  | n + 1, s, h => by
    unfold drainT
    split
    · have h1 := dims_sign s ((Lib.decodeL (s.b.take 4)).1 : Int) h
      have h2 : Dims s { s.sign ((Lib.decodeL (s.b.take 4)).1 : Int) with b := s.b.drop (Lib.decodeL (s.b.take 4)).2 } := h1
      exact h2.trans (dims_drain n _ (by show 1 ≤ (s.sign _).l.length; rw [h1.2]; exact h))
    · exact Dims.refl s
theorem dims_plain (s : Tm) (x : Nat) (h : 1 ≤ s.l.length) : Dims s (s.plain x) := by
  unfold Tm.plain
  split
  · exact ⟨rfl, rfl⟩
  split
  · exact dims_control s x h
  · exact dims_sign s x h
theorem dims_byte (s : Tm) (x : UInt8) (h : 1 ≤ s.l.length) : Dims s (s.byte x) := by
  unfold Tm.byte
  split
  · exact dims_drain _ { s with b := s.b ++ [x] } h
  split
  · have h1 := dims_signs (runesL s.b) s h
    have h2 : Dims s { s.signs (runesL s.b) with b := [] } := h1
    exact h2.trans (dims_plain _ _ (by show 1 ≤ (s.signs _).l.length; rw [h1.2]; exact h))
  split
  · exact ⟨rfl, rfl⟩
  split
  · exact ⟨rfl, rfl⟩
  split
  · exact dims_ends { s with inn := 0 } _ _
  · exact ⟨rfl, rfl⟩
theorem dims_feed : ∀ (l : List UInt8) (s : Tm), 1 ≤ s.l.length → Dims s (s.feed l)
  | [], s, _ => Dims.refl s
  | x :: l, s, h => by
    have e : s.feed (x :: l) = (s.byte x).feed l := by unfold Tm.feed; rw [List.foldl_cons]
    rw [e]
    have h1 := dims_byte s x h
    exact h1.trans (dims_feed l _ (by rw [h1.2]; exact h))
end
end Go.Proofs.YtgifpkjcggnhgaaGreatDoorL

