/- Parts of the proof of the law that the last file states; declarations that nothing mentions are left out by a program. No conditions. -/
import Derived.Test.YtcpkoajnepijkaaScriptk
namespace Go.Proofs.Ytcpkoajnepijkaa
set_option linter.unusedVariables false
set_option linter.unusedSimpArgs false
open Go.RowKit Go.Proofs.YtcpkoajnepijkaaL Go.Proofs.YtcpkoajnepijkaaW.PrintWords Go.Proofs.Ytcpkoajnepijkaa.Q
def doP (S : PS) (x : S34) : Int × PS :=
  if x.f0 = 0 then writeP S x.f1 x.f3 else if x.f0 = 1 then syncP S x.f1 else if x.f0 = 2 then renameP S x.f1 x.f2 else if x.f0 = 3 then removeP S x.f1 else cutP S x.f1 x.f4
theorem does_do {base : Nat} {Lz : Nat → Prop} {w : World} {F : Nat} {fp : Nat → Prop} {S : PS} {k : Nat} (h : FSat base Lz w F fp S k) (hk : k ≤ 100000) (x : S34) (h0 : 0 ≤ x.f0) (h4 : x.f0 ≤ 4) {A3 A5 : Option Addr} {c3 c5 : Nat} (hb : RB base NoL w (.slice A3 x.f3.length c3) x.f3) (hbl : x.f3.length ≤ 65536) :
    Calls Try.prog 16 #[ptr F, .agg #[.int .i64 x.f0, .string x.f1, .string x.f2, .slice A3 x.f3.length c3, .int .i64 x.f4, .slice A5 x.f5.length c5]] w fun e w' => LeftD base Lz w F fp (k + 1) e w' (doP S x) := by
  obtain ⟨f0, f1, f2, f3, f4, f5⟩ := x
  simp only at h0 h4 hb hbl ⊢
  have hc : f0 = 0 ∨ f0 = 1 ∨ f0 = 2 ∨ f0 = 3 ∨ f0 = 4 := by omega
  rcases hc with rfl | rfl | rfl | rfl | rfl
  · exact does_write h hk hb hbl
  · exact does_sync h hk
  · exact does_rename h hk
  · exact does_remove h hk
  · exact does_cut h hk
theorem begin_down {S : PS} (h : S.down = true) (s : ByteArray) (may : Bool) : beginP S s may = (none, 100, S) := by simp [beginP, h]
theorem do_down {S : PS} (h : S.down = true) (x : S34) : doP S x = (100, S) := by
  unfold doP
  simp [writeP, syncP, renameP, removeP, cutP, begin_down h, h]
def CountP (S : PS) (r : Int × PS) : Prop := (r.1 ≠ 100 ∧ r.2.ops = S.ops ∧ r.2.fuse = S.fuse ∧ r.2.down = false) ∨ (r.2.ops = S.ops + 1 ∧ r.2.fuse = decP S.fuse ∧ r.2.down = (S.fuse == 0) ∧ (r.1 = 100 ↔ S.fuse = 0))
theorem begin_up {S : PS} (h : S.down = false) (s : ByteArray) (may : Bool) : beginP S s may = (none, 101, S) ∨ (S.fuse = 0 ∧ beginP S s may = (none, 100, countP S)) ∨ (S.fuse ≠ 0 ∧ ∃ f, beginP S s may = (some f, 0, countP S)) := by
  unfold beginP
  rw [if_neg (by simp [h])]
  cases findP s S.l with
  | none => exact .inl rfl
  | some f =>
    simp only
    cases may with
    | false => exact .inl rfl
    | true =>
      by_cases hf : S.fuse = 0
      · right; left; exact ⟨hf, by simp [hf]⟩
      · right; right; exact ⟨hf, f, by simp [hf]⟩
theorem do_up {S : PS} (h : S.down = false) (x : S34) : CountP S (doP S x) := by
  have hb : ∀ (s : ByteArray) (may : Bool) (g : Option PF × Int × PS → Int × PS), (∀ n S', g (none, n, S') = (n, S')) → (∀ f n S', ∃ l, g (some f, n, S') = (n, { S' with l := l })) → CountP S (g (beginP S s may)) := by
    intro s may g g1 g2
    rcases begin_up h s may with e | ⟨h0, e⟩ | ⟨h0, f, e⟩
    · rw [e, g1]; exact .inl ⟨by simp, rfl, rfl, h⟩
    · rw [e, g1]; exact .inr ⟨rfl, rfl, rfl, by simp [h0]⟩
    · obtain ⟨l, e2⟩ := g2 f 0 (countP S)
      rw [e, e2]
      exact .inr ⟨rfl, rfl, rfl, by simp [h0]⟩
  unfold doP
  split
  · unfold writeP
    rw [if_neg (by simp [h])]
    split
    · exact .inl ⟨by simp, rfl, rfl, h⟩
    simp only
    split
    · exact .inl ⟨by simp, rfl, rfl, h⟩
    split
    · refine .inr ⟨rfl, rfl, rfl, ?_⟩
      by_cases hf : S.fuse = 0 <;> simp [hf]
    · refine .inr ⟨rfl, rfl, rfl, ?_⟩
      by_cases hf : S.fuse = 0 <;> simp [hf]
  split
  · exact hb x.f1 true (fun r => match r with | (some f, n, S') => (n, { S' with l := withP { f with b := bytesP f, row := [] } S'.l }) | (none, n, S') => (n, S')) (fun _ _ => rfl) (fun f n S' => ⟨_, rfl⟩)
  split
  · exact hb x.f1 (namedB x.f2) (fun r => match r with | (some f, n, S') => (n, { S' with l := withP { f with name := x.f2 } (withoutP x.f1 S'.l) }) | (none, n, S') => (n, S')) (fun _ _ => rfl) (fun f n S' => ⟨_, rfl⟩)
  split
  · exact hb x.f1 true (fun r => match r with | (some _, n, S') => (n, { S' with l := withoutP x.f1 S'.l }) | (none, n, S') => (n, S')) (fun _ _ => rfl) (fun f n S' => ⟨_, rfl⟩)
  · exact hb x.f1 true (fun r => match r with | (some f, n, S') => (n, { S' with l := withP { f with b := (bytesP f).take (cutN x.f4 (bytesP f).length), row := [] } S'.l }) | (none, n, S') => (n, S')) (fun _ _ => rfl) (fun f n S' => ⟨_, rfl⟩)
def DInv (n : Int) (S : PS) : Prop := (n < 0 ∧ S.fuse = -1 ∧ S.down = false) ∨ (0 ≤ n ∧ S.down = false ∧ (S.ops : Int) ≤ n ∧ S.fuse = n - S.ops) ∨ (0 ≤ n ∧ S.down = true ∧ (S.ops : Int) = n + 1)
theorem dinv_step {n : Int} {S : PS} (h : DInv n S) (x : S34) : DInv n (doP S x).2 ∧
    ((S.down = true ∧ doP S x = (100, S) ∧ 0 ≤ n ∧ n < (S.ops : Int)) ∨
     (S.down = false ∧ (doP S x).1 = 100 ∧ (doP S x).2.down = true ∧ 0 ≤ n ∧ n < ((doP S x).2.ops : Int)) ∨
     (S.down = false ∧ (doP S x).1 ≠ 100 ∧ (doP S x).2.down = false ∧ n < 0) ∨
     (S.down = false ∧ (doP S x).1 ≠ 100 ∧ (doP S x).2.down = false ∧ 0 ≤ n ∧ ((doP S x).2.ops : Int) ≤ n)) := by
  rcases h with ⟨h1, h2, h3⟩ | ⟨h1, h2, h3, h4⟩ | ⟨h1, h2, h3⟩
  · rcases do_up h3 x with ⟨a, b, c, d⟩ | ⟨a, b, c, d⟩
    · exact ⟨.inl ⟨h1, by rw [c, h2], d⟩, .inr (.inr (.inl ⟨h3, a, d, h1⟩))⟩
    · rw [h2] at b c d
      exact ⟨.inl ⟨h1, by rw [b]; rfl, by rw [c]; rfl⟩, .inr (.inr (.inl ⟨h3, fun e => by have := d.1 e; omega, by rw [c]; rfl, h1⟩))⟩
  · rcases do_up h2 x with ⟨a, b, c, d⟩ | ⟨a, b, c, d⟩
    · exact ⟨.inr (.inl ⟨h1, d, by rw [b]; exact h3, by rw [c, b]; exact h4⟩), .inr (.inr (.inr ⟨h2, a, d, h1, by rw [b]; exact h3⟩))⟩
    · by_cases hf : S.fuse = 0
      · have e : (doP S x).2.down = true := by rw [c, hf]; rfl
        exact ⟨.inr (.inr ⟨h1, e, by rw [a]; omega⟩), .inr (.inl ⟨h2, d.2 hf, e, h1, by rw [a]; omega⟩)⟩
      · have e : (doP S x).2.down = false := by rw [c]; simp [hf]
        have hd : decP S.fuse = n - (S.ops + 1 : Nat) := by unfold decP; split <;> omega
        exact ⟨.inr (.inl ⟨h1, e, by rw [a]; omega, by rw [b, a, hd]⟩), .inr (.inr (.inr ⟨h2, fun e' => hf (d.1 e'), e, h1, by rw [a]; omega⟩))⟩
  · rw [do_down h2 x]
    exact ⟨.inr (.inr ⟨h1, h2, h3⟩), .inl ⟨h2, rfl, h1, by omega⟩⟩
end Go.Proofs.Ytcpkoajnepijkaa
namespace Go.Proofs.Ytcpkoajnepijkaa
set_option linter.unusedVariables false
set_option linter.unusedSimpArgs false
open Go.RowKit Go.Proofs.YtcpkoajnepijkaaL Go.Proofs.YtcpkoajnepijkaaW.PrintWords Go.Proofs.Ytcpkoajnepijkaa.Q
end Go.Proofs.Ytcpkoajnepijkaa
namespace Go.Proofs.Ytcpkoajnepijkaa
set_option linter.unusedVariables false
set_option linter.unusedSimpArgs false
open Go.RowKit Go.Proofs.YtcpkoajnepijkaaL Go.Proofs.YtcpkoajnepijkaaW.PrintWords Go.Proofs.Ytcpkoajnepijkaa.Q
end Go.Proofs.Ytcpkoajnepijkaa

