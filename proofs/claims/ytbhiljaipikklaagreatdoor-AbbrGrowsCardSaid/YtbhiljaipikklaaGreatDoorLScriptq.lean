/- Parts of the proof of the law that the last file states; declarations that nothing mentions are left out by a program. No conditions. -/
import Derived.Test.YtbhiljaipikklaaGreatDoorLOpenq
import Derived.Test.YtbhiljaipikklaaGreatDoorLAliveq
set_option linter.unusedVariables false
set_option linter.unusedSimpArgs false
namespace Go.Proofs.YtbhiljaipikklaaGreatDoorL
open Go Go.RowKit Go.Proofs.YtbhiljaipikklaaGreatDoorW.PrintWords Go.Proofs.YtbhiljaipikklaaGreatDoor.K
def szOf (x : S30) : Int := (x.f1.size : Int) + x.f2.size
def SizedS (x : S30) : Prop := x.f1.size ≤ 140737488351232 ∧ x.f2.size ≤ 140737488351232
theorem w64 {x : Int} (h : -9223372036854775808 ≤ x) (h2 : x ≤ 9223372036854775807) : wrap64 x = x := by
  unfold wrap64
  omega
theorem rd_get {l : List S30} {j : Nat} (h : j < l.length) : rd_T30 l (j : Int) = l[j] := by
  unfold rd_T30
  simp [h]
def FewP (l : List S30) : Prop := l.length ≤ 100 ∧ ∀ x ∈ l, szOf x ≤ 6000
theorem few_loop (l : List S30) (hl : l.length ≤ 4000000000000000000) (hs : ∀ x ∈ l, SizedS x) : ∀ (d j : Nat) (n : Int), j + d = l.length → (l.length ≤ 100 → 0 ≤ n ∧ n ≤ j * 1000000000000000 ∧ ∀ i (hi : i < l.length), i < j → szOf l[i] ≤ n) →
    ∃ r, souffleurlaw08_few.l0 (d + 1) l n l (l.length : Int) (j : Int) = some r ∧ (r = true → FewP l) := by
  intro d
  induction d with
  | zero =>
    intro j n hj hn
    have h1 : ¬ (j : Int) < (l.length : Int) := by omega
    unfold souffleurlaw08_few.l0
    rw [if_neg h1]
    by_cases h2 : (l.length : Int) ≤ 100
    · rw [if_pos h2]
      refine ⟨_, rfl, fun hr => ⟨by omega, fun x hx => ?_⟩⟩
      obtain ⟨i, hi, rfl⟩ := List.mem_iff_getElem.1 hx
      have := (hn (by omega)).2.2 i hi (by omega)
      have h3 : n ≤ 6000 := by simpa using hr
      omega
    · rw [if_neg h2]
      exact ⟨false, rfl, fun h => by cases h⟩
  | succ d ih =>
    intro j n hj hn
    have hlt : j < l.length := by omega
    unfold souffleurlaw08_few.l0
    rw [if_pos (by omega), if_pos (by omega), if_pos (by omega), rd_get hlt]
    have e : wrap64 ((j : Int) + 1) = ((j + 1 : Nat) : Int) := by unfold wrap64; omega
    rw [e]
    have hsz := hs _ (List.getElem_mem hlt)
    refine ih (j + 1) _ (by omega) (fun h80 => ?_)
    obtain ⟨n1, n2, n3⟩ := hn h80
    obtain ⟨s1, s2⟩ := hsz
    have hj80 : (j : Int) ≤ 100 := by omega
    have hex : (j : Int) * 1000000000000000 ≤ 100 * 1000000000000000 := Int.mul_le_mul_of_nonneg_right hj80 (by omega)
    have hw : wrap64 (n + wrap64 (((l[j].f1).size : Int) + ((l[j].f2).size : Int))) = n + szOf l[j] := by
      rw [w64 (x := ((l[j].f1).size : Int) + ((l[j].f2).size : Int)) (by omega) (by omega), w64 (by omega) (by omega)]
      rfl
    rw [hw]
    have h0 : 0 ≤ szOf l[j] := by unfold szOf; omega
    have hm : szOf l[j] ≤ 1000000000000000 := by unfold szOf; omega
    have he : ((j + 1 : Nat) : Int) * 1000000000000000 = (j : Int) * 1000000000000000 + 1000000000000000 := by omega
    refine ⟨by omega, by omega, fun i hi hij => ?_⟩
    rcases Nat.lt_or_ge i j with h | h
    · have := n3 i hi h
      omega
    · obtain rfl : i = j := by omega
      omega
theorem few_tells (l : List S30) (hl : l.length ≤ 4000000000000000000) (hs : ∀ x ∈ l, SizedS x) : ∃ k r, souffleurlaw08_few.f k l = some r ∧ (r = true → FewP l) := by
  obtain ⟨r, h1, h2⟩ := few_loop l hl hs l.length 0 0 (by omega) (fun _ => ⟨by omega, by omega, fun i hi h => by omega⟩)
  exact ⟨_, r, h1, h2⟩
theorem opensOp : Opens Tryz.prog k30 SizedS 30 := by
  intro H enc w base spare held fuel cs x h hw
  obtain ⟨hl, hf⟩ := trod_cells Tryz.underlying30 (by kernel_rfl) (by kernel_rfl) h hw
  obtain ⟨n0, v0, y0, e0, h0, w0⟩ := hf 0 _ rfl
  obtain ⟨n1, v1, y1, e1, h1, w1⟩ := hf 1 _ rfl
  obtain ⟨n2, v2, y2, e2, h2, w2⟩ := hf 2 _ rfl
  obtain ⟨a0, g0, _⟩ := opens_int Tryz.underlying3 enc w base spare held _ _ _ h0 w0
  obtain ⟨a1, g1, q1⟩ := opens_string Tryz.underlying9 enc w base spare held _ _ _ h1 w1
  obtain ⟨a2, g2, q2⟩ := opens_string Tryz.underlying9 enc w base spare held _ _ _ h2 w2
  obtain rfl := int_of g0
  obtain rfl := string_of g1
  obtain rfl := string_of g2
  match cs, hl with
  | [c0, c1, c2], _ =>
    simp at e0 e1 e2
    subst e0 e1 e2
    exact ⟨⟨a0, a1, a2⟩, k30_mk w _, q1, q2⟩
theorem opensOps : Opens Tryz.prog (Kd.slice 30 k30) (fun xs => xs.length * Tryz.prog.bytesOf 30 ≤ reachBytes ∧ ∀ x ∈ xs, SizedS x) 22 :=
  opens_slice Tryz.underlying22 (by kernel_rfl) opensOp
def kBuf : Kd (ByteArray × Int) := Kd.pair Kd.string (Kd.int .i64)
theorem kBuf_open {w : World} {x : ByteArray × Int} {cs : List Value} (h : kBuf.K w x cs) : cs = [.string x.1, .int .i64 x.2] := by
  obtain ⟨a, b, rfl, h1, h2⟩ := h
  rw [show a = [Value.string x.1] from h1, show b = [Value.int .i64 x.2] from h2]
  rfl
theorem opensBuf : Opens Tryz.prog kBuf (fun x => x.1.size ≤ 140737488351232) 41 := by
  intro H enc w base spare held fuel cs x h hw
  obtain ⟨hl, hf⟩ := trod_cells Tryz.underlying41 (by kernel_rfl) (by kernel_rfl) h hw
  obtain ⟨n0, v0, y0, e0, h0, w0⟩ := hf 0 _ rfl
  obtain ⟨n1, v1, y1, e1, h1, w1⟩ := hf 1 _ rfl
  obtain ⟨a0, g0, q0⟩ := opens_string Tryz.underlying9 enc w base spare held _ _ _ h0 w0
  obtain ⟨a1, g1, _⟩ := opens_int Tryz.underlying3 enc w base spare held _ _ _ h1 w1
  obtain rfl := string_of g0
  obtain rfl := int_of g1
  match cs, hl with
  | [c0, c1], _ =>
    simp at e0 e1
    subst e0 e1
    exact ⟨(a0, a1), ⟨[.string a0], [.int .i64 a1], rfl, rfl, rfl⟩, q0⟩
theorem few_few {l0 : List S30} {W : World} {A0 : Option Addr} (hr0 : Kd.C k30 W A0 l0.length l0) (hs : l0.length * Tryz.prog.bytesOf 30 ≤ reachBytes ∧ ∀ x ∈ l0, SizedS x) : ∃ k r, souffleurlaw08_few.f k l0 = some r ∧ (r = true → FewP l0) :=
  few_tells l0 (by have h1 := hs.1; rw [show Tryz.prog.bytesOf 30 = 40 from by kernel_rfl] at h1; unfold reachBytes at h1; omega) hs.2
end Go.Proofs.YtbhiljaipikklaaGreatDoorL

