/- Parts of the proof of the law that the last file states; declarations that nothing mentions are left out by a program. No conditions. -/
import Derived.Test.YtgifpkjcggnhgaaGreatDoorLOpenq
import Derived.Test.YtgifpkjcggnhgaaGreatDoorLTermAq
import Derived.Test.YtgifpkjcggnhgaaGreatDoorKx2q
import Derived.Test.YtgifpkjcggnhgaaGreatDoorKx3q
set_option linter.unusedVariables false
set_option linter.unusedSimpArgs false
namespace Go.Proofs.YtgifpkjcggnhgaaGreatDoorL
open Go Go.RowKit Go.Proofs.YtgifpkjcggnhgaaGreatDoorW.PrintWords Go.Proofs.YtgifpkjcggnhgaaGreatDoor.K
def lenE (x : S46) : Nat := x.f3.length
def lenSum (l : List S46) : Nat := (l.map lenE).sum
def SizedE (x : S46) : Prop := x.f3.length ≤ 140737488351232 ∧ ∀ b ∈ x.f3, (Lit.int .u8 b).wf = true
theorem rd_ev {l : List S46} {j : Nat} (h : j < l.length) : rd_T46 l (j : Int) = l[j] := by
  unfold rd_T46
  simp [h]
def FewE (l : List S46) : Prop := l.length ≤ 40 ∧ lenSum l ≤ 800
theorem lenSum_take {l : List S46} {j : Nat} (h : j < l.length) : lenSum (l.take (j + 1)) = lenSum (l.take j) + lenE l[j] := by
  unfold lenSum
  rw [List.take_add_one, List.getElem?_eq_getElem h, List.map_append, List.sum_append]
  simp
theorem lenSum_le (l : List S46) (j : Nat) : lenSum (l.take j) ≤ lenSum l := by
  unfold lenSum
  conv => rhs; rw [← List.take_append_drop j l]
  rw [List.map_append, List.sum_append]
  omega
theorem few_loopE (l : List S46) (hl : l.length ≤ 4000000000000000000) (hs : ∀ x ∈ l, SizedE x) : ∀ (d j : Nat) (n : Int), j + d = l.length → (l.length ≤ 40 → n = (lenSum (l.take j) : Int) ∧ n ≤ j * 1000000000000000) →
    ∃ r, souffleurlaw17_few.l0 (d + 1) l n l (l.length : Int) (j : Int) = some r ∧ (r = true → FewE l) := by
  intro d
  induction d with
  | zero =>
    intro j n hj hn
    have h1 : ¬ (j : Int) < (l.length : Int) := by omega
    unfold souffleurlaw17_few.l0
    rw [if_neg h1]
    by_cases h2 : (l.length : Int) ≤ 40
    · rw [if_pos h2]
      refine ⟨_, rfl, fun hr => ⟨by omega, ?_⟩⟩
      have h3 : n ≤ 800 := by simpa using hr
      have h4 := (hn (by omega)).1
      rw [List.take_of_length_le (by omega)] at h4
      omega
    · rw [if_neg h2]
      exact ⟨false, rfl, fun h => by cases h⟩
  | succ d ih =>
    intro j n hj hn
    have hlt : j < l.length := by omega
    unfold souffleurlaw17_few.l0
    rw [if_pos (by omega), if_pos (by omega), if_pos (by omega), rd_ev hlt]
    have e : wrap64 ((j : Int) + 1) = ((j + 1 : Nat) : Int) := by unfold wrap64; omega
    rw [e]
    have hsz := (hs _ (List.getElem_mem hlt)).1
    refine ih (j + 1) _ (by omega) (fun h40 => ?_)
    obtain ⟨n1, n2⟩ := hn h40
    have hj40 : (j : Int) ≤ 40 := by omega
    have hex : (j : Int) * 1000000000000000 ≤ 40 * 1000000000000000 := Int.mul_le_mul_of_nonneg_right hj40 (by omega)
    have hw : wrap64 (n + ((l[j].f3).length : Int)) = n + ((l[j].f3).length : Int) := by unfold wrap64; omega
    rw [hw, lenSum_take hlt, n1]
    have he : ((j + 1 : Nat) : Int) * 1000000000000000 = (j : Int) * 1000000000000000 + 1000000000000000 := by omega
    unfold lenE
    refine ⟨by omega, by omega⟩
theorem few_tellsE (l : List S46) (hl : l.length ≤ 4000000000000000000) (hs : ∀ x ∈ l, SizedE x) : ∃ k r, souffleurlaw17_few.f k l = some r ∧ (r = true → FewE l) := by
  obtain ⟨r, h1, h2⟩ := few_loopE l hl hs l.length 0 0 (by omega) (fun _ => ⟨by simp [lenSum], by omega⟩)
  exact ⟨_, r, h1, h2⟩
theorem opensBytes : Opens Tryz.prog (Kd.slice 5 (Kd.int .u8)) (fun xs => xs.length * Tryz.prog.bytesOf 5 ≤ reachBytes ∧ ∀ x ∈ xs, (Lit.int .u8 x).wf = true) 34 := opens_slice Tryz.underlying34 (by kernel_rfl) (opens_int Tryz.underlying5)
theorem opensEvent : Opens Tryz.prog k46 SizedE 46 := by
  intro H enc w base spare held fuel cs x h hw
  obtain ⟨hl, hf⟩ := trod_cells Tryz.underlying46 (by kernel_rfl) (by kernel_rfl) h hw
  obtain ⟨n0, v0, y0, e0, h0, w0⟩ := hf 0 _ rfl
  obtain ⟨n1, v1, y1, e1, h1, w1⟩ := hf 1 _ rfl
  obtain ⟨n2, v2, y2, e2, h2, w2⟩ := hf 2 _ rfl
  obtain ⟨n3, v3, y3, e3, h3, w3⟩ := hf 3 _ rfl
  obtain ⟨a0, g0, _⟩ := opens_bool Tryz.underlying4 enc w base spare held _ _ _ h0 w0
  obtain ⟨a1, g1, _⟩ := opens_int Tryz.underlying3 enc w base spare held _ _ _ h1 w1
  obtain ⟨a2, g2, _⟩ := opens_int Tryz.underlying3 enc w base spare held _ _ _ h2 w2
  obtain ⟨a3, g3, q3⟩ := opensBytes enc w base spare held _ _ _ h3 w3
  obtain rfl := bool_of g0
  obtain rfl := int_of g1
  obtain rfl := int_of g2
  obtain ⟨A3, c3, rfl, l3, C3⟩ := slice_read g3
  match cs, hl with
  | [c0, c1, c2, c4], _ =>
    simp at e0 e1 e2 e3
    subst e0 e1 e2 e3
    refine ⟨⟨a0, a1, a2, a3⟩, k46_mk w _ l3 C3, ?_, q3.2⟩
    have h9 := q3.1
    rw [show Tryz.prog.bytesOf 5 = 1 from by kernel_rfl, Nat.mul_one] at h9
    exact h9
theorem opensEvents : Opens Tryz.prog (Kd.slice 46 k46) (fun xs => xs.length * Tryz.prog.bytesOf 46 ≤ reachBytes ∧ ∀ x ∈ xs, SizedE x) 23 :=
  opens_slice Tryz.underlying23 (by kernel_rfl) opensEvent
theorem few_fewE {l0 : List S46} (hs : l0.length * Tryz.prog.bytesOf 46 ≤ reachBytes ∧ ∀ x ∈ l0, SizedE x) : ∃ k r, souffleurlaw17_few.f k l0 = some r ∧ (r = true → FewE l0) :=
  few_tellsE l0 (by have h1 := hs.1; rw [show Tryz.prog.bytesOf 46 = 48 from by kernel_rfl] at h1; unfold reachBytes at h1; omega) hs.2
def toB (l : List Int) : List UInt8 := l.map fun n => UInt8.ofNat n.toNat
theorem toB_len (l : List Int) : (toB l).length = l.length := List.length_map ..
theorem toB_get {l : List Int} (h : ∀ b ∈ l, (Lit.int .u8 b).wf = true) {i : Nat} (hi : i < l.length) : (((toB l)[i]'(by rw [toB_len]; exact hi)).toNat : Int) = l[i] := by
  have h1 := h _ (List.getElem_mem hi)
  have h2 : 0 ≤ l[i] ∧ l[i] ≤ 255 := by
    unfold Lit.wf at h1
    rw [Bool.and_eq_true, decide_eq_true_eq, decide_eq_true_eq] at h1
    exact h1
  unfold toB
  rw [List.getElem_map, UInt8.toNat_ofNat']
  omega
theorem int_cell {w : World} {A : Option Addr} {n : Nat} {xs : List Int} (hC : (Kd.int .u8).C w A n xs) (hw : ∀ b ∈ xs, (Lit.int .u8 b).wf = true) (hn : 0 < n) : ∃ ad, A = some ad ∧ ∀ i (hi : i < (toB xs).length), w.cell? (ad.add i) = some (.int .u8 (((toB xs)[i]).toNat : Int)) := by
  obtain ⟨ad, rfl, hcell⟩ := (Kd.reads_of_C (enc := fun n : Int => Value.int .u8 n) (d := (0 : Int)) (h1 := fun _ => rfl) hC).2.2 hn
  have hlen := hC.1
  refine ⟨ad, rfl, fun i hi => ?_⟩
  rw [toB_len] at hi
  rw [hcell i (by omega), toB_get hw hi, List.getD_eq_getElem?_getD, List.getElem?_eq_getElem hi]
  rfl
def toT (c : TC) : S32 := ⟨c.S, c.wide, c.dim⟩
def toR (c : TC) : S63 := ⟨c.S, c.wide, c.dim⟩
theorem RowAt.C {w : World} {r : RR} {l : List TC} (h : RowAt w r l) (h1 : l.length ≤ 1000) : Kd.C k32 w (some ⟨r.g, 0, none⟩) l.length (l.map toT) := by
  refine ⟨by rw [List.length_map], by omega, fun _ => ⟨_, rfl, fun j p hj => ?_⟩⟩
  rw [List.getElem?_map] at hj
  obtain ⟨c, hc, rfl⟩ := Option.map_eq_some_iff.1 hj
  have hjl := (List.getElem?_eq_some_iff.1 hc).1
  have hcj := (List.getElem?_eq_some_iff.1 hc).2
  refine ⟨cV c, rfl, k32_mk w (toT c), fun i u hi => ?_⟩
  have hi3 : i < 3 := (List.getElem?_eq_some_iff.1 hi).1
  have h2 := h.cell hjl hi3
  rw [getC_get hjl, hcj] at h2
  rw [Addr.add_lit_, Nat.zero_add]
  exact h2.trans hi
theorem old_loop (l : List TC) (hl : l.length ≤ 1000) : ∀ (d j : Nat), j + d = l.length → souffleurlaw17_Old.l0 (d + 1) ((l.take j).map toR) (l.map toT) (l.length : Int) (j : Int) = some (l.map toR) := by
  intro d
  induction d with
  | zero =>
    intro j hj
    unfold souffleurlaw17_Old.l0
    rw [if_neg (by omega), List.take_of_length_le (by omega)]
  | succ d ih =>
    intro j hj
    have hlt : j < l.length := by omega
    unfold souffleurlaw17_Old.l0
    have e : wrap64 ((j : Int) + 1) = ((j + 1 : Nat) : Int) := by unfold wrap64; omega
    rw [if_pos (by omega), if_pos (by omega), if_pos (by rw [List.length_map]; omega), if_pos (by rw [List.length_map, List.length_take]; omega), e]
    have hr : rd_T32 (l.map toT) (j : Int) = toT l[j] := by
      unfold rd_T32
      simp [hlt]
    rw [hr]
    have h2 := ih (j + 1) (by omega)
    rw [List.take_add_one, List.getElem?_eq_getElem hlt, List.map_append] at h2
    exact h2
theorem old_calls {w : World} {r : RR} {l : List TC} (h : RowAt w r l) (hl : l.length ≤ 1000) : Calls Tryz.prog 20 #[r.v] w fun e w' => ∃ A c, e = .returned (.slice A l.length c) ∧ l.length ≤ c ∧ Kd.C k63 w' A l.length (l.map toR) ∧ Below w.heap.size w w' := by
  have hn := h.1
  have hc := h.2.1
  have ho := old_loop l hl l.length 0 (by omega)
  have hf : souffleurlaw17_Old.f (l.length + 1) (l.map toT) = some (l.map toR) := by
    unfold souffleurlaw17_Old.f
    rw [List.length_map]
    exact ho
  have X := souffleurlaw17_Old.calls (l.length + 1) (some ⟨r.g, 0, none⟩) r.c (l.map toT) (l.map toR) w (by rw [List.length_map]; exact h.C hl) (by rw [List.length_map]; omega) hf
  rw [List.length_map, ← hn] at X
  refine X.mono ?_
  rintro _ w' ⟨v, rfl, hR, hb⟩
  obtain ⟨A, c, rfl, hc2, hC⟩ := Kd.R_reads hR
  rw [List.length_map] at hc2 hC ⊢
  exact ⟨A, c, rfl, hc2, hC, hb⟩
theorem same_loop (l : List TC) (hl : l.length ≤ 1000) : ∀ (d j : Nat), j + d = l.length → souffleurref17_Same.l0 (d + 1) (l.map toR) (l.map toR) (j : Int) = some true := by
  intro d
  induction d with
  | zero =>
    intro j hj
    unfold souffleurref17_Same.l0
    rw [List.length_map, if_neg (by omega)]
  | succ d ih =>
    intro j hj
    have hlt : j < l.length := by omega
    unfold souffleurref17_Same.l0
    have e : wrap64 ((j : Int) + 1) = ((j + 1 : Nat) : Int) := by unfold wrap64; omega
    rw [List.length_map, if_pos (by omega), if_pos (by omega), if_pos (by omega), if_neg (by simp), e]
    exact ih (j + 1) (by omega)
theorem same_calls {w : World} {A1 A2 : Option Addr} {c1 c2 n : Nat} {l : List TC} (hn : n = l.length) (hl : l.length ≤ 1000) (h1 : Kd.C k63 w A1 l.length (l.map toR)) (h2 : Kd.C k63 w A2 l.length (l.map toR)) (hc1 : l.length ≤ c1) (hc2 : l.length ≤ c2) :
    Calls Tryz.prog 19 #[.slice A1 n c1, .slice A2 n c2] w fun e w' => e = .returned (.bool true) ∧ Below w.heap.size w w' := by
  subst hn
  have hf : souffleurref17_Same.f (l.length + 1) (l.map toR) (l.map toR) = some true := by
    unfold souffleurref17_Same.f
    rw [if_pos rfl]
    exact same_loop l hl l.length 0 (by omega)
  have X := souffleurref17_Same.calls (l.length + 1) A1 c1 (l.map toR) A2 c2 (l.map toR) true w (by rw [List.length_map]; exact h1) (by rw [List.length_map]; exact hc1) (by rw [List.length_map]; exact h2) (by rw [List.length_map]; exact hc2) hf
  rw [List.length_map] at X
  refine X.mono ?_
  rintro _ w' ⟨rfl, hd⟩
  exact ⟨rfl, hd.below⟩
end Go.Proofs.YtgifpkjcggnhgaaGreatDoorL

