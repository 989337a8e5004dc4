/- Parts of the proof of the law that the last file states; declarations that nothing mentions are left out by a program. No conditions. -/
import Derived.Test.YtgifpkjcggnhgaaGreatDoorLTermCeq
import Derived.Test.YtgifpkjcggnhgaaGreatDoorLawTermCellsq
set_option linter.unusedVariables false
set_option linter.unusedSimpArgs false
namespace Go.Proofs.YtgifpkjcggnhgaaGreatDoorL
open Go Go.RowKit Go.Proofs.YtgifpkjcggnhgaaGreatDoorW.PrintWords Go.Proofs.YtgifpkjcggnhgaaGreatDoor.K
def dgt (n : Nat) : UInt8 := UInt8.ofNat (48 + n)
theorem dgt_nat {n : Nat} (h : n < 10) : (dgt n).toNat = 48 + n := by
  unfold dgt
  rw [UInt8.toNat_ofNat']
  omega
theorem number_three {n : Nat} (h : n ≤ 999) : numberP [dgt (n / 100), dgt (n / 10 % 10), dgt (n % 10)] = (n, true) := by
  have h0 := dgt_nat (n := n / 100) (by omega)
  have h1 := dgt_nat (n := n / 10 % 10) (by omega)
  have h2 := dgt_nat (n := n % 10) (by omega)
  have hd : [dgt (n / 100), dgt (n / 10 % 10), dgt (n % 10)].all digitB = true := by
    simp only [List.all_cons, List.all_nil, Bool.and_true, digitB, h0, h1, h2]
    simp
    omega
  unfold numberP
  rw [if_pos ⟨hd, by simp⟩]
  simp only [numV, List.foldl_cons, List.foldl_nil, h0, h1, h2]
  congr 1
  omega
def mvRow (k n R r : Nat) : Nat := if k = 0 then r - n else if k = 1 then min (r + n) (R - 1) else r
def mvCol (k n C c : Nat) : Nat := if k = 2 then min (c + n) (C - 1) else if k = 3 then c - n else c
theorem mv_feed {s : Tm} {R C k n : Nat} (h : Calm s) (hR : s.l.length = R) (hC : s.cols = C) (hr : s.row < R) (hc : s.col < C) (hk : k ≤ 3) (h1 : 1 ≤ n) (hn : n ≤ 999) :
    Calm (s.feed [27, 91, dgt (n / 100), dgt (n / 10 % 10), dgt (n % 10), UInt8.ofNat (65 + k)]) ∧ (s.feed [27, 91, dgt (n / 100), dgt (n / 10 % 10), dgt (n % 10), UInt8.ofNat (65 + k)]).row = mvRow k n R s.row ∧ (s.feed [27, 91, dgt (n / 100), dgt (n / 10 % 10), dgt (n % 10), UInt8.ofNat (65 + k)]).col = mvCol k n C s.col ∧ (s.feed [27, 91, dgt (n / 100), dgt (n / 10 % 10), dgt (n % 10), UInt8.ofNat (65 + k)]).full = false ∧ (s.feed [27, 91, dgt (n / 100), dgt (n / 10 % 10), dgt (n % 10), UInt8.ofNat (65 + k)]).l = s.l ∧ (s.feed [27, 91, dgt (n / 100), dgt (n / 10 % 10), dgt (n % 10), UInt8.ofNat (65 + k)]).off = s.off := by
  have h0 := dgt_nat (n := n / 100) (by omega)
  have h1' := dgt_nat (n := n / 10 % 10) (by omega)
  have h2 := dgt_nat (n := n % 10) (by omega)
  have hx : (UInt8.ofNat (65 + k)).toNat = 65 + k := by rw [UInt8.toNat_ofNat']; omega
  rw [esc_three h (by omega) (by omega) (by omega) (by omega) (by omega), hx]
  obtain ⟨t, ht⟩ : ∃ t : Tm, ({ s with inn := 0, seq := ⟨#[dgt (n / 100), dgt (n / 10 % 10), dgt (n % 10)]⟩ } : Tm) = t := ⟨_, rfl⟩
  have g1 : t.inn = 0 := by rw [← ht]
  have g2 : t.b = [] := by rw [← ht]; exact h.b
  have g3 : t.l = s.l := by rw [← ht]
  have g4 : t.off = s.off := by rw [← ht]
  have g5 : t.row = s.row := by rw [← ht]
  have g6 : t.col = s.col := by rw [← ht]
  have g7 : t.cols = C := by rw [← ht]; exact hC
  have g8 : t.l.length = R := by rw [g3]; exact hR
  rw [ht]
  clear ht
  unfold Tm.ends
  rw [if_neg (by omega), number_three hn]
  rw [if_neg (by simp)]
  dsimp only
  have hm : max n 1 = n := by omega
  rw [hm, g5, g6]
  rcases (by omega : k = 0 ∨ k = 1 ∨ k = 2 ∨ k = 3) with rfl | rfl | rfl | rfl
  · rw [if_pos rfl]
    refine ⟨⟨g1, g2⟩, ?_, ?_, rfl, g3, g4⟩
    · show clampN _ t.l.length = _
      rw [g8]; unfold clampN mvRow; rw [if_pos rfl]; omega
    · show clampN _ t.cols = _
      rw [g7]; unfold clampN mvCol; rw [if_neg (by omega), if_neg (by omega)]; omega
  · rw [if_neg (by omega), if_pos rfl]
    refine ⟨⟨g1, g2⟩, ?_, ?_, rfl, g3, g4⟩
    · show clampN _ t.l.length = _
      rw [g8]; unfold clampN mvRow; rw [if_neg (by omega), if_pos rfl]; omega
    · show clampN _ t.cols = _
      rw [g7]; unfold clampN mvCol; rw [if_neg (by omega), if_neg (by omega)]; omega
  · rw [if_neg (by omega), if_neg (by omega), if_neg (by omega), if_pos rfl]
    refine ⟨⟨g1, g2⟩, ?_, ?_, rfl, g3, g4⟩
    · show clampN _ t.l.length = _
      rw [g8]; unfold clampN mvRow; rw [if_neg (by omega), if_neg (by omega)]; omega
    · show clampN _ t.cols = _
      rw [g7]; unfold clampN mvCol; rw [if_pos rfl]; omega
  · rw [if_neg (by omega), if_neg (by omega), if_pos rfl]
    refine ⟨⟨g1, g2⟩, ?_, ?_, rfl, g3, g4⟩
    · show clampN _ t.l.length = _
      rw [g8]; unfold clampN mvRow; rw [if_neg (by omega), if_neg (by omega)]; omega
    · show clampN _ t.cols = _
      rw [g7]; unfold clampN mvCol; rw [if_neg (by omega), if_pos rfl]; omega
theorem opensMove : Opens Tryz.prog kArr2 (fun _ => True) 53 := by
  intro H enc w base spare held fuel cs x h hw
  obtain ⟨hl, hf⟩ := trod_cells Tryz.underlying53 (by kernel_rfl) (by kernel_rfl) h hw
  obtain ⟨n0, v0, y0, e0, h0, w0⟩ := hf 0 _ rfl
  obtain ⟨n1, v1, y1, e1, h1, w1⟩ := hf 1 _ rfl
  obtain ⟨a0, g0, _⟩ := opens_int Tryz.underlying3 enc w base spare held _ _ _ h0 w0
  obtain ⟨a1, g1, _⟩ := opens_int Tryz.underlying3 enc w base spare held _ _ _ h1 w1
  obtain rfl := int_of g0
  obtain rfl := int_of g1
  match cs, hl with
  | [c0, c1], _ =>
    simp at e0 e1
    subst e0 e1
    exact ⟨(a0, a1), ⟨[.int .i64 a0], [.int .i64 a1], rfl, rfl, rfl⟩, trivial⟩
theorem opensMoves : Opens Tryz.prog (Kd.slice 53 kArr2) (fun xs => xs.length * Tryz.prog.bytesOf 53 ≤ reachBytes ∧ ∀ x ∈ xs, True) 51 :=
  opens_slice Tryz.underlying51 (by kernel_rfl) opensMove
theorem mv_at {w wx : World} {A : Option Addr} {l : List (Int × Int)} (hE : Kd.C kArr2 w A l.length l) (hb : Below w.heap.size w wx) {j : Nat} (hj : j < l.length) : ∃ ad, A = some ad ∧ wx.cell? (ad.add (j * 2)) = some (.int .i64 l[j].1) ∧ wx.cell? ⟨(ad.add (j * 2)).block, (ad.add (j * 2)).off + 1, none⟩ = some (.int .i64 l[j].2) := by
  obtain ⟨_, _, h⟩ := hE
  obtain ⟨ad, rfl, hc⟩ := h (by omega)
  obtain ⟨cs, hcs, hK, hu⟩ := hc j l[j] (List.getElem?_eq_getElem hj)
  obtain rfl := kArr2_open hK
  have mv : ∀ {a : Addr} {v : Value}, w.cell? a = some v → wx.cell? a = some v := fun h => cell_move h (hb.block _ (Lib.lt_of_cell h))
  have h0 := hu 0 _ rfl
  have h1 := hu 1 _ rfl
  rw [show j * kArr2.sz + 1 = j * 2 + 1 from rfl, ← Go.Deep.add_add] at h1
  exact ⟨ad, rfl, mv h0, mv h1⟩
theorem bytesW_below' (w : World) (e : TypeId) (s : ByteArray) : Below w.heap.size w (Lib.bytesWorld w e s) :=
  ⟨rfl, rfl, rfl, by rw [Lib.bytesWorld_size]; omega, fun j hj => Lib.bytesWorld_at_old w e s j hj⟩
theorem feed_str {w0 w : World} {F : Nat → Prop} {T M : Nat} {s : Tm} (h : St w0 w F T s) (hk : TK M s) (hT : TabsT w0) (b : ByteArray) (c : Nat) (hM : M + 32 * b.size + 64 ≤ 900000) :
    Calls Tryz.prog 17 #[.pointer (some ⟨T, 0, none⟩), .slice (some ⟨w.heap.size, 0, none⟩) b.size c] (Lib.bytesWorld w 5 b) fun e w' => e = .returned (.tuple #[]) ∧ Told F (Lib.bytesWorld w 5 b) T (s.feed b.data.toList) w' := by
  have h2 := h.to (bytesW_below' w 5 b)
  have hl : b.data.toList.length = b.size := rfl
  have X := feed_ta h2.ta hk b.data.toList (by rw [hl]; exact hM) (hT.below h2.bl) (h2.outT hT) (A := some ⟨w.heap.size, 0, none⟩) (c := c) (ad := ⟨w.heap.size, 0, none⟩) (fun _ => ⟨rfl, fun hF => Nat.lt_irrefl _ (h.ta.lt _ hF), by rw [Lib.bytesWorld_size]; show w.heap.size < _; omega⟩) (fun i hi => by
    rw [Addr.add_lit_, Nat.zero_add]
    rw [Lib.bytesWorld_cell w 5 b i (by rw [← hl]; exact hi), ← getD_get hi])
  rw [hl] at X
  exact X
theorem four_text (w : World) (a b c d : UInt8) (cap : Nat) : (convert 34 9 (.slice (some ⟨w.heap.size, 0, none⟩) 4 cap)).run Tryz.prog (w.alloc (.cells #[.int .u8 (a.toNat : Int), .int .u8 (b.toNat : Int), .int .u8 (c.toNat : Int), .int .u8 (d.toNat : Int)] 5)) = .ok (.string ⟨#[a, b, c, d]⟩) (w.alloc (.cells #[.int .u8 (a.toNat : Int), .int .u8 (b.toNat : Int), .int .u8 (c.toNat : Int), .int .u8 (d.toNat : Int)] 5)) :=
  Lib.run_convert_whole (P := Tryz.prog) _ 34 5 9 Tryz.underlying34 Tryz.underlying5 Tryz.underlying9 w.heap.size 0 ⟨#[a, b, c, d]⟩ (fun i hi => by
    have h := lit_cell w [a, b, c, d] (0, 0) i hi
    rw [Addr.add_lit_] at h
    exact h) cap
end Go.Proofs.YtgifpkjcggnhgaaGreatDoorL

