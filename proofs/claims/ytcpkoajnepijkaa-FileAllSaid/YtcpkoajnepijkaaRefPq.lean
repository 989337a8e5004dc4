/- Parts of the proof of the law that the last file states; declarations that nothing mentions are left out by a program. No conditions. -/
import Derived.Test.YtcpkoajnepijkaaScriptq
import Derived.Test.YtcpkoajnepijkaaQx3q
import Derived.Test.YtcpkoajnepijkaaQx4q
set_option linter.unusedVariables false
set_option linter.unusedSimpArgs false
namespace Go.Proofs.Ytcpkoajnepijkaa
open Go.RowKit Go.Proofs.YtcpkoajnepijkaaL Go.Proofs.YtcpkoajnepijkaaW.PrintWords Go.Proofs.Ytcpkoajnepijkaa.Q
def toP (p : PP) : S91 := ⟨p.no, p.at_, p.b⟩
def toF (f : PF) : S47 := ⟨f.name, f.b, f.row.map toP⟩
theorem rd_T47_get {l : List PF} {j : Nat} (h : j < l.length) : rd_T47 (l.map toF) (j : Int) = toF l[j] := by
  unfold rd_T47
  simp [h]
theorem rd_T91_get {l : List PP} {j : Nat} (h : j < l.length) : rd_T91 (l.map toP) (j : Int) = toP l[j] := by
  unfold rd_T91
  simp [h]
theorem toList_iff {a b : ByteArray} : a.toList = b.toList ↔ a = b := ⟨toList_inj, fun h => h ▸ rfl⟩
theorem wsucc {j m : Nat} (h : j < m) (hm : m ≤ 1000000000) : wrap64 ((j : Int) + 1) = ((j + 1 : Nat) : Int) := by unfold wrap64; omega
def idxP (s : ByteArray) : List PF → Nat → Int
  | [], _ => -1
  | f :: r, j => if f.name = s then j else idxP s r (j + 1)
theorem idx_find (s : ByteArray) : ∀ (l : List PF) (j : Nat), (idxP s l j = -1 ∧ findP s l = none) ∨ ∃ i f, idxP s l j = ((j + i : Nat) : Int) ∧ l[i]? = some f ∧ findP s l = some f
  | [], j => .inl ⟨rfl, rfl⟩
  | f :: l, j => by
    by_cases h : f.name = s
    · exact .inr ⟨0, f, by simp [idxP, h], rfl, by simp [findP, h]⟩
    · rcases idx_find s l (j + 1) with ⟨h1, h2⟩ | ⟨i, g, h1, h2, h3⟩
      · exact .inl ⟨by simp [idxP, h, h1], by simp [findP, h, h2]⟩
      · refine .inr ⟨i + 1, g, ?_, by simpa using h2, by simp [findP, h, h3]⟩
        simp only [idxP, if_neg h, h1]
        omega
theorem find_loop (l : List PF) (hl : l.length ≤ 1000000) (s : ByteArray) (a b c e : Int) (g : Bool) : ∀ (d j k : Nat), j + d = l.length → d < k → souffleurref10_find.l0 k s (j : Int) (l.map toF) a b c e g = some (idxP s (l.drop j) j) := by
  intro d
  induction d with
  | zero =>
    intro j k hj hk
    obtain ⟨k, rfl⟩ : ∃ m, k = m + 1 := ⟨k - 1, by omega⟩
    simp only [souffleurref10_find.l0]
    rw [if_neg (by rw [List.length_map]; omega), List.drop_of_length_le (by omega)]
    rfl
  | succ d ih =>
    intro j k hj hk
    obtain ⟨k, rfl⟩ : ∃ m, k = m + 1 := ⟨k - 1, by omega⟩
    have hlt : j < l.length := by omega
    simp only [souffleurref10_find.l0]
    rw [if_pos (by rw [List.length_map]; omega), if_pos (by omega), rd_T47_get hlt, wsucc hlt (by omega), List.drop_eq_getElem_cons hlt]
    simp only [idxP, toF, toList_iff]
    split
    · rfl
    · exact ih (j + 1) k (by omega) (by omega)
theorem find_tells (l : List PF) (hl : l.length ≤ 1000000) (s : ByteArray) (a b c e : Int) (g : Bool) {k : Nat} (hk : l.length < k) : souffleurref10_find.f k (l.map toF) a b c e g s = some (idxP s l 0) := find_loop l hl s a b c e g l.length 0 k (by omega) hk
theorem without_cons (s : ByteArray) (x : PF) (r : List PF) : withoutP s (x :: r) = if x.name = s then withoutP s r else x :: withoutP s r := by
  unfold withoutP
  rw [List.filter_cons]
  by_cases h : x.name = s <;> simp [h]
theorem without_loop (l : List PF) (hl : l.length ≤ 1000000) (s : ByteArray) (a b c e : Int) (g : Bool) : ∀ (d j k : Nat) (acc : List PF), acc.length ≤ j → j + d = l.length → d < k →
    souffleurref10_without.l0 k s (acc.map toF) (j : Int) (l.map toF) a b c e g = some ((acc ++ withoutP s (l.drop j)).map toF, a, b, c, e, g) := by
  intro d
  induction d with
  | zero =>
    intro j k acc ha hj hk
    obtain ⟨k, rfl⟩ : ∃ m, k = m + 1 := ⟨k - 1, by omega⟩
    simp only [souffleurref10_without.l0]
    rw [if_neg (by rw [List.length_map]; omega), List.drop_of_length_le (by omega)]
    simp [withoutP]
  | succ d ih =>
    intro j k acc ha hj hk
    obtain ⟨k, rfl⟩ : ∃ m, k = m + 1 := ⟨k - 1, by omega⟩
    have hlt : j < l.length := by omega
    simp only [souffleurref10_without.l0]
    rw [if_pos (by rw [List.length_map]; omega), if_pos (by omega), rd_T47_get hlt, wsucc hlt (by omega), List.drop_eq_getElem_cons hlt]
    simp only [toF, toList_iff]
    by_cases h : l[j].name = s
    · rw [if_pos h, ih (j + 1) k acc (by omega) (by omega) (by omega), without_cons, if_pos h]
    · rw [if_neg h, if_pos (by rw [List.length_map]; omega)]
      have := ih (j + 1) k (acc ++ [l[j]]) (by simp; omega) (by omega) (by omega)
      rw [List.map_append] at this
      rw [show ([(⟨l[j].name, l[j].b, l[j].row.map toP⟩ : S47)]) = [l[j]].map toF from rfl, this, without_cons, if_neg h, List.append_assoc]
      rfl
theorem without_tells (l : List PF) (hl : l.length ≤ 1000000) (s : ByteArray) (a b c e : Int) (g : Bool) {k : Nat} (hk : l.length < k) :
    souffleurref10_without.f k (l.map toF) a b c e g s = some ((withoutP s l).map toF, a, b, c, e, g) := by
  have := without_loop l hl s a b c e g l.length 0 k [] (by simp) (by omega) hk
  simp only [List.nil_append, List.drop_zero] at this
  exact this
theorem less_lt : ∀ x y : List UInt8, Op.bytesLess x y = decide (x < y)
  | [], [] => by simp [Op.bytesLess]
  | [], b :: y => by simp [Op.bytesLess]
  | a :: x, [] => by simp [Op.bytesLess]
  | a :: x, b :: y => by
    simp only [Op.bytesLess, less_lt x y, List.cons_lt_cons_iff]
    by_cases h1 : a < b
    · simp [h1]
    · by_cases h2 : a = b <;> simp [h1, h2]
theorem with_loop (f : PF) (l : List PF) (hl : l.length ≤ 1000000) (a b c e : Int) (g : Bool) : ∀ (d j k : Nat) (acc : List PF) (done : Bool), acc.length ≤ j + done.toNat → j + d = l.length → d < k →
    souffleurref10_with.l0 k (acc.map toF) done (j : Int) (l.map toF) a b c e g f.name f.b (f.row.map toP) = some ((acc ++ (if done = true then l.drop j else insP f (l.drop j))).map toF, a, b, c, e, g) := by
  intro d
  induction d with
  | zero =>
    intro j k acc done ha hj hk
    obtain ⟨k, rfl⟩ : ∃ m, k = m + 1 := ⟨k - 1, by omega⟩
    simp only [souffleurref10_with.l0]
    rw [if_neg (by rw [List.length_map]; omega), List.drop_of_length_le (by omega)]
    cases done with
    | true => simp
    | false =>
      rw [if_neg (by simp), if_pos (by rw [List.length_map]; simp at ha; omega)]
      simp [insP, toF]
  | succ d ih =>
    intro j k acc done ha hj hk
    obtain ⟨k, rfl⟩ : ∃ m, k = m + 1 := ⟨k - 1, by omega⟩
    have hlt : j < l.length := by omega
    simp only [souffleurref10_with.l0]
    rw [if_pos (by rw [List.length_map]; omega), rd_T47_get hlt, wsucc hlt (by omega), List.drop_eq_getElem_cons hlt]
    have h0 : (0 : Int) ≤ (j : Int) := by omega
    have hdn := Bool.toNat_le done
    have hal : (acc.map toF).length < 2199023255552 := by rw [List.length_map]; omega
    cases done with
    | true =>
      rw [if_pos rfl, if_pos h0, if_pos hal]
      have := ih (j + 1) k (acc ++ [l[j]]) true (by simp at ha ⊢; omega) (by omega) (by omega)
      rw [List.map_append] at this
      simp only [toF] at this ⊢
      rw [show ([(⟨l[j].name, l[j].b, l[j].row.map toP⟩ : S47)]) = [l[j]].map toF from rfl]
      exact this.trans (by simp)
    | false =>
      rw [if_neg (by simp), if_pos h0]
      simp only [insP]
      by_cases hb : ltN f.name l[j].name = true
      · have hb' : Op.bytesLess f.name.toList (toF l[j]).f0.toList = true := by rw [less_lt]; exact hb
        rw [if_pos hb', if_pos hal]
        simp only [Option.bind_some]
        have hal2 : (acc.map toF ++ [(⟨f.name, f.b, f.row.map toP⟩ : S47)]).length < 2199023255552 := by
          rw [List.length_append, List.length_map]
          simp only [List.length_singleton]
          omega
        rw [if_pos hal2]
        have := ih (j + 1) k ((acc ++ [f]) ++ [l[j]]) true (by simp at ha ⊢; omega) (by omega) (by omega)
        rw [List.map_append, List.map_append] at this
        refine Eq.trans ?_ (this.trans ?_)
        · rfl
        · simp [hb]
      · have hb' : ¬ Op.bytesLess f.name.toList (toF l[j]).f0.toList = true := by rw [less_lt]; exact hb
        rw [if_neg hb', if_pos hal]
        have := ih (j + 1) k (acc ++ [l[j]]) false (by simp at ha ⊢; omega) (by omega) (by omega)
        rw [List.map_append] at this
        refine Eq.trans ?_ (this.trans ?_)
        · rfl
        · simp [hb]
theorem with_tells (f : PF) (l : List PF) (hl : l.length ≤ 1000000) (a b c e : Int) (g : Bool) {k : Nat} (hk : l.length < k) :
    souffleurref10_with.f k (l.map toF) a b c e g f.name f.b (f.row.map toP) = some ((withP f l).map toF, a, b, c, e, g) := by
  unfold souffleurref10_with.f
  rw [without_tells l hl f.name a b c e g hk]
  simp only [Option.bind_some]
  have hle : (withoutP f.name l).length ≤ l.length := List.length_filter_le _ _
  have := with_loop f (withoutP f.name l) (by omega) a b c e g (withoutP f.name l).length 0 k [] false (by simp) (by omega) (by omega)
  simpa [withP] using this
end Go.Proofs.Ytcpkoajnepijkaa

