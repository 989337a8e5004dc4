/- Parts of the proof of the law that the last file states; declarations that nothing mentions are left out by a program. No conditions. -/
import Derived.Sort.Walk0
import Derived.Test.YtbhiljaipikklaaGreatDoorLNamesq
import Derived.Test.YtbhiljaipikklaaGreatDoorLSetsPq
import Derived.Test.YtbhiljaipikklaaGreatDoorRx4q
import Derived.Test.YtbhiljaipikklaaGreatDoorRx3q
set_option linter.unusedVariables false
set_option linter.unusedSimpArgs false
namespace Go.Proofs.YtbhiljaipikklaaGreatDoorL
open Go Go.RowKit Go.Proofs.YtbhiljaipikklaaGreatDoorW.PrintWords Go.Proofs.YtbhiljaipikklaaGreatDoor.R
abbrev RP : Type := S37
def toP (x : RP) : ByteArray × ByteArray := (x.f0, x.f1)
def gtB (a b : ByteArray) : Bool := !(Op.bytesLess a.toList b.toList || a.toList == b.toList)
def dropR (s : ByteArray) (l : List RP) : List RP := l.filter fun x => !(x.f0.toList == s.toList)
def insR (s t : ByteArray) : Bool → List RP → List RP
  | true, [] => []
  | false, [] => [⟨s, t⟩]
  | true, x :: l => x :: insR s t true l
  | false, x :: l => if gtB x.f0 s = true then ⟨s, t⟩ :: x :: insR s t true l else x :: insR s t false l
def setR (s t : ByteArray) (l : List RP) : Int × List RP :=
  if namedS s = false then (80, l) else if 100 < (plainS t).size then (30, l) else if (dropR s l).length = l.length ∧ 16 ≤ l.length then (81, l) else (0, insR s (plainS t) false (dropR s l))
theorem toList_inj {a b : ByteArray} : a.toList = b.toList ↔ a = b := by
  rw [toList_data, toList_data]
  constructor
  · intro h
    cases a
    cases b
    congr
    exact Array.toList_inj.1 h
  · rintro rfl; rfl
theorem gtB_iff {a b : ByteArray} : gtB a b = true ↔ b.toList < a.toList := by
  unfold gtB
  rw [bytesLess_eq, Bool.not_eq_true', Bool.or_eq_false_iff, decide_eq_false_iff_not, beq_eq_false_iff_ne]
  constructor
  · rintro ⟨h1, h2⟩
    rcases List.le_iff_lt_or_eq.1 (List.not_lt.1 h1) with h | h
    · exact h
    · exact absurd h.symm h2
  · intro h
    exact ⟨List.lt_asymm h, fun e => by rw [e] at h; exact List.lt_irrefl _ h⟩
theorem insR_true (s t : ByteArray) : ∀ l, insR s t true l = l
  | [] => rfl
  | x :: l => by rw [insR, insR_true s t l]
theorem insR_perm (s t : ByteArray) : ∀ l : List RP, (insR s t false l).Perm (⟨s, t⟩ :: l)
  | [] => List.Perm.refl _
  | x :: l => by
    rw [insR]
    split
    · rw [insR_true]
    · exact ((insR_perm s t l).cons x).trans (List.Perm.swap _ _ _)
def Rising (l : List RP) : Prop := l.Pairwise fun x y => x.f0.toList < y.f0.toList
theorem insR_rising (s t : ByteArray) : ∀ l : List RP, Rising l → (∀ x ∈ l, x.f0 ≠ s) → Rising (insR s t false l)
  | [], _, _ => List.pairwise_singleton _ _
  | x :: l, h, hs => by
    have h1 := List.pairwise_cons.1 h
    rw [insR]
    split
    · rename_i hg
      rw [insR_true]
      refine List.pairwise_cons.2 ⟨fun y hy => ?_, h⟩
      have hx := gtB_iff.1 hg
      rcases List.mem_cons.1 hy with rfl | hy
      · exact hx
      · exact List.lt_trans hx (h1.1 y hy)
    · rename_i hg
      refine List.pairwise_cons.2 ⟨fun y hy => ?_, insR_rising s t l h1.2 (fun y hy => hs y (List.mem_cons_of_mem _ hy))⟩
      have hy' := (insR_perm s t l).subset hy
      rcases List.mem_cons.1 hy' with rfl | hy'
      · have hn : ¬ s.toList < x.f0.toList := fun e => hg (gtB_iff.2 e)
        rcases List.le_iff_lt_or_eq.1 (List.not_lt.1 hn) with h | h
        · exact h
        · exact absurd (toList_inj.1 h) (hs x List.mem_cons_self)
      · exact h1.1 y hy'
def Rel (T : List (ByteArray × ByteArray)) (l : List RP) : Prop := (l.map toP).Perm T ∧ Rising l
theorem Rel.nil : Rel [] [] := ⟨List.Perm.nil, List.Pairwise.nil⟩
section
variable {T : List (ByteArray × ByteArray)} {l : List RP} {s t : ByteArray}
theorem Rel.length (h : Rel T l) : l.length = T.length := by rw [← h.1.length_eq, List.length_map]
theorem Rel.nodup (h : Rel T l) (hT : WellT T) : ((l.map toP).map (·.1)).Nodup := (h.1.map _).nodup_iff.2 hT.2.2
theorem Rel.get (h : Rel T l) (hT : WellT T) (s : ByteArray) : getP s (l.map toP) = getP s T := getP_perm h.1 (h.nodup hT) s
theorem drop_filter : ∀ {T : List (ByteArray × ByteArray)}, (T.map (·.1)).Nodup → drop_ s T = T.filter fun x => !(x.1.toList == s.toList)
  | [], _ => rfl
  | p :: T, h => by
    rw [List.map_cons, List.nodup_cons] at h
    unfold drop_
    by_cases e : p.1 = s
    · rw [if_pos e, List.filter_cons, if_neg (by rw [e]; simp)]
      refine (List.filter_eq_self.2 (fun x hx => ?_)).symm
      have : x.1 ≠ s := fun e2 => h.1 (e ▸ e2 ▸ List.mem_map.2 ⟨x, hx, rfl⟩)
      simp [toList_inj, this]
    · rw [if_neg e, List.filter_cons, if_pos (by simp [toList_inj, e]), drop_filter h.2]
theorem dropR_toP (s : ByteArray) (l : List RP) : (dropR s l).map toP = (l.map toP).filter fun x => !(x.1.toList == s.toList) := by
  unfold dropR
  rw [List.filter_map]
  rfl
theorem Rel.drop (h : Rel T l) (hT : WellT T) (s : ByteArray) : Rel (drop_ s T) (dropR s l) := by
  refine ⟨?_, h.2.filter _⟩
  rw [dropR_toP, drop_filter hT.2.2]
  exact h.1.filter _
theorem drop_len {T : List (ByteArray × ByteArray)} : (drop_ s T).length = T.length ↔ (getP s T).2 = false := by
  rw [getP_is]
  induction T with
  | nil => simp [drop_, fnd]
  | cons p T ih =>
    unfold drop_ fnd
    split
    · simp
    · simp only [List.length_cons, Nat.add_right_cancel_iff]
      exact ih
theorem put_perm (s t : ByteArray) : ∀ T : List (ByteArray × ByteArray), (put s t T).Perm ((s, t) :: drop_ s T)
  | [] => List.Perm.refl _
  | p :: T => by
    unfold put drop_
    split
    · exact List.Perm.refl _
    · exact ((put_perm s t T).cons p).trans (List.Perm.swap _ _ _)
theorem Rel.set (h : Rel T l) (hT : WellT T) (s t : ByteArray) : (setR s t l).1 = (setP s t T).1 ∧ Rel (setP s t T).2 (setR s t l).2 := by
  have hd := h.drop hT s
  have e1 : (dropR s l).length = l.length ↔ (getP s T).2 = false := by rw [← drop_len, hd.length, h.length]
  unfold setR setP
  by_cases h1 : namedS s = false
  · rw [if_pos h1, if_pos h1]; exact ⟨rfl, h⟩
  rw [if_neg h1, if_neg h1]
  by_cases h2 : 100 < (plainS t).size
  · rw [if_pos h2, if_pos h2]; exact ⟨rfl, h⟩
  rw [if_neg h2, if_neg h2]
  by_cases h3 : (getP s T).2 = false ∧ 16 ≤ T.length
  · rw [if_pos h3, if_pos ⟨e1.2 h3.1, h.length ▸ h3.2⟩]; exact ⟨rfl, h⟩
  rw [if_neg h3, if_neg (fun x => h3 ⟨e1.1 x.1, h.length ▸ x.2⟩)]
  refine ⟨rfl, ?_, ?_⟩
  · refine ((insR_perm s (plainS t) _).map toP).trans ?_
    rw [List.map_cons]
    exact (hd.1.cons _).trans (put_perm s (plainS t) T).symm
  · refine insR_rising s (plainS t) _ (h.2.filter _) (fun x hx => ?_)
    have := (List.mem_filter.1 hx).2
    intro e
    rw [e] at this
    simp at this
end
theorem rdP {l : List RP} {j : Nat} (h : j < l.length) : rd_T37 l (j : Int) = l[j] := by
  unfold rd_T37
  simp [h]
theorem get_tells {l : List RP} (hl : l.length ≤ 1000) (s : ByteArray) : souffleurref08_Get.f (l.length + 1) l s = some (getP s (l.map toP)) := by
  unfold souffleurref08_Get.f
  have : ∀ (d j : Nat), j + d = l.length → souffleurref08_Get.l0 (d + 1) l s (j : Int) = some (getP s ((l.drop j).map toP)) := by
    intro d
    induction d with
    | zero =>
      intro j hj
      unfold souffleurref08_Get.l0
      rw [if_neg (by omega), List.drop_eq_nil_of_le (by omega)]
      rfl
    | succ d ih =>
      intro j hj
      have hjl : j < l.length := by omega
      unfold souffleurref08_Get.l0
      rw [if_pos (by omega), if_pos (by omega), rdP hjl, List.drop_eq_getElem_cons hjl, List.map_cons]
      unfold getP fnd
      by_cases e : l[j].f0 = s
      · rw [if_pos (toList_inj.2 e)]
        simp [toP, e]
      · rw [if_neg (fun x => e (toList_inj.1 x)), show wrap64 ((j : Int) + 1) = ((j + 1 : Nat) : Int) by unfold wrap64; omega, ih (j + 1) (by omega)]
        simp [toP, e, getP]
  have h := this l.length 0 (by omega)
  rw [List.drop_zero] at h
  exact h
theorem drop_tells {l : List RP} (hl : l.length ≤ 1000) (s : ByteArray) : souffleurref08_Drop.f (l.length + 1) l s = some (dropR s l) := by
  unfold souffleurref08_Drop.f
  have : ∀ (d j : Nat) (o : List RP), j + d = l.length → o.length ≤ j → souffleurref08_Drop.l0 (d + 1) l s o (j : Int) = some (o ++ dropR s (l.drop j)) := by
    intro d
    induction d with
    | zero =>
      intro j o hj ho
      unfold souffleurref08_Drop.l0
      rw [if_neg (by omega), List.drop_eq_nil_of_le (by omega)]
      simp [dropR]
    | succ d ih =>
      intro j o hj ho
      have hjl : j < l.length := by omega
      unfold souffleurref08_Drop.l0
      rw [if_pos (by omega), if_pos (by omega), rdP hjl, List.drop_eq_getElem_cons hjl, show wrap64 ((j : Int) + 1) = ((j + 1 : Nat) : Int) by unfold wrap64; omega]
      unfold dropR
      by_cases e : l[j].f0.toList = s.toList
      · rw [if_pos e, ih (j + 1) o (by omega) (by omega), List.filter_cons, if_neg (by simp [e])]
        rfl
      · rw [if_neg e, if_pos (by omega), ih (j + 1) _ (by omega) (by rw [List.length_append, List.length_singleton]; omega), List.filter_cons, if_pos (by simp [e])]
        simp [dropR]
  have h := this l.length 0 [] (by omega) (Nat.le_refl _)
  rw [List.drop_zero, List.nil_append] at h
  exact h
theorem named_tells (s : ByteArray) (hs : s.size ≤ 4294967296) : ∃ k, souffleurref08_named.f k s = some (namedS s) := by
  have loop : ∀ (d j : Nat), j + d = s.size → souffleurref08_named.l0 (d + 1) s (j : Int) = some (!((s.data.toList.drop j).contains 32)) := by
    have hz : s.data.toList.length = s.size := (Lib.size_eq s).symm
    intro d
    induction d with
    | zero =>
      intro j hj
      unfold souffleurref08_named.l0
      rw [if_neg (by omega), List.drop_eq_nil_of_le (by omega)]
      rfl
    | succ d ih =>
      intro j hj
      have hjl : j < s.size := by omega
      have hjl2 : j < s.data.toList.length := by omega
      unfold souffleurref08_named.l0
      have hb : bt s (j : Int) = ((s.data.toList[j]'hjl2).toNat : Int) := by
        unfold bt
        rw [dif_pos (by simpa using hjl)]
        simp [ByteArray.getElem_eq_getElem_data]
      rw [if_pos (by omega), if_pos (by omega), hb, List.drop_eq_getElem_cons hjl2, show wrap64 ((j : Int) + 1) = ((j + 1 : Nat) : Int) by unfold wrap64; omega, ih (j + 1) (by omega), List.contains_cons]
      by_cases e : s.data.toList[j] = 32
      · rw [if_pos (by rw [e]; rfl), e]
        simp
      · have h1 : ¬ ((s.data.toList[j]).toNat : Int) = 32 := fun x => e (by
          have : (s.data.toList[j]).toNat = 32 := by omega
          exact UInt8.toNat_inj.1 this)
        rw [if_neg h1]
        have h2 : ((32 : UInt8) == s.data.toList[j]) = false := by rw [beq_eq_false_iff_ne]; exact fun x => e x.symm
        rw [h2, Bool.false_or]
  have h0 := loop s.size 0 (by omega)
  rw [List.drop_zero, Lib.contains_iff_indexByte] at h0
  refine ⟨s.size + 2, ?_⟩
  have jt : souffleurref08_named.j0 (s.size + 2) s true = some false := by unfold souffleurref08_named.j0; rfl
  unfold souffleurref08_named.f namedS
  by_cases h1 : (s.size : Int) < 1
  · rw [if_pos h1, jt]
    have : ¬ 0 < s.size := by omega
    simp [this]
  rw [if_neg h1]
  by_cases h2 : (s.size : Int) > 20
  · rw [if_pos h2, jt]
    have : ¬ s.size ≤ 20 := by omega
    simp [this]
  rw [if_neg h2]
  unfold Go.Proofs.YtbhiljaipikklaaGreatDoor.souffleurref03_Plain.f
  rw [if_pos hs, Option.bind_some]
  have h3 : 0 < s.size := by omega
  have h4 : s.size ≤ 20 := by omega
  by_cases h5 : plainS s = s
  · have h6 : ((plainS s).toList != s.toList) = false := by rw [h5]; simp
    rw [h6]
    have jf : souffleurref08_named.j0 (s.size + 2) s false = souffleurref08_named.l0 (s.size + 1) s ((0 : Nat) : Int) := by unfold souffleurref08_named.j0; rfl
    rw [jf, h0]
    simp [h3, h4, h5]
  · have h6 : ((plainS s).toList != s.toList) = true := by simp [toList_inj, h5]
    rw [h6, jt]
    simp [h5]
end Go.Proofs.YtbhiljaipikklaaGreatDoorL

