/- Parts of the proof of the law that the last file states; declarations that nothing mentions are left out by a program. No conditions. -/
import Derived.Shelf.Strings.Builder1
import Derived.Shelf.Strings.Builder2
import Derived.Shelf.Strings.Trim
import Derived.Shelf.Small.Utf8
import Derived.Shelf.Small.Bits
import Derived.Shelf.Small.Strs
import Derived.Shelf.Strings.BuilderF
import Derived.Shelf.Strings.BuilderK
import Derived.Shelf.Strings.BuilderRune
import Derived.Shelf.Utf8.AppendRune
import Derived.Shelf.Utf8.AppendRunePlain
import Derived.Shelf.Strings.Builder2Cap
import Derived.Shelf.Strconv.Itoa0
import Derived.Shelf.Strings.Search1
import Derived.Shelf.Strings.Search2
import Derived.Shelf.Strings.Search3
import Derived.Shelf.LaysM
import Derived.Shelf.Strings.Shaped
import Derived.Shelf.Sort.Plain
import Derived.Shelf.Strings.Prefix
import Derived.Shelf.Unicode.Decode
import Derived.Shelf.Strings.Runes
import Derived.Shelf.Strings.AsciiSet
import Derived.Shelf.Unicode.DecodeSlow
import Derived.Shelf.Unicode.DecodeAny
import Derived.Shelf.Strings.MapAny
import Derived.Shelf.Strings.BuilderCap
import Derived.Shelf.Strings.MapGrows
import Derived.Shelf.Slices.Turned
import Derived.Shelf.Slices.In.SortNone
import Derived.Test.YtbhiljaipikklaaGreatDoorProg
import Derived.Test.YtbhiljaipikklaaGreatDoorLRefGrowPq
set_option linter.unusedVariables false
set_option linter.unusedSimpArgs false
section
namespace Go.Proofs.YtbhiljaipikklaaGreatDoorL
open Go Go.Lib Go.RowKit Go.Proofs.YtbhiljaipikklaaGreatDoorW.PrintWords Go.Proofs.YtbhiljaipikklaaGreatDoor.R
theorem without_right {rs : List Nat} (hg : ∀ r ∈ rs, goodR r) (h6 : (encS rs).size ≤ 600) {f a : Nat} (hf : f ∈ boundsL (encS rs)) (ha : a ∈ boundsL (encS rs)) (hlt : f < a) : makeS (withoutS (encS rs) f a) = withoutS (encS rs) f a ∧ (withoutS (encS rs) f a).size ≤ 600 := by
  have hv := good_valid hg
  have has : a ≤ (encS rs).size := boundsL_le _ _ ha
  obtain ⟨p0, q0, e0, f0⟩ := bound_pieces hv hf
  obtain ⟨p1, q1, e1, f1⟩ := bound_pieces hv ha
  have hW : withoutS (encS rs) f a = encS (p0 ++ q1) := by
    unfold withoutS
    rw [encS_append]
    congr 1
    · rw [f0, e0]; exact encS_head p0 q0
    · rw [f1, e1]; exact encS_tail p1 q1
  have hgW : ∀ r ∈ p0 ++ q1, goodR r := fun r hr => by
    rcases List.mem_append.1 hr with h | h
    · exact hg r (by rw [e0]; exact List.mem_append_left _ h)
    · exact hg r (by rw [e1]; exact List.mem_append_right _ h)
  have hz : (withoutS (encS rs) f a).size ≤ 600 := by
    rw [withoutS_size (encS rs) f a (by omega) has]
    omega
  rw [hW] at hz ⊢
  exact ⟨makeS_good hgW hz, hz⟩
def cutQ (m : ByteArray) (a f : Nat) : ByteArray × Nat := if a ≤ f then (m, a) else (withoutS m f a, backL (withoutS m f a) (f : Int))
theorem cutr_tells {m : ByteArray} (hm : makeS m = m) {a : Nat} (ha : backL m (a : Int) = a) (x : Int) (k : Nat) (hk : 200000 ≤ k) : ∃ r, souffleurref03_Cut.f k m (a : Int) x (a : Int) = some ((cutQ m a (backL m x)).1, ((cutQ m a (backL m x)).2 : Int), r) := by
  have h6 : m.size ≤ 600 := by rw [← hm]; exact makeS_six m
  have hb := backL_le m x
  have hal := backL_le m (a : Int)
  rw [ha] at hal
  unfold souffleurref03_Cut.f
  rw [make_tells m (a : Int) (by omega) k hk, hm, ha, Option.bind_some, back_tells m x (by omega) k (by omega), Option.bind_some, back_tells m (a : Int) (by omega) k (by omega), ha, Option.bind_some]
  dsimp only
  unfold cutQ
  by_cases hge : a ≤ backL m x
  · rw [if_pos (by omega), if_pos hge]
    exact ⟨_, rfl⟩
  · have hw : (withoutS m (backL m x) a).size ≤ 600 := by rw [withoutS_size m _ a hb hal]; omega
    rw [if_neg (by omega), if_neg hge, if_pos (by omega), if_pos (by omega), if_pos (by omega), if_pos (by omega), if_pos (by rw [ByteArray.size_extract, ByteArray.size_extract]; omega), if_neg (by omega), if_pos (by omega)]
    simp only [Int.toNat_natCast]
    have e : m.extract 0 (backL m x) ++ m.extract a m.size = withoutS m (backL m x) a := rfl
    rw [e, back_tells _ _ (by omega) k (by omega), Option.bind_some, if_pos (by omega)]
    exact ⟨_, rfl⟩
theorem insr_tells {m : ByteArray} (hm : makeS m = m) {a : Nat} (ha : backL m (a : Int) = a) (t : ByteArray) (ht : t.size ≤ 10000) (k : Nat) (hk : 2000000 ≤ k) :
    souffleurref03_Insert.f k m (a : Int) t = some ((insP m a (plainS t)).1.1, ((insP m a (plainS t)).1.2 : Int), decide ((insP m a (plainS t)).2 = 0)) := by
  have h6 : m.size ≤ 600 := by rw [← hm]; exact makeS_six m
  have hal := backL_le m (a : Int)
  rw [ha] at hal
  have hp := plainS_size t
  unfold souffleurref03_Insert.f
  rw [make_tells m (a : Int) (by omega) k (by omega), hm, ha, Option.bind_some]
  unfold Go.Proofs.YtbhiljaipikklaaGreatDoor.souffleurref03_Plain.f
  rw [if_pos (by omega), Option.bind_some, show wrap64 ((m.size : Int) + ((plainS t).size : Int)) = ((m.size + (plainS t).size : Nat) : Int) by unfold wrap64; omega]
  dsimp only
  unfold insP
  by_cases hgt : 600 < m.size + (plainS t).size
  · rw [if_pos (by omega), if_pos hgt]
    rfl
  · have hps := putIn_size m a (plainS t) hal
    have hex : (m.extract 0 a).size = a := by rw [ByteArray.size_extract]; omega
    rw [if_neg (by omega), if_neg hgt, if_pos (by omega), if_pos (by omega)]
    simp only [Int.toNat_natCast]
    rw [if_pos (by rw [hex]; omega), if_pos (by rw [ByteArray.size_append, hex, ByteArray.size_extract]; omega), show wrap64 ((a : Int) + ((plainS t).size : Int)) = (a : Int) + ((plainS t).size : Int) by unfold wrap64; omega]
    have e : m.extract 0 a ++ plainS t ++ m.extract a m.size = putIn m a (plainS t) := rfl
    rw [e, on_tells _ _ (by omega) k (by omega), Option.bind_some]
    rfl
theorem bt_get {m : ByteArray} {j : Nat} (h : j < m.size) : bt m (j : Int) = ((m.data.toList[j]'(by rw [← Lib.size_eq]; exact h)).toNat : Int) := by
  unfold bt
  rw [dif_pos (by simpa using h)]
  simp [ByteArray.getElem_eq_getElem_data]
theorem bt_blank {m : ByteArray} {j : Nat} (h : j < m.size) : bt m (j : Int) = 32 ↔ m.data.toList[j]'(by rw [← Lib.size_eq]; exact h) = 32 := by
  rw [bt_get h]
  constructor
  · intro e
    have : (m.data.toList[j]'(by rw [← Lib.size_eq]; exact h)).toNat = 32 := by omega
    exact UInt8.toNat_inj.1 this
  · intro e; rw [e]; rfl
theorem ext_head (m : ByteArray) (a : Nat) (h : a ≤ m.size) : (m.extract 0 a).data.toList = m.data.toList.take a := by
  rw [ByteArray.data_extract, Array.toList_extract, List.extract_eq_take_drop]
  simp
theorem ext_mid (m : ByteArray) (j a : Nat) (h : a ≤ m.size) : (m.extract j a).data.toList = (m.data.toList.take a).drop j := by
  rw [ByteArray.data_extract, Array.toList_extract, List.extract_eq_take_drop, List.drop_take]
theorem stuck_bt (m : ByteArray) (a : Nat) : stuck m a = (decide (a < m.size) && (bt m (a : Int) != 32)) := by
  unfold stuck
  by_cases h : a < m.size
  · have hl : a < m.data.toList.length := by rw [← Lib.size_eq]; exact h
    have e : (m.extract a m.size).data.toList = m.data.toList.drop a := ext_data m a
    rw [e, List.drop_eq_getElem_cons hl]
    have hb := bt_blank h
    by_cases h32 : m.data.toList[a] = 32
    · have := hb.2 h32
      rw [this, h32]
      simp [hasPrefix]
    · have hne : ¬ bt m (a : Int) = 32 := fun x => h32 (hb.1 x)
      have h1 : (bt m (a : Int) != 32) = true := by simp [hne]
      have h2 : hasPrefix (m.data.toList[a] :: m.data.toList.drop (a + 1)) [32] = false := by
        have h3 : ((32 : UInt8) == m.data.toList[a]) = false := by rw [beq_eq_false_iff_ne]; exact fun x => h32 x.symm
        simp [hasPrefix, List.isPrefixOf, h3]
        exact fun hh => h32 (by rw [Array.getElem_toList]; exact hh.symm)
      rw [h1, h2]
      rfl
  · simp [h]
theorem cutQ_le {m : ByteArray} {a f : Nat} (h : a ≤ f) : cutQ m a f = (m, a) := by unfold cutQ; rw [if_pos h]
theorem cutQ_gt {m : ByteArray} {a f : Nat} (h : ¬ a ≤ f) : cutQ m a f = (withoutS m f a, backL (withoutS m f a) (f : Int)) := by unfold cutQ; rw [if_neg h]
theorem cutQ_right {m : ByteArray} (hm : makeS m = m) {a : Nat} (ha : backL m (a : Int) = a) (x : Int) : makeS (cutQ m a (backL m x)).1 = (cutQ m a (backL m x)).1 ∧ backL (cutQ m a (backL m x)).1 ((cutQ m a (backL m x)).2 : Int) = (cutQ m a (backL m x)).2 := by
  have h6 : m.size ≤ 600 := by rw [← hm]; exact makeS_six m
  obtain ⟨rs, hg, e⟩ := makeS_enc m
  rw [hm] at e
  have hbm := backL_mem m x
  have ham : a ∈ boundsL m := by rw [← ha]; exact backL_mem m _
  generalize backL m x = f at *
  by_cases hge : a ≤ f
  · rw [cutQ_le hge]
    exact ⟨hm, ha⟩
  · rw [cutQ_gt hge]
    have h1 : makeS (withoutS m f a) = withoutS m f a := by
      have := without_right hg (by rw [← e]; exact h6) (f := f) (a := a) (by rw [← e]; exact hbm) (by rw [← e]; exact ham) (by omega)
      rw [← e] at this
      exact this.1
    have h2 := backL_twice (withoutS m f a) (f : Int)
    generalize backL (withoutS m f a) (f : Int) = g at *
    generalize withoutS m f a = W at *
    exact ⟨h1, h2⟩
theorem cutP_cutQ {m : ByteArray} (hm : makeS m = m) {a : Nat} (ha : backL m (a : Int) = a) (x : Int) : makeS (cutP m a (backL m x) a).1 = (cutQ m a (backL m x)).1 ∧ backL (makeS (cutP m a (backL m x) a).1) ((cutP m a (backL m x) a).2 : Int) = (cutQ m a (backL m x)).2 := by
  have hright := cutQ_right hm ha x
  unfold cutP
  unfold cutQ at hright ⊢
  by_cases hge : a ≤ backL m x
  · rw [if_pos hge, if_pos hge]
    dsimp only
    rw [hm, ha]
    exact ⟨rfl, rfl⟩
  · rw [if_neg hge] at hright
    rw [if_neg hge, if_neg hge]
    have hca : cutAt a (backL m x) a = (backL m x : Int) := by
      unfold cutAt
      rw [if_pos (by omega)]
      omega
    dsimp only at hright ⊢
    rw [hca, hright.1, hright.1, backL_twice]
    exact ⟨rfl, rfl⟩
theorem growP_yes {tt : List (ByteArray × ByteArray)} {m : ByteArray} (hm : makeS m = m) {a : Nat} (ha : backL m (a : Int) = a) {j : Int} (hj : (a : Int) - ((nameOf m a).size : Int) = j) (h1 : (getP (nameOf m a) tt).2 = true) (h2 : stuck m a = false) :
    growP m a tt = if (insP (cutQ m a (backL m j)).1 (cutQ m a (backL m j)).2 (plainS (getP (nameOf m a) tt).1)).2 = 0 then ((insP (cutQ m a (backL m j)).1 (cutQ m a (backL m j)).2 (plainS (getP (nameOf m a) tt).1)).1, neB (insP (cutQ m a (backL m j)).1 (cutQ m a (backL m j)).2 (plainS (getP (nameOf m a) tt).1)).1 (m, a)) else ((m, a), false) := by
  obtain ⟨e1, e2⟩ := cutP_cutQ hm ha j
  unfold growP
  rw [if_neg (by rw [h1, h2]; simp)]
  dsimp only
  rw [hm, ha, hj, e2, e1]
theorem grow_j2 {tt : List (ByteArray × ByteArray)} (hT : WellT tt) {m : ByteArray} (hm : makeS m = m) {a : Nat} (ha : backL m (a : Int) = a) {nm : ByteArray} (hnm : nm = nameOf m a) {j : Nat} (hj : j + nm.size = a) (k : Nat) (hk : 2000000 ≤ k) (b : Bool) (hb : (getP nm tt).2 = true ∧ stuck m a = false ↔ b = false) :
    souffleurref08_Grow.j2 (k + 1) (j : Int) (getP nm tt).1 b m (a : Int) = some ((growP m a tt).1.1, ((growP m a tt).1.2 : Int), (growP m a tt).2) := by
  rw [souffleurref08_Grow.j2]
  cases b with
  | true =>
    rw [if_pos rfl]
    have : (getP (nameOf m a) tt).2 = false ∨ stuck m a = true := by
      rw [← hnm]
      cases h1 : (getP nm tt).2 with
      | false => exact .inl rfl
      | true =>
        right
        cases h2 : stuck m a with
        | true => rfl
        | false => exact absurd (hb.1 ⟨h1, h2⟩) (by decide)
    rw [growP_no this]
  | false =>
    obtain ⟨h1, h2⟩ := hb.2 rfl
    rw [if_neg (by decide)]
    obtain ⟨r, hcut⟩ := cutr_tells hm ha (j : Int) k (by omega)
    rw [hcut, Option.bind_some]
    have hto : (getP nm tt).1.size ≤ 100 := getP_size (fun p hp => (hT.1 p hp).2.2)
    have hright := cutQ_right hm ha (j : Int)
    have hgp := growP_yes (tt := tt) hm ha (j := (j : Int)) (by rw [← hnm]; omega) (by rw [← hnm]; exact h1) h2
    rw [← hnm] at hgp
    rw [insr_tells hright.1 hright.2 (getP nm tt).1 (by omega) k hk, Option.bind_some, hgp]
    generalize insP (cutQ m a (backL m (j : Int))).1 (cutQ m a (backL m (j : Int))).2 (plainS (getP nm tt).1) = i
    obtain ⟨⟨i1, i2⟩, i3⟩ := i
    by_cases h0 : i3 = 0
    · subst h0
      have hn : (!(i1.toList == m.toList) || !((i2 : Int) == (a : Int))) = neB (i1, i2) (m, a) := by unfold neB; rw [Bool.not_and]
      dsimp only
      rw [hn]
      rfl
    · dsimp only
      rw [if_neg h0, decide_eq_false h0]
      rfl
theorem grow_end {tt : List (ByteArray × ByteArray)} {l : List RP} (hr : Rel tt l) (hT : WellT tt) {m : ByteArray} (hm : makeS m = m) {a : Nat} (ha : backL m (a : Int) = a) {nm : ByteArray} (hnm : nm = nameOf m a) {j : Nat} (hj : j + nm.size = a) (hje : m.extract j a = nm) (k : Nat) (hk : 2000003 ≤ k) :
    souffleurref08_Grow.j1 k l (j : Int) m (a : Int) = some ((growP m a tt).1.1, ((growP m a tt).1.2 : Int), (growP m a tt).2) := by
  obtain ⟨k, rfl⟩ : ∃ i, k = i + 2 := ⟨k - 2, by omega⟩
  have hal := backL_le m (a : Int)
  rw [ha] at hal
  have hl := hr.length
  have hl16 := hT.2.1
  have hget : souffleurref08_Get.f (k + 1) l nm = some (getP nm tt) := by
    have h1 := get_tells (l := l) (by omega) nm
    rw [hr.get hT nm] at h1
    have hmono : ∀ d, souffleurref08_Get.f (l.length + 1 + d) l nm = some (getP nm tt) := by
      intro d
      induction d with
      | zero => exact h1
      | succ d ih => exact souffleurref08_Get.mono l nm _ _ ih
    have := hmono (k - l.length)
    rwa [show l.length + 1 + (k - l.length) = k + 1 by omega] at this
  have hj2 := grow_j2 hT hm ha hnm hj k (by omega)
  rw [souffleurref08_Grow.j1]
  rw [if_pos (by omega), if_pos (by omega), if_pos (by omega)]
  simp only [Int.toNat_natCast]
  rw [hje, hget, Option.bind_some]
  have hst := stuck_bt m a
  cases h1 : (getP nm tt).2 with
  | false =>
    rw [if_neg (by decide)]
    exact hj2 true (by rw [h1]; simp)
  | true =>
    rw [if_pos rfl]
    by_cases hlt : a < m.size
    · rw [if_pos (by omega), if_pos (by omega)]
      refine hj2 _ ?_
      rw [h1, hst]
      simp [hlt]
    · rw [if_neg (by omega)]
      refine hj2 false ?_
      rw [h1, hst]
      simp [hlt]
theorem grow_tells {tt : List (ByteArray × ByteArray)} {l : List RP} (hr : Rel tt l) (hT : WellT tt) (S : ByteArray) (at_ : Int) (hS : S.size ≤ 1500) :
    ∃ k, souffleurref08_Grow.f k l S at_ = some ((growP (makeS S) (backL (makeS S) at_) tt).1.1, ((growP (makeS S) (backL (makeS S) at_) tt).1.2 : Int), (growP (makeS S) (backL (makeS S) at_) tt).2) := by
  refine ⟨2001000, ?_⟩
  unfold souffleurref08_Grow.f
  rw [make_tells S at_ (by omega) _ (by omega), Option.bind_some]
  have hm := makeS_twice S
  have ha := backL_twice (makeS S) at_
  have h6 := makeS_six S
  have hal := backL_le (makeS S) at_
  generalize backL (makeS S) at_ = a at *
  generalize makeS S = m at *
  have hls : m.data.toList.length = m.size := (Lib.size_eq m).symm
  have hnm : (nameOf m a).data.toList = (m.data.toList.take a).dropWhile (· == 32) := by
    unfold nameOf trimLeftB
    rw [ext_head m a hal]
  have hmk : ∀ (x y : ByteArray), x.data.toList = y.data.toList → x = y := fun x y h => by
    cases x; cases y; congr; exact Array.toList_inj.1 h
  have loop : ∀ (d j k : Nat), j + d = a → 2000003 + d < k → (m.data.toList.take a).dropWhile (· == 32) = ((m.data.toList.take a).drop j).dropWhile (· == 32) →
      souffleurref08_Grow.l0 k l (j : Int) m (a : Int) = some ((growP m a tt).1.1, ((growP m a tt).1.2 : Int), (growP m a tt).2) := by
    intro d
    induction d with
    | zero =>
      intro j k hj hk hdw
      obtain ⟨k, rfl⟩ : ∃ i, k = i + 1 := ⟨k - 1, by omega⟩
      have hja : j = a := by omega
      subst hja
      rw [souffleurref08_Grow.l0]
      rw [if_neg (by omega)]
      have he : m.extract j j = nameOf m j := hmk _ _ (by
        rw [ext_mid m j j hal, hnm, hdw]
        have : (m.data.toList.take j).drop j = [] := List.drop_eq_nil_of_le (by rw [List.length_take]; omega)
        rw [this]
        rfl)
      have hz : (nameOf m j).size = 0 := by rw [← he, ByteArray.size_extract]; omega
      exact grow_end hr hT hm ha rfl (by omega) he k (by omega)
    | succ d ih =>
      intro j k hj hk hdw
      obtain ⟨k, rfl⟩ : ∃ i, k = i + 1 := ⟨k - 1, by omega⟩
      have hjm : j < m.size := by omega
      have hjl : j < (m.data.toList.take a).length := by rw [List.length_take]; omega
      have hge : (m.data.toList.take a)[j] = m.data.toList[j]'(by omega) := List.getElem_take
      rw [souffleurref08_Grow.l0]
      rw [if_pos (by omega), if_pos (by omega), if_pos (by omega)]
      rw [List.drop_eq_getElem_cons hjl, hge] at hdw
      by_cases h32 : m.data.toList[j]'(by omega) = 32
      · rw [if_pos ((bt_blank hjm).2 h32), show wrap64 ((j : Int) + 1) = ((j + 1 : Nat) : Int) by unfold wrap64; omega]
        refine ih (j + 1) k (by omega) (by omega) ?_
        rw [hdw, h32, List.dropWhile_cons_of_pos (by decide)]
      · rw [if_neg (fun x => h32 ((bt_blank hjm).1 x))]
        have he : m.extract j a = nameOf m a := hmk _ _ (by
          rw [ext_mid m j a hal, hnm, hdw, List.dropWhile_cons_of_neg (by simpa using h32), List.drop_eq_getElem_cons hjl, hge])
        have hz : (nameOf m a).size = a - j := by rw [← he, ByteArray.size_extract]; omega
        exact grow_end hr hT hm ha rfl (by omega) he k (by omega)
  exact loop a 0 2001000 (by omega) (by omega) rfl
end Go.Proofs.YtbhiljaipikklaaGreatDoorL
end
section
namespace Go.Proofs.YtbhiljaipikklaaGreatDoorL
open Go Go.Shelf Go.Proofs
def Tryz.lays107_ren : Go.Shelf.Ren := ⟨fun | 107 => 34 | 108 => 54 | n => n, fun | 28 => 83 | 3 => 3 | 4 => 4 | 0 => 0 | n => n, fun | n => n⟩
theorem Tryz.lays107 : Go.Proofs.Lays.n107 Tryz.prog Tryz.lays107_ren := {
  mixed := by kernel_rfl
  f107 := Tryz.func34.trans (congrArg some (by kernel_rfl))
  f108 := Tryz.func54.trans (congrArg some (by kernel_rfl))
  t0 := Tryz.underlying0
  a0 := Tryz.isAgg0
  z0 := Tryz.sizeOf0
  v0 := Tryz.zeroValue0
  t3 := Tryz.underlying3
  a3 := Tryz.isAgg3
  z3 := Tryz.sizeOf3
  v3 := Tryz.zeroValue3
  t4 := Tryz.underlying4
  a4 := Tryz.isAgg4
  z4 := Tryz.sizeOf4
  v4 := Tryz.zeroValue4
  t28 := Tryz.underlying83
  a28 := Tryz.isAgg83
  z28 := Tryz.sizeOf83
  v28 := Tryz.zeroValue83 }
open Go.Lib in
theorem Tryz.slices_Contains_int (b off n c : Nat) (zs : List Int) (x : Int) (w : World) (hz : n ≤ zs.length) (hbig : n ≤ 9223372036854775807) (hc : ∀ j, j < zs.length → w.cell? ⟨b, off + j, none⟩ = some (.int .i64 (zs.getD j 0))) :
    Calls Tryz.prog 34 #[.slice (some ⟨b, off, none⟩) n c, .int .i64 x] w fun e w' => e = .returned (.bool ((zs.take n).contains x)) ∧ w' = w := Any.slices_Contains_int Tryz.lays107 b off n c zs x w hz hbig hc
end Go.Proofs.YtbhiljaipikklaaGreatDoorL
end
