/- The plain law of ScoreFirst: the best of any ranks is what the document says, in whatever order they are. No conditions. -/
import Derived.Test.YtcojggiggehbiaaScoreD
namespace Go.Proofs.Ytcojggiggehbiaa.Pure
open Go.RowKit Go.Proofs.Ytcojggiggehbiaa.P Go.Proofs.YtcojggiggehbiaaW.PrintWords Go.Proofs.YtcojggiggehbiaaW.PrintLast

abbrev Rk := Int × Int × ByteArray
def t36 (x : S36) : Rk := (x.f0, x.f1, x.f2)
def t35 (x : S35) : Rk := (x.f0, x.f1, x.f2)

theorem rd36_at (l : List S36) (i : Nat) (h : i < l.length) : rd_T36 l (i : Int) = l[i] := by
  unfold rd_T36
  simp [List.getD, List.getElem?_eq_getElem h]
theorem rd35_at (l : List S35) (i : Nat) (h : i < l.length) : rd_T35 l (i : Int) = l[i] := by
  unfold rd_T35
  simp [List.getD, List.getElem?_eq_getElem h]

/-- The best of ranks: none is ahead of it. -/
def IsBest (b : Rk) (l : List Rk) : Prop := b ∈ l ∧ ∀ x ∈ l, betterB x b = false
theorem best_one {b b' : Rk} {l l' : List Rk} (h : IsBest b l) (h' : IsBest b' l') (hm : ∀ x, x ∈ l ↔ x ∈ l') : b = b' :=
  better_tri (h'.2 _ ((hm _).1 h.1)) (h.2 _ ((hm _).2 h'.1))

/-- The better of two. -/
def up (a x : Rk) : Rk := if betterB x a = true then x else a
theorem up_best {a x : Rk} {l : List Rk} (h : IsBest a l) : IsBest (up a x) (l ++ [x]) := by
  unfold up
  by_cases hb : betterB x a = true
  · rw [if_pos hb]
    refine ⟨by simp, fun y hy => ?_⟩
    rcases List.mem_append.1 hy with hy | hy
    · cases hyx : betterB y x with
      | false => rfl
      | true =>
        have := h.2 y hy
        rw [better_trans hyx hb] at this
        cases this
    · rw [List.mem_singleton.1 hy]
      exact better_irrefl x
  · rw [if_neg hb]
    refine ⟨List.mem_append_left _ h.1, fun y hy => ?_⟩
    rcases List.mem_append.1 hy with hy | hy
    · exact h.2 y hy
    · rw [List.mem_singleton.1 hy]
      simpa using hb

theorem ne_or {x a : Rk} : (!(x.1 == a.1) || (!(x.2.1 == a.2.1) || (!(x.2.2.toList == a.2.2.toList)))) = true ∨ betterB x a = false := by
  by_cases h : (!(x.1 == a.1) || (!(x.2.1 == a.2.1) || (!(x.2.2.toList == a.2.2.toList)))) = true
  · exact .inl h
  · right
    simp at h
    obtain ⟨h1, h2, h3⟩ := h
    simp [betterB, h1, h2, h3, bl_irrefl]

theorem first_from (l : List S36) (hl : l.length ≤ 1000) (d : Nat) : ∀ (i : Nat) (a : Rk), i + d = l.length → 0 < i → IsBest a ((l.take i).map t36) →
    ∃ b : Rk, IsBest b (l.map t36) ∧ Ev (fun k => score_First.l0 k l l (l.length : Int) (i : Int) a.1 a.2.1 a.2.2) (b.1, b.2.1, b.2.2, true) := by
  induction d with
  | zero =>
    intro i a hi h0 ha
    rw [List.take_of_length_le (by omega)] at ha
    refine ⟨a, ha, 1, fun k hk => ?_⟩
    obtain ⟨k, rfl⟩ : ∃ m, k = m + 1 := ⟨k - 1, by omega⟩
    simp only [score_First.l0]
    rw [if_neg (by omega)]
    simp
    omega
  | succ d ih =>
    intro i a hi h0 ha
    have hlt : i < l.length := by omega
    have htk : (l.take (i + 1)).map t36 = (l.take i).map t36 ++ [t36 l[i]] := by
      rw [List.take_succ_eq_append_getElem hlt, List.map_append]
      rfl
    obtain ⟨b, hb, hev⟩ := ih (i + 1) (up a (t36 l[i])) (by omega) (by omega) (by rw [htk]; exact up_best ha)
    refine ⟨b, hb, ?_⟩
    have hne := ne_or (x := t36 l[i]) (a := a)
    have hc : ((i + 1 : Nat) : Int) = (i : Int) + 1 := by omega
    by_cases hd : (!(l[i].f0 == a.1) || (!(l[i].f1 == a.2.1) || (!(l[i].f2.toList == a.2.2.toList)))) = true
    · refine Ev.step (f := fun k => (score_Better.f k l[i].f0 l[i].f1 l[i].f2 a.1 a.2.1 a.2.2).bind fun t => if t = true then score_First.l0 k l l (l.length : Int) ((i + 1 : Nat) : Int) l[i].f0 l[i].f1 l[i].f2 else score_First.l0 k l l (l.length : Int) ((i + 1 : Nat) : Int) a.1 a.2.1 a.2.2) (fun k => ?_) ?_
      · simp only [score_First.l0]
        rw [if_pos (by omega), if_pos (by omega), if_pos (by omega), if_neg (by omega), rd36_at l i hlt, if_pos hd, wrap64_id (x := (i : Int) + 1) (by omega) (by omega), hc]
      · refine Ev.bind (f := fun k t => if t = true then score_First.l0 k l l (l.length : Int) ((i + 1 : Nat) : Int) l[i].f0 l[i].f1 l[i].f2 else score_First.l0 k l l (l.length : Int) ((i + 1 : Nat) : Int) a.1 a.2.1 a.2.2) (better_ev (t36 l[i]) a) ?_
        by_cases hb2 : betterB (t36 l[i]) a = true
        · simp only [hb2, if_true]
          rw [up, if_pos hb2] at hev
          exact hev
        · simp only [if_neg hb2]
          rw [up, if_neg hb2] at hev
          exact hev
    · have hb2 : ¬ betterB (t36 l[i]) a = true := by
        rcases hne with h | h
        · exact absurd h hd
        · rw [h]
          decide
      rw [up, if_neg hb2] at hev
      refine Ev.step (f := fun k => score_First.l0 k l l (l.length : Int) ((i + 1 : Nat) : Int) a.1 a.2.1 a.2.2) (fun k => ?_) hev
      simp only [score_First.l0]
      rw [if_pos (by omega), if_pos (by omega), if_pos (by omega), if_neg (by omega), rd36_at l i hlt, if_neg hd, wrap64_id (x := (i : Int) + 1) (by omega) (by omega), hc]

theorem first_ev (l : List S36) (hl : l.length ≤ 1000) :
    (l = [] ∧ Ev (fun k => score_First.f k l) (0, 0, ⟨#[]⟩, false)) ∨ ∃ b : Rk, IsBest b (l.map t36) ∧ Ev (fun k => score_First.f k l) (b.1, b.2.1, b.2.2, true) := by
  cases l with
  | nil =>
    refine .inl ⟨rfl, 1, fun k hk => ?_⟩
    obtain ⟨k, rfl⟩ : ∃ m, k = m + 1 := ⟨k - 1, by omega⟩
    simp [score_First.f, score_First.l0]
  | cons x l =>
    right
    obtain ⟨b, hb, hev⟩ := first_from (x :: l) hl l.length 1 (t36 x) (by simp; omega) (by omega) ⟨by simp, fun y hy => by
      simp at hy
      rw [hy]
      exact better_irrefl _⟩
    refine ⟨b, hb, Ev.step (f := fun k => score_First.l0 k (x :: l) (x :: l) ((x :: l).length : Int) ((1 : Nat) : Int) x.f0 x.f1 x.f2) (fun k => ?_) hev⟩
    simp only [score_First.f, score_First.l0]
    rw [if_pos (by simp), if_pos (by simp), if_pos (by simp), if_pos trivial, wrap64_id (x := 0 + 1) (by omega) (by omega)]
    rfl

theorem inner_from (l : List S35) (hl : l.length ≤ 1000) (i : Nat) (hi : i < l.length) (d : Nat) : ∀ (j : Nat) (b : Bool), j + d = l.length →
    ((b && ((l.drop j).map t35).all fun x => !betterB x (t35 l[i])) = true → Ev (fun k => souffleurref14_First.l1 k l (i : Int) b (j : Int)) (l[i].f0, l[i].f1, l[i].f2, true)) ∧
    ((b && ((l.drop j).map t35).all fun x => !betterB x (t35 l[i])) = false → ∀ r, Ev (fun k => souffleurref14_First.l0 k l ((i + 1 : Nat) : Int)) r → Ev (fun k => souffleurref14_First.l1 k l (i : Int) b (j : Int)) r) := by
  induction d with
  | zero =>
    intro j b hj
    rw [List.drop_of_length_le (by omega)]
    simp only [List.map_nil, List.all_nil, Bool.and_true]
    constructor
    · rintro rfl
      refine ⟨1, fun k hk => ?_⟩
      obtain ⟨k, rfl⟩ : ∃ m, k = m + 1 := ⟨k - 1, by omega⟩
      simp only [souffleurref14_First.l1]
      rw [if_neg (by omega), if_pos trivial, if_pos (by omega), if_pos (by omega), rd35_at l i hi]
    · rintro rfl r hr
      refine Ev.step (fun k => ?_) hr
      simp only [souffleurref14_First.l1]
      rw [if_neg (by omega), if_neg (by decide), wrap64_id (x := (i : Int) + 1) (by omega) (by omega)]
      rfl
  | succ d ih =>
    intro j b hj
    have hlt : j < l.length := by omega
    have hd : (l.drop j).map t35 = t35 l[j] :: (l.drop (j + 1)).map t35 := by rw [List.drop_eq_getElem_cons hlt, List.map_cons]
    have hstep : ∀ k, souffleurref14_First.l1 (k + 1) l (i : Int) b (j : Int) = souffleurref14_First.l1 k l (i : Int) (b && !betterB (t35 l[j]) (t35 l[i])) ((j + 1 : Nat) : Int) := fun k => by
      simp only [souffleurref14_First.l1]
      rw [if_pos (by omega), if_pos (by omega), if_pos (by omega), if_pos (by omega), rd35_at l i hi, rd35_at l j hlt, wrap64_id (x := (j : Int) + 1) (by omega) (by omega)]
      have he := refBetter_eq (t35 l[j]) (t35 l[i])
      simp only [t35] at he
      rw [he]
      simp only [Option.bind_some]
      have hc : ((j + 1 : Nat) : Int) = (j : Int) + 1 := by omega
      rw [hc]
      cases hb : betterB (l[j].f0, l[j].f1, l[j].f2) (l[i].f0, l[i].f1, l[i].f2) with
      | true => simp [t35, hb]
      | false => simp [t35, hb]
    obtain ⟨h1, h2⟩ := ih (j + 1) (b && !betterB (t35 l[j]) (t35 l[i])) (by omega)
    rw [hd, List.all_cons, ← Bool.and_assoc]
    exact ⟨fun h => Ev.step hstep (h1 h), fun h r hr => Ev.step hstep (h2 h r hr)⟩

theorem ref_from (l : List S35) (hl : l.length ≤ 1000) (b : Rk) (hb : IsBest b (l.map t35)) (d : Nat) : ∀ i : Nat, i + d = l.length → (∃ j, i ≤ j ∧ ∃ h : j < l.length, t35 l[j] = b) →
    Ev (fun k => souffleurref14_First.l0 k l (i : Int)) (b.1, b.2.1, b.2.2, true) := by
  induction d with
  | zero =>
    rintro i hi ⟨j, hj, h, _⟩
    omega
  | succ d ih =>
    rintro i hi ⟨j, hj, hjl, hjb⟩
    have hlt : i < l.length := by omega
    have hin := inner_from l hl i hlt l.length 0 true (by omega)
    refine Ev.step (f := fun k => souffleurref14_First.l1 k l (i : Int) true 0) (fun k => ?_) ?_
    · simp only [souffleurref14_First.l0]
      rw [if_pos (by omega)]
    · simp only [List.drop_zero, Bool.true_and] at hin
      by_cases hall : ((l.map t35).all fun x => !betterB x (t35 l[i])) = true
      · have hib : t35 l[i] = b := by
          refine best_one ⟨?_, ?_⟩ hb (fun x => Iff.rfl)
          · exact List.mem_map.2 ⟨_, List.getElem_mem hlt, rfl⟩
          · intro x hx
            have := List.all_eq_true.1 hall x hx
            simpa using this
        have := hin.1 hall
        rw [← hib]
        exact this
      · have hall' : ((l.map t35).all fun x => !betterB x (t35 l[i])) = false := by simpa using hall
        refine hin.2 hall' _ (ih (i + 1) (by omega) ⟨j, ?_, hjl, hjb⟩)
        rcases Nat.lt_or_ge i j with h | h
        · omega
        · exfalso
          have : i = j := by omega
          subst this
          apply hall
          rw [List.all_eq_true]
          intro x hx
          rw [hjb, hb.2 x hx]
          rfl

theorem refFirst_ev (l : List S35) (hl : l.length ≤ 1000) :
    (l = [] → Ev (fun k => souffleurref14_First.f k l) (0, 0, ⟨#[]⟩, false)) ∧ ∀ b : Rk, IsBest b (l.map t35) → Ev (fun k => souffleurref14_First.f k l) (b.1, b.2.1, b.2.2, true) := by
  constructor
  · rintro rfl
    refine ⟨1, fun k hk => ?_⟩
    obtain ⟨k, rfl⟩ : ∃ m, k = m + 1 := ⟨k - 1, by omega⟩
    simp [souffleurref14_First.f, souffleurref14_First.l0]
  · intro b hb
    obtain ⟨x, hx, hxb⟩ := List.mem_map.1 hb.1
    obtain ⟨j, hj, hjx⟩ := List.getElem_of_mem hx
    exact ref_from l hl b hb l.length 0 (by omega) ⟨j, by omega, hj, by rw [hjx, hxb]⟩

end Go.Proofs.Ytcojggiggehbiaa.Pure
