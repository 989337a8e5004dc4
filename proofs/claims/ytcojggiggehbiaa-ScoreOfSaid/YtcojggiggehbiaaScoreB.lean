/- The plain law of ScoreOf: how much any uses count, and when the last one was, is what the document says; it is no more than Most. No conditions. -/
import Derived.Test.YtcojggiggehbiaaPx5
import Derived.Test.YtcojggiggehbiaaScoreA
namespace Go.Proofs.Ytcojggiggehbiaa.Pure
open Go.RowKit Go.Proofs.Ytcojggiggehbiaa.P Go.Proofs.YtcojggiggehbiaaW.PrintWords Go.Proofs.YtcojggiggehbiaaW.PrintLast

def conv (u : S49) : S47 := ⟨u.f0, u.f1⟩
def inT (u : S49) : Bool := decide (0 ≤ u.f0) && decide (u.f0 ≤ 1099511627776)

theorem rd49_at (l : List S49) (i : Nat) (h : i < l.length) : rd_T49 l (i : Int) = l[i] := by
  unfold rd_T49
  simp [List.getD, List.getElem?_eq_getElem h]

theorem conv_from (l : List S49) (hl : l.length ≤ 5864062014700) (d : Nat) : ∀ (i : Nat) (b : Bool), i + d = l.length →
    Ev (fun k => souffleurlaw14_of.l0 k ((l.take i).map conv) b l (l.length : Int) (i : Int)) (l.map conv, b && (l.drop i).all inT) := by
  induction d with
  | zero =>
    intro i b hi
    refine ⟨1, fun k hk => ?_⟩
    obtain ⟨k, rfl⟩ : ∃ m, k = m + 1 := ⟨k - 1, by omega⟩
    simp only [souffleurlaw14_of.l0]
    rw [if_neg (by omega), List.drop_of_length_le (by omega), List.take_of_length_le (by omega)]
    simp
  | succ d ih =>
    intro i b hi
    have hlt : i < l.length := by omega
    have hd : l.drop i = l[i] :: l.drop (i + 1) := List.drop_eq_getElem_cons hlt
    have htk : (l.take (i + 1)).map conv = (l.take i).map conv ++ [conv l[i]] := by
      rw [List.take_succ_eq_append_getElem hlt, List.map_append]
      rfl
    refine Ev.step (f := fun k => souffleurlaw14_of.l0 k ((l.take (i + 1)).map conv) (b && inT l[i]) l (l.length : Int) ((i + 1 : Nat) : Int)) (fun k => ?_) ?_
    · simp only [souffleurlaw14_of.l0]
      rw [if_pos (by omega), if_pos (by omega), if_pos (by omega), rd49_at l i hlt, wrap64_id (x := (i : Int) + 1) (by omega) (by omega), htk]
      have hsz : ((l.take i).map conv).length < 5864062014805 := by simp; omega
      rw [if_pos hsz, if_pos hsz]
      cases b with
      | false => simp [conv]
      | true =>
        simp only [if_true, Bool.true_and, inT]
        by_cases h0 : l[i].f0 ≥ 0
        · rw [if_pos h0]
          simp [conv, h0]
        · rw [if_neg h0]
          simp [conv, h0]
    · have := ih (i + 1) (b && inT l[i]) (by omega)
      rw [hd, List.all_cons, ← Bool.and_assoc]
      exact this

def okOf (l : List S49) (now : Int) : Bool := decide (now ≥ 0) && decide (now ≤ 1099511627776) && decide (l.length ≤ 100) && l.all inT

theorem conv_ev (l : List S49) (hl : l.length ≤ 5864062014700) (now : Int) : Ev (fun k => souffleurlaw14_of.f k l now) (l.map conv, okOf l now) := by
  have hj : ∀ b, Ev (fun k => souffleurlaw14_of.j0 k l [] b) (l.map conv, b && l.all inT) := fun b => by
    have := conv_from l hl l.length 0 b (by omega)
    exact Ev.step (f := fun k => souffleurlaw14_of.l0 k [] b l (l.length : Int) 0) (fun k => by simp only [souffleurlaw14_of.j0]) (by simpa using this)
  unfold souffleurlaw14_of.f okOf
  by_cases h1 : now ≥ 0
  · by_cases h2 : now ≤ 1099511627776
    · simp only [if_pos h1, if_pos h2, h1, h2, decide_true, Bool.true_and]
      have := hj (decide ((l.length : Int) ≤ 100))
      have e : decide ((l.length : Int) ≤ 100) = decide (l.length ≤ 100) := by congr 1; simp; omega
      rw [e] at this ⊢
      exact this
    · simp only [if_pos h1, if_neg h2, h2, decide_false, Bool.and_false, Bool.false_and]
      simpa using hj false
  · simp only [if_neg h1, h1, decide_false, Bool.false_and]
    simpa using hj false

theorem total_ge (now : Int) (dir : ByteArray) (l : List S47) : 0 ≤ total now dir l := (total_range now dir l).1

theorem refOf_from (now : Int) (dir : ByteArray) (hn : 0 ≤ now) (hn' : now ≤ 1099511627776) (l : List S49) (hl : l.length ≤ 1000) (ht : ∀ u ∈ l, 0 ≤ u.f0 ∧ u.f0 ≤ 1099511627776) (d : Nat) :
    ∀ (i : Nat) (n : Int), i + d = l.length → 0 ≤ n → n ≤ 1000 → Ev (fun k => souffleurref14_Of.l0 k l now dir n (i : Int)) (mn (n + total now dir ((l.drop i).map conv)) 1000) := by
  induction d with
  | zero =>
    intro i n hi h0 h1
    refine ⟨1, fun k hk => ?_⟩
    obtain ⟨k, rfl⟩ : ∃ m, k = m + 1 := ⟨k - 1, by omega⟩
    simp only [souffleurref14_Of.l0]
    rw [if_neg (by omega), List.drop_of_length_le (by omega)]
    simp [total, mn]
    omega
  | succ d ih =>
    intro i n hi h0 h1
    have hlt : i < l.length := by omega
    have hu := uw_range now dir l[i].f0 l[i].f1
    have hti := ht l[i] (List.getElem_mem hlt)
    have hw := wt_range (now - l[i].f0)
    have hd : l.drop i = l[i] :: l.drop (i + 1) := List.drop_eq_getElem_cons hlt
    have hg := total_ge now dir ((l.drop (i + 1)).map conv)
    have hmn : 0 ≤ mn (n + uw now dir l[i].f0 l[i].f1) 1000 ∧ mn (n + uw now dir l[i].f0 l[i].f1) 1000 ≤ 1000 := by unfold mn; split <;> omega
    have ih' := ih (i + 1) (mn (n + uw now dir l[i].f0 l[i].f1) 1000) (by omega) hmn.1 hmn.2
    have e : mn (n + total now dir ((l.drop i).map conv)) 1000 = mn (mn (n + uw now dir l[i].f0 l[i].f1) 1000 + total now dir ((l.drop (i + 1)).map conv)) 1000 := by
      rw [hd, List.map_cons]
      simp only [total, conv]
      unfold mn
      repeat' split
      all_goals omega
    rw [e]
    refine Ev.step (f := fun k => souffleurref14_Of.l0 k l now dir (mn (n + uw now dir l[i].f0 l[i].f1) 1000) ((i + 1 : Nat) : Int)) (fun k => ?_) ih'
    simp only [souffleurref14_Of.l0]
    rw [if_pos (by omega), if_pos (by omega), rd49_at l i hlt, wrap64_id (x := now - l[i].f0) (by omega) (by omega), refWeight_wt]
    simp only [Option.bind_some]
    rw [wrap64_id (x := (i : Int) + 1) (by omega) (by omega), wrap64_id (x := n + wt (now - l[i].f0)) (by omega) (by omega)]
    have hc : ((i + 1 : Nat) : Int) = (i : Int) + 1 := by omega
    rw [hc]
    by_cases hdir : l[i].f1.toList = dir.toList
    · rw [if_pos hdir, wrap64_id (by omega) (by omega)]
      have e2 : uw now dir l[i].f0 l[i].f1 = wt (now - l[i].f0) + 25 := by simp [uw, hdir]
      rw [e2, ← Int.add_assoc]
      unfold mn
      split <;> rfl
    · rw [if_neg hdir]
      have e2 : uw now dir l[i].f0 l[i].f1 = wt (now - l[i].f0) := by simp [uw, hdir]
      rw [e2]
      unfold mn
      split <;> rfl

def lastOf (n : Int) : List S49 → Int
  | [] => n
  | u :: l => lastOf (mx n u.f0) l

theorem refLast_from (l : List S49) (hl : l.length ≤ 1000) (d : Nat) : ∀ (i : Nat) (n : Int), i + d = l.length →
    Ev (fun k => souffleurref14_Last.l0 k l n (i : Int)) (lastOf n (l.drop i)) := by
  induction d with
  | zero =>
    intro i n hi
    refine ⟨1, fun k hk => ?_⟩
    obtain ⟨k, rfl⟩ : ∃ m, k = m + 1 := ⟨k - 1, by omega⟩
    simp only [souffleurref14_Last.l0]
    rw [if_neg (by omega), List.drop_of_length_le (by omega)]
    rfl
  | succ d ih =>
    intro i n hi
    have hlt : i < l.length := by omega
    rw [List.drop_eq_getElem_cons hlt]
    refine Ev.step (f := fun k => souffleurref14_Last.l0 k l (mx n l[i].f0) ((i + 1 : Nat) : Int)) (fun k => ?_) (ih (i + 1) _ (by omega))
    simp only [souffleurref14_Last.l0]
    rw [if_pos (by omega), if_pos (by omega), rd49_at l i hlt, wrap64_id (x := (i : Int) + 1) (by omega) (by omega)]
    unfold mx
    split <;> rfl

theorem last_from (l : List S49) (hl : l.length ≤ 1000) (d : Nat) : ∀ (i : Nat) (n : Int), i + d = l.length →
    Ev (fun k => score_Last.l0 k n (l.map conv) ((l.map conv).length : Int) (i : Int)) (lastOf n (l.drop i)) := by
  induction d with
  | zero =>
    intro i n hi
    refine ⟨1, fun k hk => ?_⟩
    obtain ⟨k, rfl⟩ : ∃ m, k = m + 1 := ⟨k - 1, by omega⟩
    simp only [score_Last.l0]
    rw [if_neg (by simp; omega), List.drop_of_length_le (by omega)]
    rfl
  | succ d ih =>
    intro i n hi
    have hlt : i < l.length := by omega
    rw [List.drop_eq_getElem_cons hlt]
    refine Ev.step (f := fun k => score_Last.l0 k (mx n l[i].f0) (l.map conv) ((l.map conv).length : Int) ((i + 1 : Nat) : Int)) (fun k => ?_) (ih (i + 1) _ (by omega))
    simp only [score_Last.l0]
    rw [if_pos (by simp; omega), if_pos (by omega), if_pos (by simp; omega), rd47_at (l.map conv) i (by simp; omega), wrap64_id (x := (i : Int) + 1) (by omega) (by omega)]
    simp [conv]

theorem most_ge (n : Nat) (hn : n ≤ 100) : ∃ m, score_Most.f (n : Int) = some m ∧ mn (125 * (n : Int)) 1000 ≤ m := by
  refine ⟨_, rfl, ?_⟩
  unfold mn
  repeat' split
  all_goals omega

theorem ScoreOf (l : List S49) (hl : l.length ≤ 5864062014700) (now : Int) (dir : ByteArray) : ∃ k, souffleurlaw14_ScoreOf.f k l now dir = some true := by
  refine Ev.rounds ?_
  unfold souffleurlaw14_ScoreOf.f
  refine Ev.bind (f := fun k bt156 => (if bt156.2 = true then ((score_Of.f k bt156.1 now dir).bind fun t161 => ((souffleurlaw14_alive.f k).bind fun t162 => (if t162 = true then ((souffleurref14_Of.f k l now dir).bind fun t163 => (if t161 = t163 then ((score_Last.f k bt156.1).bind fun t164 => ((souffleurref14_Last.f k l).bind fun t165 => (if t164 = t165 then ((score_Most.f (l.length : Int)).bind fun t166 => (some (decide (t161 ≤ t166)))) else (some false)))) else (some false))) else (some false)))) else ((souffleurlaw14_alive.f k).bind fun t160 => (some t160)))) (conv_ev l hl now) ?_
  cases hok : okOf l now with
  | false =>
    simp only [Bool.false_eq_true, if_false]
    exact Ev.bind alive_ev (Ev.now _)
  | true =>
    simp only [if_true]
    simp only [okOf, Bool.and_eq_true, decide_eq_true_eq, List.all_eq_true] at hok
    obtain ⟨⟨⟨h0, h1⟩, h2⟩, h3⟩ := hok
    have ht : ∀ u ∈ l, 0 ≤ u.f0 ∧ u.f0 ≤ 1099511627776 := fun u hu => by
      have := h3 u hu
      simpa [inT] using this
    have ht' : inTime (l.map conv) := fun u hu => by
      obtain ⟨v, hv, rfl⟩ := List.mem_map.1 hu
      exact ht v hv
    refine Ev.bind (of_ev now dir h0 h1 (l.map conv) (by simp; omega) ht') ?_
    refine Ev.bind alive_ev ?_
    simp only [if_true]
    have hr := refOf_from now dir h0 h1 l (by omega) ht l.length 0 0 (by omega) (by omega) (by omega)
    simp only [List.drop_zero, Int.zero_add] at hr
    refine Ev.bind (g := fun k => souffleurref14_Of.f k l now dir) hr ?_
    simp only [if_true]
    refine Ev.bind (g := fun k => score_Last.f k (l.map conv)) (last_from l (by omega) l.length 0 (-1) (by omega)) ?_
    refine Ev.bind (g := fun k => souffleurref14_Last.f k l) (refLast_from l (by omega) l.length 0 (-1) (by omega)) ?_
    simp only [if_true]
    obtain ⟨m, hm, hge⟩ := most_ge l.length h2
    rw [hm]
    refine Ev.congr (f := fun _ => some true) (fun k => ?_) (Ev.now _)
    have hb := (total_range now dir (l.map conv)).2
    rw [List.length_map] at hb
    simp only [Option.bind_some]
    have : mn (total now dir (l.map conv)) 1000 ≤ m := by
      refine Int.le_trans ?_ hge
      unfold mn
      repeat' split
      all_goals omega
    simp [this]

end Go.Proofs.Ytcojggiggehbiaa.Pure
