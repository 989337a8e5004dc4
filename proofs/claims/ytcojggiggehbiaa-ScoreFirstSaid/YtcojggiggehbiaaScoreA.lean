/- What alive tells, and how Of and Weight reckon, in plain words. No conditions. -/
import Derived.Test.YtcojggiggehbiaaPx4
namespace Go.Proofs.Ytcojggiggehbiaa.Pure
open Go.RowKit Go.Proofs.Ytcojggiggehbiaa.P Go.Proofs.YtcojggiggehbiaaW.PrintWords Go.Proofs.YtcojggiggehbiaaW.PrintLast

theorem alive_true : souffleurlaw14_alive.f 20 = some true := by
  decide +kernel
theorem alive_ev : Ev souffleurlaw14_alive.f true := Ev.of (fun k => souffleurlaw14_alive.mono k) alive_true

/-- The weight of an age. -/
def wt (a : Int) : Int := if a < 4 then 100 else if a < 16 then 70 else if a < 64 then 50 else if a < 256 then 30 else 10
theorem weight_wt (a : Int) : score_Weight.f a = some (wt a) := by
  unfold score_Weight.f wt
  repeat' split
  all_goals rfl
theorem refWeight_wt (a : Int) : souffleurref14_Weight.f a = some (wt a) := by
  unfold souffleurref14_Weight.f wt
  repeat' split
  all_goals rfl
theorem wt_range (a : Int) : 10 ≤ wt a ∧ wt a ≤ 100 := by
  unfold wt
  repeat' split
  all_goals omega
theorem wt_mono {a b : Int} (h : a ≤ b) : wt b ≤ wt a := by
  unfold wt
  repeat' split
  all_goals omega

/-- What a use counts. -/
def uw (now : Int) (dir : ByteArray) (t : Int) (d : ByteArray) : Int := wt (now - t) + if d.toList = dir.toList then 25 else 0
theorem uw_range (now : Int) (dir : ByteArray) (t : Int) (d : ByteArray) : 10 ≤ uw now dir t d ∧ uw now dir t d ≤ 125 := by
  unfold uw
  have := wt_range (now - t)
  split <;> omega

/-- What uses count from the i-th on. -/
def total (now : Int) (dir : ByteArray) : List S47 → Int
  | [] => 0
  | u :: l => uw now dir u.f0 u.f1 + total now dir l
theorem total_range (now : Int) (dir : ByteArray) (l : List S47) : 0 ≤ total now dir l ∧ total now dir l ≤ 125 * l.length := by
  induction l with
  | nil => simp [total]
  | cons u l ih =>
    have := uw_range now dir u.f0 u.f1
    simp only [total, List.length_cons]
    omega

def inTime (l : List S47) : Prop := ∀ u ∈ l, 0 ≤ u.f0 ∧ u.f0 ≤ 1099511627776

theorem wrap64_id {x : Int} (h : -9223372036854775808 ≤ x) (h' : x ≤ 9223372036854775807) : wrap64 x = x := by
  unfold wrap64
  omega

theorem rd47_at (l : List S47) (i : Nat) (h : i < l.length) : rd_T47 l (i : Int) = l[i] := by
  unfold rd_T47
  simp [List.getD, List.getElem?_eq_getElem h]

theorem of_from (now : Int) (dir : ByteArray) (hn : 0 ≤ now) (hn' : now ≤ 1099511627776) (l : List S47) (hl : l.length ≤ 1000) (ht : inTime l) (d : Nat) :
    ∀ (i : Nat) (n : Int), i + d = l.length → 0 ≤ n → n ≤ 125 * i → Ev (fun k => score_Of.l0 k now dir n l (l.length : Int) (i : Int)) (mn (n + total now dir (l.drop i)) 1000) := by
  induction d with
  | zero =>
    intro i n hi h0 h1
    refine ⟨1, fun k hk => ?_⟩
    obtain ⟨k, rfl⟩ : ∃ m, k = m + 1 := ⟨k - 1, by omega⟩
    simp only [score_Of.l0]
    rw [if_neg (by omega), List.drop_of_length_le (by omega)]
    simp [total]
  | succ d ih =>
    intro i n hi h0 h1
    have hlt : i < l.length := by omega
    have hu := uw_range now dir l[i].f0 l[i].f1
    have hti := ht l[i] (List.getElem_mem hlt)
    have hw := wt_range (now - l[i].f0)
    have hd : l.drop i = l[i] :: l.drop (i + 1) := List.drop_eq_getElem_cons hlt
    have ih' := ih (i + 1) (n + uw now dir l[i].f0 l[i].f1) (by omega) (by omega) (by omega)
    refine Ev.step (f := fun k => score_Of.l0 k now dir (n + uw now dir l[i].f0 l[i].f1) l (l.length : Int) ((i + 1 : Nat) : Int)) (fun k => ?_) ?_
    · simp only [score_Of.l0]
      rw [if_pos (by omega), if_pos (by omega), if_pos (by omega), rd47_at l i hlt, wrap64_id (x := now - l[i].f0) (by omega) (by omega), weight_wt]
      simp only [Option.bind_some]
      rw [wrap64_id (x := (i : Int) + 1) (by omega) (by omega), wrap64_id (x := n + wt (now - l[i].f0)) (by omega) (by omega)]
      by_cases hdir : l[i].f1.toList = dir.toList
      · rw [if_pos hdir, wrap64_id (by omega) (by omega)]
        simp [uw, hdir, Int.add_assoc]
      · rw [if_neg hdir]
        simp [uw, hdir]
    · rw [hd]
      simp only [total]
      rw [← Int.add_assoc]
      exact ih'

theorem of_ev (now : Int) (dir : ByteArray) (hn : 0 ≤ now) (hn' : now ≤ 1099511627776) (l : List S47) (hl : l.length ≤ 1000) (ht : inTime l) :
    Ev (fun k => score_Of.f k l now dir) (mn (total now dir l) 1000) := by
  have := of_from now dir hn hn' l hl ht l.length 0 0 (by omega) (by omega) (by omega)
  simpa [score_Of.f] using this

end Go.Proofs.Ytcojggiggehbiaa.Pure
