/- FileHoles, by the plain model. No conditions. -/
import Derived.Test.YtcpkoajnepijkaaOne
namespace Go.Proofs.Ytcpkoajnepijkaa
set_option linter.unusedVariables false
set_option linter.unusedSimpArgs false
open Go.RowKit Go.Proofs.YtcpkoajnepijkaaL

/-- The writes of rows of bytes, one behind the other. -/
def hrow (n at_ : Nat) : List (List Int) → List PP
  | [] => []
  | b :: r => ⟨n, at_, b⟩ :: hrow (n + 1) (at_ + b.length) r
theorem hrow_snoc (b : List Int) : ∀ (l : List (List Int)) (n at_ : Nat), hrow n at_ (l ++ [b]) = hrow n at_ l ++ [⟨n + l.length, at_ + l.flatten.length, b⟩]
  | [], n, at_ => by simp [hrow]
  | c :: l, n, at_ => by
    have ih := hrow_snoc b l (n + 1) (at_ + c.length)
    simp only [List.cons_append, hrow, ih, List.length_cons, List.flatten_cons, List.length_append]
    have e1 : n + 1 + l.length = n + (l.length + 1) := by omega
    have e2 : at_ + c.length + l.flatten.length = at_ + (c.length + l.flatten.length) := by omega
    rw [e1, e2]
theorem hrow_len : ∀ (l : List (List Int)) (n at_ : Nat), (hrow n at_ l).length = l.length
  | [], n, at_ => rfl
  | c :: l, n, at_ => by simp [hrow, hrow_len l]
theorem hrow_bytes : ∀ (l : List (List Int)) (n : Nat) (w : List Int), (hrow n w.length l).foldl overP w = w ++ l.flatten
  | [], n, w => by simp [hrow]
  | b :: l, n, w => by
    have e : overP w ⟨n, w.length, b⟩ = w ++ b := by unfold overP; exact laidL_end w b
    have ih := hrow_bytes l (n + 1) (w ++ b)
    rw [List.length_append] at ih
    simp only [hrow, List.foldl_cons, e, ih, List.flatten_cons, List.append_assoc]
/-- What a crash leaves of rows of bytes. -/
def hstep (keep : List Bool) (n at_ : Nat) (w b : List Int) : List Int := if keptAt keep n = true ∧ 0 < b.length then (w ++ List.replicate (at_ - w.length) 0) ++ b else w
def hwant (keep : List Bool) (n at_ : Nat) (w : List Int) : List (List Int) → List Int
  | [] => w
  | b :: r => hwant keep (n + 1) (at_ + b.length) (hstep keep n at_ w b) r
theorem hwant_snoc (keep : List Bool) (b : List Int) : ∀ (l : List (List Int)) (n at_ : Nat) (w : List Int), hwant keep n at_ w (l ++ [b]) = hstep keep (n + l.length) (at_ + l.flatten.length) (hwant keep n at_ w l) b
  | [], n, at_, w => by simp [hwant]
  | c :: l, n, at_, w => by
    have ih := hwant_snoc keep b l (n + 1) (at_ + c.length) (hstep keep n at_ w c)
    simp only [List.cons_append, hwant, ih, List.length_cons, List.flatten_cons, List.length_append]
    have e1 : n + 1 + l.length = n + (l.length + 1) := by omega
    have e2 : at_ + c.length + l.flatten.length = at_ + (c.length + l.flatten.length) := by omega
    rw [e1, e2]
theorem hstep_le {keep : List Bool} {n at_ : Nat} {w b : List Int} (h : w.length ≤ at_) : (hstep keep n at_ w b).length ≤ at_ + b.length := by
  unfold hstep
  split
  · simp only [List.length_append, List.length_replicate]; omega
  · omega
theorem hwant_le {keep : List Bool} : ∀ (l : List (List Int)) (n at_ : Nat) (w : List Int), w.length ≤ at_ → (hwant keep n at_ w l).length ≤ at_ + l.flatten.length
  | [], n, at_, w, h => by simpa [hwant] using h
  | b :: l, n, at_, w, h => by
    have := hwant_le (keep := keep) l (n + 1) (at_ + b.length) (hstep keep n at_ w b) (hstep_le h)
    simp only [hwant, List.flatten_cons, List.length_append]
    omega
theorem over_hole {w b : List Int} {n at_ : Nat} (h : w.length ≤ at_) (hb : 0 < b.length) : overP w ⟨n, at_, b⟩ = (w ++ List.replicate (at_ - w.length) 0) ++ b := by
  unfold overP laidL
  rw [if_neg (by simp only; omega)]
  simp only
  have e1 : at_ + b.length - w.length = (at_ - w.length) + b.length := by omega
  have hl : (w ++ List.replicate (at_ - w.length) (0 : Int)).length = at_ := by simp; omega
  rw [e1, ← List.replicate_append_replicate, ← List.append_assoc]
  unfold splice
  rw [List.take_append_of_le_length (by rw [hl]; exact Nat.le_refl _), List.take_of_length_le (by rw [hl]; exact Nat.le_refl _), List.drop_append, List.drop_of_length_le (by rw [hl]; omega), hl]
  simp
theorem over_none {w : List Int} {n at_ : Nat} : overP w ⟨n, at_, []⟩ = w := by simp [overP, laidL]
theorem hole_fold (keep : List Bool) (rk : Nat → Nat) : ∀ (l : List (List Int)) (n at_ : Nat) (w : List Int), w.length ≤ at_ → (∀ m, n ≤ m → m < n + l.length → rk m = m) →
    ((hrow n at_ l).filter fun p => keptAt keep (rk p.no)).foldl overP w = hwant keep n at_ w l
  | [], n, at_, w, h, hr => rfl
  | b :: l, n, at_, w, h, hr => by
    have e := hr n (Nat.le_refl _) (by simp)
    have ih := fun w' hw' => hole_fold keep rk l (n + 1) (at_ + b.length) w' hw' (fun m h1 h2 => hr m (by omega) (by simp only [List.length_cons]; omega))
    simp only [hrow, hwant]
    rw [List.filter_cons]
    simp only [e]
    by_cases hk : keptAt keep n = true
    · rw [if_pos hk, List.foldl_cons]
      by_cases hb : 0 < b.length
      · rw [over_hole h hb, ih _ (by simp only [List.length_append, List.length_replicate]; omega)]
        simp [hstep, hk, hb]
      · have : b = [] := List.eq_nil_of_length_eq_zero (by omega)
        subst this
        rw [over_none, ih w (by simp; omega)]
        simp [hstep]
    · rw [if_neg hk, ih w (by omega)]
      simp [hstep, hk]
theorem hrow_count : ∀ (l : List (List Int)) (n at_ m : Nat), n ≤ m → m ≤ n + l.length → ((hrow n at_ l).filter fun p => decide (p.no < m)).length = m - n
  | [], n, at_, m, h1, h2 => by simp [hrow]; simp at h2; omega
  | b :: l, n, at_, m, h1, h2 => by
    simp only [List.length_cons] at h2
    simp only [hrow]
    rw [List.filter_cons]
    by_cases h : n < m
    · simp only [h, decide_true, if_true]
      rw [List.length_cons, hrow_count l (n + 1) _ m (by omega) (by omega)]
      omega
    · have hz : ∀ (l : List (List Int)) (k at_ : Nat), m ≤ k → ((hrow k at_ l).filter fun p => decide (p.no < m)) = [] := by
        intro l
        induction l with
        | nil => intro k a _; rfl
        | cons c l ih =>
          intro k a hk
          simp only [hrow]
          rw [List.filter_cons]
          simp only [show ¬ k < m by omega, decide_false, if_false, Bool.false_eq_true]
          exact ih (k + 1) _ (by omega)
      simp only [h, decide_false, if_false, Bool.false_eq_true]
      rw [hz l (n + 1) _ (by omega)]
      simp
      omega

/-- What stands behind so many writes. -/
def HInv (l : List (List Int)) (k : Nat) (S : PS) : Prop := (k = 0 ∧ S = newP) ∨ (0 < k ∧ S = oneP [] (hrow 0 0 (l.take k)) k k (-1) (-1))
theorem hinv_step {l : List (List Int)} {k : Nat} {S : PS} (h : HInv l k S) (hk : k < l.length) (hl : l.flatten.length ≤ 3000) : (writeP S nA l[k]).1 = 0 ∧ HInv l (k + 1) (writeP S nA l[k]).2 := by
  have hsum : (l.take k).flatten.length + l[k].length ≤ l.flatten.length := by
    have e2 : l.flatten = (l.take (k + 1)).flatten ++ (l.drop (k + 1)).flatten := by rw [← List.flatten_append, List.take_append_drop]
    rw [List.take_succ_eq_append_getElem hk, List.flatten_append] at e2
    rw [e2]
    simp only [List.flatten_cons, List.flatten_nil, List.append_nil, List.length_append]
    omega
  rcases h with ⟨rfl, rfl⟩ | ⟨h0, rfl⟩
  · have := write_none 0 0 (-1) l[0] (by omega)
    simp [decP] at this
    have hw : writeP newP nA l[0] = ((0 : Int), oneP [] [⟨0, 0, l[0]⟩] 1 1 (-1) (-1)) := this
    rw [hw]
    refine ⟨rfl, .inr ⟨by omega, ?_⟩⟩
    rw [List.take_succ_eq_append_getElem hk]
    simp [hrow]
  · have hb : bytesP ⟨nA, [], hrow 0 0 (l.take k)⟩ = (l.take k).flatten := by
      have := hrow_bytes (l.take k) 0 []
      simpa [bytesP] using this
    have := write_one [] (hrow 0 0 (l.take k)) k k (-1) l[k] (by rw [hb]; omega)
    rw [this, hb]
    refine ⟨rfl, .inr ⟨by omega, ?_⟩⟩
    have hm : (l.take k).length = k := by rw [List.length_take]; omega
    have hs := hrow_snoc l[k] (l.take k) 0 0
    rw [← List.take_succ_eq_append_getElem hk, hm, Nat.zero_add, Nat.zero_add] at hs
    rw [hs]
    rfl
theorem hinv_end {l : List (List Int)} {S : PS} (h : HInv l l.length S) (keep : List Bool) : readP (crashP S keep) nA = (hwant keep 0 0 [] l, if 0 < l.length then 0 else 101) := by
  rcases h with ⟨h0, rfl⟩ | ⟨h0, rfl⟩
  · have : l = [] := List.eq_nil_of_length_eq_zero h0
    subst this
    rfl
  · rw [List.take_length, crash_one, read_one, bytesP_nil, if_pos h0]
    rw [hole_fold keep _ l 0 0 [] (by simp) (fun m h1 h2 => ?_)]
    simp only [rankP, oneP, List.map_cons, List.map_nil, List.sum_cons, List.sum_nil, Nat.add_zero]
    rw [hrow_count l 0 0 m (Nat.zero_le _) (by omega)]
    rfl

end Go.Proofs.Ytcpkoajnepijkaa
