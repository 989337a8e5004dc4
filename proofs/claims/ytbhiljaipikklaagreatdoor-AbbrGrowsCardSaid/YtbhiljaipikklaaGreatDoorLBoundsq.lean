/- Parts of the proof of the law that the last file states; declarations that nothing mentions are left out by a program. No conditions. -/
import Derived.Test.YtbhiljaipikklaaGreatDoorLRunesq
import Derived.Test.YtbhiljaipikklaaGreatDoorLText2q
set_option linter.unusedVariables false
set_option linter.unusedSimpArgs false
namespace Go.Proofs.YtbhiljaipikklaaGreatDoorL
open Go Go.Lib
theorem backG_mem (at_ : Int) : ∀ (l : List Nat) (o : Nat), backG at_ l o = o ∨ backG at_ l o ∈ l
  | [], o => .inl rfl
  | x :: l, o => by
    show backG at_ l _ = o ∨ backG at_ l _ ∈ x :: l
    rcases backG_mem at_ l (if (x : Int) ≤ at_ then x else o) with h | h
    · rw [h]
      split
      · exact .inr List.mem_cons_self
      · exact .inl rfl
    · exact .inr (List.mem_cons_of_mem _ h)
theorem backG_ge (at_ : Int) : ∀ (l : List Nat) (o : Nat), l.Pairwise (· ≤ ·) → (∀ y ∈ l, o ≤ y) → o ≤ backG at_ l o ∧ ∀ x ∈ l, (x : Int) ≤ at_ → x ≤ backG at_ l o
  | [], o, _, _ => ⟨Nat.le_refl _, fun x hx => by cases hx⟩
  | y :: l, o, hp, ho => by
    obtain ⟨h1, h2⟩ := List.pairwise_cons.1 hp
    show o ≤ backG at_ l _ ∧ ∀ x ∈ y :: l, (x : Int) ≤ at_ → x ≤ backG at_ l _
    have hoy : o ≤ y := ho y List.mem_cons_self
    by_cases hy : (y : Int) ≤ at_
    · rw [if_pos hy]
      obtain ⟨a, b⟩ := backG_ge at_ l y h2 h1
      refine ⟨by omega, fun x hx hxa => ?_⟩
      rcases List.mem_cons.1 hx with rfl | hx
      · exact a
      · exact b x hx hxa
    · rw [if_neg hy]
      obtain ⟨a, b⟩ := backG_ge at_ l o h2 (fun z hz => Nat.le_trans hoy (h1 z hz))
      refine ⟨a, fun x hx hxa => ?_⟩
      rcases List.mem_cons.1 hx with rfl | hx
      · exact absurd hxa hy
      · exact b x hx hxa
theorem eachG_first (s : ByteArray) : ∀ (n f pos : Nat), s.size < pos + n → 0 < n → f < s.size → f ∈ atsL (eachG s n f pos)
  | 0, _, _, _, h, _ => by omega
  | n + 1, f, pos, hn, _, hf => by
    have hw := Lib.width_pos s pos
    unfold eachG
    by_cases hlt : pos < s.size
    · rw [if_pos hlt]
      split
      · exact eachG_first s n f _ (by omega) (by omega) hf
      · exact List.mem_cons_self
    · rw [if_neg hlt, if_pos hf]
      exact List.mem_cons_self
theorem eachF_first (s : ByteArray) (f pos : Nat) (hf : f < s.size) : f ∈ atsL (eachF s f pos) := eachG_first s _ f pos (by omega) (by omega) hf
theorem eachG_sorted (s : ByteArray) : ∀ (n f pos : Nat), f ≤ pos → (∀ x ∈ atsL (eachG s n f pos), f ≤ x) ∧ (atsL (eachG s n f pos)).Pairwise (· ≤ ·)
  | 0, _, _, _ => ⟨(fun x hx => by cases hx), List.Pairwise.nil⟩
  | n + 1, f, pos, hf => by
    unfold eachG
    by_cases hlt : pos < s.size
    · rw [if_pos hlt]
      split
      · exact eachG_sorted s n f _ (by omega)
      · obtain ⟨a, b⟩ := eachG_sorted s n pos (pos + (Utf8.decode s pos).2) (by omega)
        refine ⟨fun x hx => ?_, List.pairwise_cons.2 ⟨fun x hx => ?_, b⟩⟩
        · rcases List.mem_cons.1 hx with rfl | hx
          · exact Nat.le_refl _
          · exact Nat.le_trans hf (a x hx)
        · exact Nat.le_trans hf (a x hx)
    · rw [if_neg hlt]
      split
      · exact ⟨fun x hx => by rw [List.mem_singleton.1 hx]; exact Nat.le_refl _, List.pairwise_singleton _ _⟩
      · exact ⟨(fun x hx => by cases hx), List.Pairwise.nil⟩
theorem boundsL_sorted (s : ByteArray) : (boundsL s).Pairwise (· ≤ ·) := by
  unfold boundsL
  rw [List.pairwise_append]
  refine ⟨(eachG_sorted s _ 0 0 (Nat.le_refl _)).2, List.pairwise_singleton _ _, fun x hx y hy => ?_⟩
  rw [List.mem_singleton.1 hy]
  exact boundsL_le s x (List.mem_append_left _ hx)
theorem size_bound (s : ByteArray) : s.size ∈ boundsL s := List.mem_append_right _ (List.mem_singleton.2 rfl)
theorem zero_bound (s : ByteArray) : 0 ∈ boundsL s := by
  by_cases h : s.size = 0
  · have := size_bound s
    rwa [h] at this
  · exact List.mem_append_left _ (eachF_first s 0 0 (by omega))
theorem backL_mem (s : ByteArray) (at_ : Int) : backL s at_ ∈ boundsL s := by
  rcases backG_mem at_ (boundsL s) 0 with h | h
  · unfold backL
    rw [h]
    exact zero_bound s
  · exact h
theorem backL_ge (s : ByteArray) (at_ : Int) {x : Nat} (hx : x ∈ boundsL s) (h : (x : Int) ≤ at_) : x ≤ backL s at_ := (backG_ge at_ (boundsL s) 0 (boundsL_sorted s) (fun _ _ => Nat.zero_le _)).2 x hx h
theorem backL_at {s : ByteArray} {x : Nat} (hx : x ∈ boundsL s) : backL s (x : Int) = x := by
  have h1 := backL_ge s (x : Int) hx (Int.le_refl _)
  have h2 := backL_bd s (x : Int) (Int.natCast_nonneg x)
  omega
theorem backL_twice (s : ByteArray) (at_ : Int) : backL s (backL s at_ : Int) = backL s at_ := backL_at (backL_mem s at_)
def encS (rs : List Nat) : ByteArray := ⟨(enc rs).toArray⟩
theorem encS_size (rs : List Nat) : (encS rs).size = (enc rs).length := by
  show (enc rs).toArray.size = _
  simp
theorem encS_data (rs : List Nat) : (encS rs).data.toList = enc rs := by
  show (enc rs).toArray.toList = _
  simp
theorem encS_append (a b : List Nat) : encS (a ++ b) = encS a ++ encS b := by
  unfold encS
  rw [enc_append]
  ext1
  simp
theorem decode_at {rs pre suf : List Nat} {r : Nat} (hv : ∀ x ∈ rs, validR x) (e : rs = pre ++ r :: suf) : Utf8.decode (encS rs) (enc pre).length = (r, (encodeRune (r : Int)).length) := by
  subst e
  rw [← decodeL_drop, encS_data, enc_append, List.drop_left]
  exact (enc_decode r suf (hv r (by simp))).1
theorem enc_snoc_len (pre : List Nat) (r : Nat) : (enc (pre ++ [r])).length = (enc pre).length + (encodeRune (r : Int)).length := by
  rw [enc_append, List.length_append]
  unfold enc
  simp
theorem each_pieces {rs : List Nat} (hv : ∀ x ∈ rs, validR x) : ∀ (suf pre : List Nat) (f : Nat), rs = pre ++ suf → ∀ x ∈ atsL (eachF (encS rs) f (enc pre).length), x = f ∨ ∃ p q, rs = p ++ q ∧ x = (enc p).length
  | [], pre, f, e, x, hx => by
    rw [eachF_step, if_neg (by rw [encS_size, e, List.append_nil]; omega)] at hx
    split at hx
    · exact .inl (List.mem_singleton.1 hx)
    · cases hx
  | r :: suf, pre, f, e, x, hx => by
    have hp : 0 < (encodeRune (r : Int)).length := List.length_pos_iff.2 (enc_ne _)
    have hlt : (enc pre).length < (encS rs).size := by
      rw [encS_size, e, enc_append, List.length_append, enc_cons, List.length_append]
      omega
    have e2 : rs = (pre ++ [r]) ++ suf := by rw [e]; simp
    rw [eachF_step, if_pos hlt, decode_at hv e] at hx
    dsimp only at hx
    rw [← enc_snoc_len] at hx
    split at hx
    · exact each_pieces hv suf (pre ++ [r]) f e2 x hx
    · rcases List.mem_cons.1 hx with rfl | hx
      · exact .inl rfl
      · rcases each_pieces hv suf (pre ++ [r]) _ e2 x hx with rfl | h
        · exact .inr ⟨pre, r :: suf, e, rfl⟩
        · exact .inr h
theorem each_has {rs : List Nat} (hv : ∀ x ∈ rs, validR x) : ∀ (a pre : List Nat) (f r : Nat) (b : List Nat), rs = pre ++ (a ++ r :: b) → ofR (r : Int) ≠ 0 → (enc (pre ++ a)).length ≠ 0 → (enc (pre ++ a)).length ∈ atsL (eachF (encS rs) f (enc pre).length)
  | [], pre, f, r, b, e, hr, h0 => by
    rw [List.append_nil] at h0 ⊢
    have e1 : rs = pre ++ r :: b := e
    have hp : 0 < (encodeRune (r : Int)).length := List.length_pos_iff.2 (enc_ne _)
    have hlt : (enc pre).length < (encS rs).size := by
      rw [encS_size, e1, enc_append, List.length_append, enc_cons, List.length_append]
      omega
    rw [eachF_step, if_pos hlt, decode_at hv e1, if_neg (by simp only [not_or]; exact ⟨h0, hr⟩)]
    exact List.mem_cons_of_mem _ (eachF_first _ _ _ hlt)
  | y :: a, pre, f, r, b, e, hr, h0 => by
    have e1 : rs = pre ++ y :: (a ++ r :: b) := e
    have e2 : rs = (pre ++ [y]) ++ (a ++ r :: b) := by rw [e]; simp
    have e3 : pre ++ y :: a = (pre ++ [y]) ++ a := by simp
    have hp : 0 < (encodeRune (y : Int)).length := List.length_pos_iff.2 (enc_ne _)
    have hlt : (enc pre).length < (encS rs).size := by
      rw [encS_size, e1, enc_append, List.length_append, enc_cons, List.length_append]
      omega
    rw [e3] at h0 ⊢
    rw [eachF_step, if_pos hlt, decode_at hv e1]
    dsimp only
    rw [← enc_snoc_len]
    split
    · exact each_has hv a (pre ++ [y]) f r b e2 hr h0
    · exact List.mem_cons_of_mem _ (each_has hv a (pre ++ [y]) _ r b e2 hr h0)
theorem bound_pieces {rs : List Nat} (hv : ∀ x ∈ rs, validR x) {x : Nat} (hx : x ∈ boundsL (encS rs)) : ∃ p q, rs = p ++ q ∧ x = (enc p).length := by
  rcases List.mem_append.1 hx with h | h
  · rcases each_pieces hv rs [] 0 rfl x h with rfl | h
    · exact ⟨[], rs, rfl, rfl⟩
    · exact h
  · rw [List.mem_singleton.1 h, encS_size]
    exact ⟨rs, [], (List.append_nil _).symm, rfl⟩
theorem bound_has {p q : List Nat} (hv : ∀ x ∈ p ++ q, validR x) (h : ∀ r b, q = r :: b → ofR (r : Int) ≠ 0) : (enc p).length ∈ boundsL (encS (p ++ q)) := by
  cases q with
  | nil =>
    have := size_bound (encS (p ++ []))
    rw [encS_size] at this
    rw [List.append_nil] at this ⊢
    exact this
  | cons r b =>
    by_cases h0 : (enc p).length = 0
    · rw [h0]
      exact zero_bound _
    · exact List.mem_append_left _ (each_has hv p [] 0 r b rfl (h r b rfl) h0)
end Go.Proofs.YtbhiljaipikklaaGreatDoorL

