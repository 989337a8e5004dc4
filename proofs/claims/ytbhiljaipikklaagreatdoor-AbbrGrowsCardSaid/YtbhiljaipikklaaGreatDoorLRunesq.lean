/- Parts of the proof of the law that the last file states; declarations that nothing mentions are left out by a program. No conditions. -/
import Derived.Lib.MapLaws
import Derived.Lib.DecodeN
import Derived.Lib.TrimAscii
import Derived.Test.YtbhiljaipikklaaGreatDoorLPlainq
set_option linter.unusedVariables false
set_option linter.unusedSimpArgs false
namespace Go.Proofs.YtbhiljaipikklaaGreatDoorL
open Go Go.Lib
def validR (r : Nat) : Prop := r < 55296 ∨ (57343 < r ∧ r ≤ 1114111)
theorem byte_nat (z : Int) (h0 : 0 ≤ z) (h1 : z < 256) : (z.toNat.toUInt8).toNat = z.toNat := by
  simp [Nat.toUInt8, UInt8.toNat_ofNat']
  omega
set_option maxHeartbeats 2000000 in
theorem decode_enc (r : Nat) (hr : validR r) (t : List UInt8) : decodeL (encodeRune (r : Int) ++ t) = (r, (encodeRune (r : Int)).length) := by
  unfold validR at hr
  unfold encodeRune
  by_cases h1 : r ≤ 127
  · rw [encodeRuneZ_one (by omega) (by omega)]
    have e : ((r : Int).toNat.toUInt8).toNat = r := by rw [byte_nat _ (by omega) (by omega)]; omega
    have := decodeL_ascii ((r : Int).toNat.toUInt8) t (by rw [e]; omega)
    rw [e] at this
    exact this
  by_cases h2 : r ≤ 2047
  · rw [encodeRuneZ_two (by omega) (by omega)]
    have e0 : ((192 + (r : Int) / 64).toNat.toUInt8).toNat = 192 + r / 64 := by rw [byte_nat _ (by omega) (by omega)]; omega
    have e1 : ((128 + (r : Int) % 64).toNat.toUInt8).toNat = 128 + r % 64 := by rw [byte_nat _ (by omega) (by omega)]; omega
    rw [decodeL_N]
    simp only [List.map_cons, List.map_nil, List.cons_append, List.nil_append, List.length_cons, List.length_nil, List.getD_cons_zero, List.getD_cons_succ, e0, e1]
    unfold decodeN
    rw [if_neg (by omega), if_pos (by omega), if_pos (by omega)]
    exact Prod.ext (by show _ = r; omega) rfl
  by_cases h3 : r ≤ 65535
  · rw [encodeRuneZ_three (by omega)]
    have e0 : ((224 + (r : Int) / 4096).toNat.toUInt8).toNat = 224 + r / 4096 := by rw [byte_nat _ (by omega) (by omega)]; omega
    have e1 : ((128 + (r : Int) / 64 % 64).toNat.toUInt8).toNat = 128 + r / 64 % 64 := by rw [byte_nat _ (by omega) (by omega)]; omega
    have e2 : ((128 + (r : Int) % 64).toNat.toUInt8).toNat = 128 + r % 64 := by rw [byte_nat _ (by omega) (by omega)]; omega
    rw [decodeL_N]
    simp only [List.map_cons, List.map_nil, List.cons_append, List.nil_append, List.length_cons, List.length_nil, List.getD_cons_zero, List.getD_cons_succ, e0, e1, e2]
    have hv : (224 + r / 4096) % 16 * 4096 + (128 + r / 64 % 64) % 64 * 64 + (128 + r % 64) % 64 = r := by omega
    unfold decodeN
    rw [hv, if_neg (by omega), if_neg (by omega), if_pos (by omega), if_pos (by omega)]
  · rw [encodeRuneZ_four (by omega) (by omega)]
    have e0 : ((240 + (r : Int) / 262144).toNat.toUInt8).toNat = 240 + r / 262144 := by rw [byte_nat _ (by omega) (by omega)]; omega
    have e1 : ((128 + (r : Int) / 4096 % 64).toNat.toUInt8).toNat = 128 + r / 4096 % 64 := by rw [byte_nat _ (by omega) (by omega)]; omega
    have e2 : ((128 + (r : Int) / 64 % 64).toNat.toUInt8).toNat = 128 + r / 64 % 64 := by rw [byte_nat _ (by omega) (by omega)]; omega
    have e3 : ((128 + (r : Int) % 64).toNat.toUInt8).toNat = 128 + r % 64 := by rw [byte_nat _ (by omega) (by omega)]; omega
    rw [decodeL_N]
    simp only [List.map_cons, List.map_nil, List.cons_append, List.nil_append, List.length_cons, List.length_nil, List.getD_cons_zero, List.getD_cons_succ, e0, e1, e2, e3]
    have hv : (240 + r / 262144) % 8 * 262144 + (128 + r / 4096 % 64) % 64 * 4096 + (128 + r / 64 % 64) % 64 * 64 + (128 + r % 64) % 64 = r := by omega
    unfold decodeN
    rw [hv, if_neg (by omega), if_neg (by omega), if_neg (by omega), if_pos (by omega), if_pos (by omega)]
theorem decode_valid (l : List UInt8) : validR (decodeL l).1 := by
  rw [decodeL_N]
  have k0 := (l.getD 0 0).toNat_lt
  have k1 := (l.getD 1 0).toNat_lt
  unfold decodeN validR
  repeat' split
  all_goals (dsimp only; omega)
theorem enc_ne (r : Int) : encodeRune r ≠ [] := by
  intro h
  have := (encodeRuneZ_length r).1
  have h2 : (encodeRune r).length = 0 := by rw [h]; rfl
  unfold encodeRune at h2
  rw [List.length_map] at h2
  omega
def enc (rs : List Nat) : List UInt8 := rs.flatMap fun (r : Nat) => encodeRune (r : Int)
theorem enc_cons (r : Nat) (rs : List Nat) : enc (r :: rs) = encodeRune (r : Int) ++ enc rs := rfl
theorem enc_append (a b : List Nat) : enc (a ++ b) = enc a ++ enc b := by unfold enc; rw [List.flatMap_append]
theorem enc_decode (r : Nat) (rs : List Nat) (hr : validR r) : decodeL (enc (r :: rs)) = (r, (encodeRune (r : Int)).length) ∧ (enc (r :: rs)).drop (decodeL (enc (r :: rs))).2 = enc rs := by
  have h := decode_enc r hr (enc rs)
  rw [enc_cons]
  refine ⟨h, ?_⟩
  rw [h]
  exact List.drop_left
theorem enc_cons_ne (r : Nat) (rs : List Nat) : enc (r :: rs) ≠ [] := by
  rw [enc_cons]
  intro h
  exact enc_ne _ (List.append_eq_nil_iff.1 h).1
theorem runesL_enc : ∀ (rs : List Nat), (∀ r ∈ rs, validR r) → runesL (enc rs) = rs
  | [], _ => rfl
  | r :: rs, h => by
    rw [runesL_step (enc_cons_ne r rs), (enc_decode r rs (h r List.mem_cons_self)).2, (enc_decode r rs (h r List.mem_cons_self)).1, runesL_enc rs (fun x hx => h x (List.mem_cons_of_mem _ hx))]
theorem runesL_valid : ∀ (n : Nat) (l : List UInt8), l.length ≤ n → ∀ r ∈ runesL l, validR r
  | 0, l, h, r, hr => by
    obtain rfl : l = [] := List.length_eq_zero_iff.1 (by omega)
    cases hr
  | n + 1, l, h, r, hr => by
    by_cases hne : l = []
    · subst hne; cases hr
    · rw [runesL_step hne] at hr
      rcases List.mem_cons.1 hr with rfl | hr
      · exact decode_valid l
      · have := decodeL_width l
        exact runesL_valid n _ (by rw [List.length_drop]; omega) r hr
def mapR (f : Int → Int) (rs : List Nat) : List UInt8 := rs.flatMap fun (r : Nat) => if 0 ≤ f (r : Int) then encodeRune (f (r : Int)) else []
theorem mapD_runes (f : Int → Int) : ∀ (n : Nat) (l : List UInt8), l.length ≤ n → mapD f l = mapR f (runesL l)
  | 0, l, h => by
    obtain rfl : l = [] := List.length_eq_zero_iff.1 (by omega)
    rfl
  | n + 1, l, h => by
    by_cases hne : l = []
    · subst hne; rfl
    · have := decodeL_width l
      rw [mapD_step f l hne, runesL_step hne, mapD_runes f n _ (by rw [List.length_drop]; omega)]
      rfl
theorem cleanL_enc (l : List UInt8) : cleanL l = enc (runesL l) := by
  unfold cleanL
  rw [mapD_runes _ _ l (Nat.le_refl _)]
  unfold mapR enc
  congr 1
def plainR (rs : List Nat) : List Nat := (rs.filter fun (r : Nat) => decide (0 ≤ plainF (r : Int))).map fun (r : Nat) => (plainF (r : Int)).toNat
theorem mapR_plain : ∀ rs : List Nat, mapR plainF rs = enc (plainR rs)
  | [] => rfl
  | r :: rs => by
    have ih := mapR_plain rs
    unfold mapR plainR enc at ih ⊢
    rw [List.flatMap_cons, ih, List.filter_cons]
    by_cases h : 0 ≤ plainF (r : Int)
    · simp only [h, decide_true, if_true, List.map_cons, List.flatMap_cons]
      congr 2
      omega
    · simp only [h, decide_false, if_false, List.nil_append]
      rfl
def goodR (r : Nat) : Prop := validR r ∧ plainF (r : Int) = (r : Int)
theorem plainR_good {rs : List Nat} (h : ∀ r ∈ rs, validR r) : ∀ r ∈ plainR rs, goodR r := by
  intro r hr
  unfold plainR at hr
  obtain ⟨x, hx, rfl⟩ := List.mem_map.1 hr
  rw [List.mem_filter] at hx
  obtain ⟨hx, h0⟩ := hx
  have hv := h x hx
  have h0 : 0 ≤ plainF (x : Int) := of_decide_eq_true h0
  unfold goodR
  unfold plainF at h0 ⊢
  split
  · exact ⟨.inl (by decide), by decide⟩
  · rename_i h9
    rw [if_neg h9] at h0
    split
    · rename_i hc
      rw [if_pos hc] at h0
      omega
    · rename_i hc
      refine ⟨by simpa using hv, ?_⟩
      have e : ((x : Int).toNat : Int) = (x : Int) := by omega
      rw [e, if_neg h9, if_neg hc]
theorem plainR_self {rs : List Nat} (h : ∀ r ∈ rs, goodR r) : plainR rs = rs := by
  unfold plainR
  rw [List.filter_eq_self.2 (fun (r : Nat) hr => by rw [(h r hr).2]; simp)]
  have e : rs.map (fun (r : Nat) => (plainF (r : Int)).toNat) = rs.map id := List.map_congr_left fun (r : Nat) hr => by rw [(h r hr).2]; simp
  rw [e, List.map_id]
theorem plainL_enc (l : List UInt8) : ∃ rs, (∀ r ∈ rs, goodR r) ∧ plainL l = enc rs := by
  have hv := runesL_valid _ l (Nat.le_refl _)
  refine ⟨plainR (runesL l), plainR_good hv, ?_⟩
  unfold plainL
  rw [mapD_runes _ _ _ (Nat.le_refl _), cleanL_enc, runesL_enc _ hv, mapR_plain]
theorem plainL_self {rs : List Nat} (h : ∀ r ∈ rs, goodR r) : plainL (enc rs) = enc rs := by
  have hv : ∀ r ∈ rs, validR r := fun r hr => (h r hr).1
  unfold plainL
  rw [mapD_runes _ _ _ (Nat.le_refl _), cleanL_enc, runesL_enc _ hv, runesL_enc _ hv, mapR_plain, plainR_self h]
end Go.Proofs.YtbhiljaipikklaaGreatDoorL

