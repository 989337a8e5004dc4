/- Parts of the proof of the law that the last file states; declarations that nothing mentions are left out by a program. No conditions. -/
import Derived.Test.YtbhiljaipikklaaGreatDoorRx2q
import Derived.Test.YtbhiljaipikklaaGreatDoorLRunesq
set_option linter.unusedVariables false
set_option linter.unusedSimpArgs false
namespace Go.Proofs.YtbhiljaipikklaaGreatDoorL
open Go Go.RowKit Go.Lib Go.Proofs.YtbhiljaipikklaaGreatDoorW.PrintWords Go.Proofs.YtbhiljaipikklaaGreatDoor.R
theorem rbytes_tells (k : Nat) (r : Int) (hk : 1 ≤ k) (h : -1000000000 ≤ r ∧ r ≤ 1000000000) : souffleurref01_Bytes.f k r = some (if r < 0 ∨ 1114111 < r ∨ (55296 ≤ r ∧ r ≤ 57343) then [] else encodeRuneZ r) := by
  obtain ⟨k, rfl⟩ : ∃ j, k = j + 1 := ⟨k - 1, by omega⟩
  have w : ∀ x : Int, -9223372036854775808 ≤ x → x ≤ 9223372036854775807 → wrap64 x = x := fun x a b => by unfold wrap64; omega
  have j1 : souffleurref01_Bytes.j0 (k + 1) r true = some [] := rfl
  unfold souffleurref01_Bytes.f
  by_cases h0 : r < 0
  · rw [if_pos h0, j1, if_pos (.inl h0)]
  by_cases h1 : r > 1114111
  · rw [if_neg h0, if_pos h1, j1, if_pos (.inr (.inl h1))]
  rw [if_neg h0, if_neg h1]
  by_cases h2 : 55296 ≤ r ∧ r ≤ 57343
  · rw [if_pos h2.1, decide_eq_true h2.2, j1, if_pos (.inr (.inr h2))]
  have hn : ¬ (r < 0 ∨ 1114111 < r ∨ (55296 ≤ r ∧ r ≤ 57343)) := by omega
  rw [if_neg hn]
  have t1 : Int.tdiv r 64 = r / 64 := Int.tdiv_eq_ediv_of_nonneg (by omega)
  have t2 : Int.tdiv r 4096 = r / 4096 := Int.tdiv_eq_ediv_of_nonneg (by omega)
  have t3 : Int.tdiv r 262144 = r / 262144 := Int.tdiv_eq_ediv_of_nonneg (by omega)
  have t4 : Int.tmod r 64 = r % 64 := Int.tmod_eq_emod_of_nonneg (by omega)
  have t5 : Int.tmod (r / 64) 64 = r / 64 % 64 := Int.tmod_eq_emod_of_nonneg (by omega)
  have t6 : Int.tmod (r / 4096) 64 = r / 4096 % 64 := Int.tmod_eq_emod_of_nonneg (by omega)
  have key : (if r < 128 then (some ([r % 256] : List Int)) else if r < 2048 then some [(192 + r / 64) % 256, (128 + r % 64) % 256] else if r < 65536 then some [(224 + r / 4096) % 256, (128 + r / 64 % 64) % 256, (128 + r % 64) % 256] else some [(240 + r / 262144) % 256, (128 + r / 4096 % 64) % 256, (128 + r / 64 % 64) % 256, (128 + r % 64) % 256]) = some (encodeRuneZ r) := by
    split
    · rw [encodeRuneZ_one (by omega) (by omega)]
      congr 2
      omega
    split
    · rw [encodeRuneZ_two (by omega) (by omega)]
      congr 2
      · omega
      · congr 1
        omega
    split
    · rw [encodeRuneZ_three (by omega)]
      congr 2
      · omega
      · congr 1
        · omega
        · congr 1
          omega
    · rw [encodeRuneZ_four (by omega) (by omega)]
      congr 2
      · omega
      · congr 1
        · omega
        · congr 1
          · omega
          · congr 1
            omega
  have fin : ∀ b : Bool, b = false → (if b = true then some ([] : List Int) else if r < 128 then (some (([(r) % 256] : List Int))) else (if r < 2048 then (some (([(wrap64 (192 + (wrap64 (Int.tdiv r 64)))) % 256, (wrap64 (128 + (Int.tmod r 64))) % 256] : List Int))) else (if r < 65536 then (some (([(wrap64 (224 + (wrap64 (Int.tdiv r 4096)))) % 256, (wrap64 (128 + (Int.tmod (wrap64 (Int.tdiv r 64)) 64))) % 256, (wrap64 (128 + (Int.tmod r 64))) % 256] : List Int))) else (some (([(wrap64 (240 + (wrap64 (Int.tdiv r 262144)))) % 256, (wrap64 (128 + (Int.tmod (wrap64 (Int.tdiv r 4096)) 64))) % 256, (wrap64 (128 + (Int.tmod (wrap64 (Int.tdiv r 64)) 64))) % 256, (wrap64 (128 + (Int.tmod r 64))) % 256] : List Int)))))) = some (encodeRuneZ r) := by
    intro b hb
    subst hb
    rw [if_neg (by decide), t1, t2, t3, t4, w (r / 64) (by omega) (by omega), w (r / 4096) (by omega) (by omega), w (r / 262144) (by omega) (by omega), t5, t6, w (192 + r / 64) (by omega) (by omega), w (128 + r % 64) (by omega) (by omega), w (224 + r / 4096) (by omega) (by omega), w (128 + r / 64 % 64) (by omega) (by omega), w (240 + r / 262144) (by omega) (by omega), w (128 + r / 4096 % 64) (by omega) (by omega)]
    exact key
  have j2 : souffleurref01_Bytes.j0 (k + 1) r false = some (encodeRuneZ r) := fin false rfl
  by_cases h3 : r ≥ 55296
  · rw [if_pos h3, decide_eq_false (show ¬ r ≤ 57343 by omega), j2]
  · rw [if_neg h3, j2]
def lowZ (l : List Int) (i : Nat) : Int := if i < l.length ∧ 128 ≤ l.getD i 0 ∧ l.getD i 0 ≤ 191 then l.getD i 0 - 128 else -1
theorem low_tells (l : List Int) (i : Nat) (hl : l.length ≤ 9223372036854775807) : souffleurref01_low.f l (i : Int) = some (lowZ l i) := by
  unfold souffleurref01_low.f lowZ rd
  rw [Int.toNat_natCast]
  by_cases h : i < l.length
  · rw [if_neg (by omega), if_pos (by omega), if_pos (by omega)]
    by_cases h1 : l.getD i 0 < 128
    · rw [if_pos h1, if_neg (by omega)]
    · rw [if_neg h1]
      by_cases h2 : l.getD i 0 > 191
      · rw [if_pos h2, if_neg (by omega)]
      · rw [if_neg h2, if_pos ⟨h, by omega, by omega⟩]
        congr 1
        unfold wrap64
        omega
  · rw [if_pos (by omega), if_neg (by omega)]
def bytesZ (r : Int) : List Int := if r < 0 ∨ 1114111 < r ∨ (55296 ≤ r ∧ r ≤ 57343) then [] else encodeRuneZ r
theorem bytesZ_len (r : Int) : (bytesZ r).length ≤ 4 := by
  unfold bytesZ
  split
  · exact Nat.zero_le _
  · exact (encodeRuneZ_length r).2
theorem begins_loop (l p : List Int) (hpl : p.length ≤ l.length) (hp : p.length ≤ 4) : ∀ (d j k : Nat), j + d = p.length → d < k → ∃ r, souffleurref01_begins.l0 k l p (j : Int) = some r ∧ (r = true ↔ ∀ i, j ≤ i → i < p.length → l.getD i 0 = p.getD i 0) := by
  intro d
  induction d with
  | zero =>
    intro j k hj hk
    obtain ⟨k, rfl⟩ : ∃ i, k = i + 1 := ⟨k - 1, by omega⟩
    unfold souffleurref01_begins.l0
    rw [if_neg (by omega)]
    exact ⟨true, rfl, fun _ i h1 h2 => by omega, fun _ => rfl⟩
  | succ d ih =>
    intro j k hj hk
    obtain ⟨k, rfl⟩ : ∃ i, k = i + 1 := ⟨k - 1, by omega⟩
    unfold souffleurref01_begins.l0 rd
    rw [if_pos (by omega), if_pos (by omega), if_pos (by omega), Int.toNat_natCast]
    by_cases h : l.getD j 0 = p.getD j 0
    · rw [if_pos h]
      have e : wrap64 ((j : Int) + 1) = ((j + 1 : Nat) : Int) := by unfold wrap64; omega
      rw [e]
      obtain ⟨r, h1, h2⟩ := ih (j + 1) k (by omega) (by omega)
      refine ⟨r, h1, h2.trans ⟨fun ha i hi hp => ?_, fun ha i hi hp => ha i (by omega) hp⟩⟩
      rcases Nat.lt_or_ge j i with h3 | h3
      · exact ha i h3 hp
      · obtain rfl : i = j := by omega
        exact h
    · rw [if_neg h]
      exact ⟨false, rfl, (fun h => by cases h), fun ha => absurd (ha j (Nat.le_refl _) (by omega)) h⟩
theorem begins_tells (l p : List Int) (hp : p.length ≤ 4) (k : Nat) (hk : 6 ≤ k) : ∃ r, souffleurref01_begins.f k l p = some r ∧ (r = true ↔ p.length ≠ 0 ∧ p.length ≤ l.length ∧ ∀ i, i < p.length → l.getD i 0 = p.getD i 0) := by
  obtain ⟨k, rfl⟩ : ∃ i, k = i + 1 := ⟨k - 1, by omega⟩
  have j1 : souffleurref01_begins.j0 (k + 1) l p true = some false := by unfold souffleurref01_begins.j0; rfl
  have j2 : souffleurref01_begins.j0 (k + 1) l p false = souffleurref01_begins.l0 k l p 0 := by unfold souffleurref01_begins.j0; rfl
  unfold souffleurref01_begins.f
  by_cases h0 : p.length = 0
  · rw [if_pos (by omega), j1]
    exact ⟨false, rfl, (fun h => by cases h), fun h => absurd h0 h.1⟩
  · rw [if_neg (by omega)]
    by_cases h1 : l.length < p.length
    · rw [decide_eq_true (by omega), j1]
      exact ⟨false, rfl, (fun h => by cases h), fun h => by have := h.2.1; omega⟩
    · rw [decide_eq_false (by omega), j2]
      obtain ⟨r, h2, h3⟩ := begins_loop l p (by omega) hp p.length 0 k (by omega) (by omega)
      exact ⟨r, h2, h3.trans ⟨fun h => ⟨h0, by omega, fun i hi => h i (Nat.zero_le _) hi⟩, fun h i _ hi => h.2.2 i hi⟩⟩
theorem bytesZ_two (r : Int) : (bytesZ r).length = 2 ↔ 128 ≤ r ∧ r ≤ 2047 := by
  unfold bytesZ
  split
  · constructor
    · intro h; cases h
    · intro h; omega
  · rename_i hb
    by_cases h1 : r ≤ 127
    · rw [encodeRuneZ_one (by omega) h1]
      constructor
      · intro h; cases h
      · intro h; omega
    by_cases h2 : r ≤ 2047
    · rw [encodeRuneZ_two (by omega) h2]
      exact ⟨fun _ => ⟨by omega, h2⟩, fun _ => rfl⟩
    by_cases h3 : r ≤ 65535
    · rw [encodeRuneZ_three (by omega)]
      constructor
      · intro h; cases h
      · intro h; omega
    · rw [encodeRuneZ_four (by omega) (by omega)]
      constructor
      · intro h; cases h
      · intro h; omega
theorem bytesZ_three (r : Int) : (bytesZ r).length = 3 ↔ 2048 ≤ r ∧ r ≤ 65535 ∧ ¬ (55296 ≤ r ∧ r ≤ 57343) := by
  unfold bytesZ
  split
  · constructor
    · intro h; cases h
    · intro h; omega
  · rename_i hb
    by_cases h1 : r ≤ 127
    · rw [encodeRuneZ_one (by omega) h1]
      constructor
      · intro h; cases h
      · intro h; omega
    by_cases h2 : r ≤ 2047
    · rw [encodeRuneZ_two (by omega) h2]
      constructor
      · intro h; cases h
      · intro h; omega
    by_cases h3 : r ≤ 65535
    · rw [encodeRuneZ_three (by omega)]
      exact ⟨fun _ => ⟨by omega, h3, by omega⟩, fun _ => rfl⟩
    · rw [encodeRuneZ_four (by omega) (by omega)]
      constructor
      · intro h; cases h
      · intro h; omega
theorem bytesZ_four (r : Int) : (bytesZ r).length = 4 ↔ 65536 ≤ r ∧ r ≤ 1114111 := by
  unfold bytesZ
  split
  · constructor
    · intro h; cases h
    · intro h; omega
  · rename_i hb
    by_cases h1 : r ≤ 127
    · rw [encodeRuneZ_one (by omega) h1]
      constructor
      · intro h; cases h
      · intro h; omega
    by_cases h2 : r ≤ 2047
    · rw [encodeRuneZ_two (by omega) h2]
      constructor
      · intro h; cases h
      · intro h; omega
    by_cases h3 : r ≤ 65535
    · rw [encodeRuneZ_three (by omega)]
      constructor
      · intro h; cases h
      · intro h; omega
    · rw [encodeRuneZ_four (by omega) (by omega)]
      exact ⟨fun _ => ⟨by omega, by omega⟩, fun _ => rfl⟩
def BegP (l p : List Int) : Prop := p.length ≠ 0 ∧ p.length ≤ l.length ∧ ∀ i, i < p.length → l.getD i 0 = p.getD i 0
theorem bytes_eq (k : Nat) (r : Int) (hk : 1 ≤ k) (h : -1000000000 ≤ r ∧ r ≤ 1000000000) : souffleurref01_Bytes.f k r = some (bytesZ r) := rbytes_tells k r hk h
theorem next_j1 (l : List Int) (hl : l.length ≤ 9223372036854775807) (k : Nat) (hk : 9 ≤ k) (x three four : Int) (h4 : -1000000000 ≤ four ∧ four ≤ 1000000000) :
    ((240 ≤ x ∧ x < 248 ∧ 0 ≤ lowZ l 3 ∧ BegP l (bytesZ four) ∧ (bytesZ four).length = 4) → souffleurref01_Next.j1 k l x three four false = some (four, 4)) ∧
    (¬ (240 ≤ x ∧ x < 248 ∧ 0 ≤ lowZ l 3 ∧ BegP l (bytesZ four) ∧ (bytesZ four).length = 4) → souffleurref01_Next.j1 k l x three four false = some (65533, 1)) := by
  obtain ⟨k, rfl⟩ : ∃ i, k = i + 1 := ⟨k - 1, by omega⟩
  obtain ⟨r, hb, hr⟩ := begins_tells l (bytesZ four) (bytesZ_len four) k (by omega)
  have hlow := low_tells l 3 hl
  have e : souffleurref01_Next.j1 (k + 1) l x three four false = (if x ≥ 240 then (if x < 248 then (if lowZ l 3 ≥ 0 then (if r = true then (if ((bytesZ four).length : Int) = 4 then (some (four, 4)) else (some (65533, 1))) else (some (65533, 1))) else (some (65533, 1))) else (some (65533, 1))) else (some (65533, 1))) := by
    have h3 : ((3 : Nat) : Int) = 3 := rfl
    rw [h3] at hlow
    unfold souffleurref01_Next.j1
    simp only [hlow, bytes_eq k four (by omega) h4, hb, Option.bind_some, Bool.false_eq_true, if_false]
  rw [e]
  constructor
  · rintro ⟨a1, a2, a3, a4, a5⟩
    rw [if_pos a1, if_pos a2, if_pos a3, if_pos (hr.2 a4), if_pos (by omega)]
  · intro h
    by_cases a1 : x ≥ 240
    · rw [if_pos a1]
      by_cases a2 : x < 248
      · rw [if_pos a2]
        by_cases a3 : lowZ l 3 ≥ 0
        · rw [if_pos a3]
          by_cases a4 : r = true
          · rw [if_pos a4]
            by_cases a5 : (bytesZ four).length = 4
            · exact absurd ⟨a1, a2, a3, hr.1 a4, a5⟩ h
            · rw [if_neg (by omega)]
          · rw [if_neg a4]
        · rw [if_neg a3]
      · rw [if_neg a2]
    · rw [if_neg a1]
theorem next_j0 (l : List Int) (hl : l.length ≤ 9223372036854775807) (k : Nat) (hk : 10 ≤ k) (x two three four : Int) (h3 : -1000000000 ≤ three ∧ three ≤ 1000000000) :
    ((224 ≤ x ∧ x < 240 ∧ 0 ≤ lowZ l 2 ∧ BegP l (bytesZ three) ∧ (bytesZ three).length = 3) → souffleurref01_Next.j0 k l x two three four false = some (three, 3)) ∧
    (¬ (224 ≤ x ∧ x < 240 ∧ 0 ≤ lowZ l 2 ∧ BegP l (bytesZ three) ∧ (bytesZ three).length = 3) → souffleurref01_Next.j0 k l x two three four false = souffleurref01_Next.j1 (k - 1) l x three four false) := by
  obtain ⟨k, rfl⟩ : ∃ i, k = i + 1 := ⟨k - 1, by omega⟩
  obtain ⟨r, hb, hr⟩ := begins_tells l (bytesZ three) (bytesZ_len three) k (by omega)
  have hlow := low_tells l 2 hl
  have jt : souffleurref01_Next.j1 k l x three four true = some (three, 3) := by
    obtain ⟨k, rfl⟩ : ∃ i, k = i + 1 := ⟨k - 1, by omega⟩
    unfold souffleurref01_Next.j1
    rfl
  have e : souffleurref01_Next.j0 (k + 1) l x two three four false = (if x ≥ 224 then (if x < 240 then (if lowZ l 2 ≥ 0 then (if r = true then souffleurref01_Next.j1 k l x three four (((bytesZ three).length : Int) == 3) else souffleurref01_Next.j1 k l x three four false) else souffleurref01_Next.j1 k l x three four false) else souffleurref01_Next.j1 k l x three four false) else souffleurref01_Next.j1 k l x three four false) := by
    have h2 : ((2 : Nat) : Int) = 2 := rfl
    rw [h2] at hlow
    unfold souffleurref01_Next.j0
    simp only [hlow, bytes_eq k three (by omega) h3, hb, Option.bind_some, Bool.false_eq_true, if_false]
  rw [e, Nat.add_sub_cancel]
  constructor
  · rintro ⟨a1, a2, a3, a4, a5⟩
    have e5 : (((bytesZ three).length : Int) == 3) = true := by rw [beq_iff_eq]; omega
    rw [if_pos a1, if_pos a2, if_pos a3, if_pos (hr.2 a4), e5, jt]
  · intro h
    by_cases a1 : x ≥ 224
    · rw [if_pos a1]
      by_cases a2 : x < 240
      · rw [if_pos a2]
        by_cases a3 : lowZ l 2 ≥ 0
        · rw [if_pos a3]
          by_cases a4 : r = true
          · rw [if_pos a4]
            by_cases a5 : (bytesZ three).length = 3
            · exact absurd ⟨a1, a2, a3, hr.1 a4, a5⟩ h
            · have e5 : (((bytesZ three).length : Int) == 3) = false := by rw [beq_eq_false_iff_ne]; omega
              rw [e5]
          · rw [if_neg a4]
        · rw [if_neg a3]
      · rw [if_neg a2]
    · rw [if_neg a1]
theorem beg_two (l : List Int) (r : Int) : (BegP l (bytesZ r) ∧ (bytesZ r).length = 2) ↔ (128 ≤ r ∧ r ≤ 2047 ∧ 2 ≤ l.length ∧ l.getD 0 0 = 192 + r / 64 ∧ l.getD 1 0 = 128 + r % 64) := by
  constructor
  · rintro ⟨⟨_, h1, h2⟩, h3⟩
    obtain ⟨a1, a2⟩ := (bytesZ_two r).1 h3
    have e : bytesZ r = [192 + r / 64, 128 + r % 64] := by
      unfold bytesZ
      rw [if_neg (by omega), encodeRuneZ_two a1 a2]
    rw [e] at h1 h2
    exact ⟨a1, a2, h1, h2 0 (by simp), h2 1 (by simp)⟩
  · rintro ⟨a1, a2, h1, h2, h3⟩
    have e : bytesZ r = [192 + r / 64, 128 + r % 64] := by
      unfold bytesZ
      rw [if_neg (by omega), encodeRuneZ_two a1 a2]
    rw [e]
    refine ⟨⟨by simp, h1, fun i hi => ?_⟩, rfl⟩
    match i, hi with
    | 0, _ => exact h2
    | 1, _ => exact h3
theorem beg_three (l : List Int) (r : Int) : (BegP l (bytesZ r) ∧ (bytesZ r).length = 3) ↔ (2048 ≤ r ∧ r ≤ 65535 ∧ ¬ (55296 ≤ r ∧ r ≤ 57343) ∧ 3 ≤ l.length ∧ l.getD 0 0 = 224 + r / 4096 ∧ l.getD 1 0 = 128 + r / 64 % 64 ∧ l.getD 2 0 = 128 + r % 64) := by
  constructor
  · rintro ⟨⟨_, h1, h2⟩, h3⟩
    obtain ⟨a1, a2, a3⟩ := (bytesZ_three r).1 h3
    have e : bytesZ r = [224 + r / 4096, 128 + r / 64 % 64, 128 + r % 64] := by
      unfold bytesZ
      rw [if_neg (by omega), encodeRuneZ_three (by omega)]
    rw [e] at h1 h2
    exact ⟨a1, a2, a3, h1, h2 0 (by simp), h2 1 (by simp), h2 2 (by simp)⟩
  · rintro ⟨a1, a2, a3, h1, h2, h3, h4⟩
    have e : bytesZ r = [224 + r / 4096, 128 + r / 64 % 64, 128 + r % 64] := by
      unfold bytesZ
      rw [if_neg (by omega), encodeRuneZ_three (by omega)]
    rw [e]
    refine ⟨⟨by simp, h1, fun i hi => ?_⟩, rfl⟩
    match i, hi with
    | 0, _ => exact h2
    | 1, _ => exact h3
    | 2, _ => exact h4
theorem beg_four (l : List Int) (r : Int) : (BegP l (bytesZ r) ∧ (bytesZ r).length = 4) ↔ (65536 ≤ r ∧ r ≤ 1114111 ∧ 4 ≤ l.length ∧ l.getD 0 0 = 240 + r / 262144 ∧ l.getD 1 0 = 128 + r / 4096 % 64 ∧ l.getD 2 0 = 128 + r / 64 % 64 ∧ l.getD 3 0 = 128 + r % 64) := by
  constructor
  · rintro ⟨⟨_, h1, h2⟩, h3⟩
    obtain ⟨a1, a2⟩ := (bytesZ_four r).1 h3
    have e : bytesZ r = [240 + r / 262144, 128 + r / 4096 % 64, 128 + r / 64 % 64, 128 + r % 64] := by
      unfold bytesZ
      rw [if_neg (by omega), encodeRuneZ_four (by omega) (by omega)]
    rw [e] at h1 h2
    exact ⟨a1, a2, h1, h2 0 (by simp), h2 1 (by simp), h2 2 (by simp), h2 3 (by simp)⟩
  · rintro ⟨a1, a2, h1, h2, h3, h4, h5⟩
    have e : bytesZ r = [240 + r / 262144, 128 + r / 4096 % 64, 128 + r / 64 % 64, 128 + r % 64] := by
      unfold bytesZ
      rw [if_neg (by omega), encodeRuneZ_four (by omega) (by omega)]
    rw [e]
    refine ⟨⟨by simp, h1, fun i hi => ?_⟩, rfl⟩
    match i, hi with
    | 0, _ => exact h2
    | 1, _ => exact h3
    | 2, _ => exact h4
    | 3, _ => exact h5
theorem lowZ_cases (l : List Int) (i : Nat) : (i < l.length ∧ 128 ≤ l.getD i 0 ∧ l.getD i 0 ≤ 191 ∧ lowZ l i = l.getD i 0 - 128) ∨ (¬ (i < l.length ∧ 128 ≤ l.getD i 0 ∧ l.getD i 0 ≤ 191) ∧ lowZ l i = -1) := by
  unfold lowZ
  split
  · rename_i h
    exact .inl ⟨h.1, h.2.1, h.2.2, rfl⟩
  · rename_i h
    exact .inr ⟨h, rfl⟩
theorem next_f (l : List Int) (hl : l.length ≤ 9223372036854775807) (hp : 0 < l.length) (k : Nat) (hk : 12 ≤ k) (h0 : 128 ≤ l.getD 0 0) (h1 : l.getD 0 0 < 256) (two three four : Int)
    (e2 : two = 64 * (l.getD 0 0 - 192) + lowZ l 1) (e3 : three = 4096 * (l.getD 0 0 - 224) + 64 * lowZ l 1 + lowZ l 2) (e4 : four = 262144 * (l.getD 0 0 - 240) + 4096 * lowZ l 1 + 64 * lowZ l 2 + lowZ l 3) :
    ((192 ≤ l.getD 0 0 ∧ l.getD 0 0 < 224 ∧ BegP l (bytesZ two) ∧ (bytesZ two).length = 2) → souffleurref01_Next.f k l = some (two, 2)) ∧
    (¬ (192 ≤ l.getD 0 0 ∧ l.getD 0 0 < 224 ∧ BegP l (bytesZ two) ∧ (bytesZ two).length = 2) → souffleurref01_Next.f k l = souffleurref01_Next.j0 k l (l.getD 0 0) two three four false) := by
  have b1 : -1 ≤ lowZ l 1 ∧ lowZ l 1 ≤ 63 := by rcases lowZ_cases l 1 with h | h <;> omega
  have b2 : -1 ≤ lowZ l 2 ∧ lowZ l 2 ≤ 63 := by rcases lowZ_cases l 2 with h | h <;> omega
  have b3 : -1 ≤ lowZ l 3 ∧ lowZ l 3 ≤ 63 := by rcases lowZ_cases l 3 with h | h <;> omega
  have w : ∀ x : Int, -9223372036854775808 ≤ x → x ≤ 9223372036854775807 → wrap64 x = x := fun x a b => by unfold wrap64; omega
  obtain ⟨r, hb, hr⟩ := begins_tells l (bytesZ two) (bytesZ_len two) k (by omega)
  have l1 := low_tells l 1 hl
  have l2 := low_tells l 2 hl
  have l3 := low_tells l 3 hl
  rw [show ((1 : Nat) : Int) = 1 from rfl] at l1
  rw [show ((2 : Nat) : Int) = 2 from rfl] at l2
  rw [show ((3 : Nat) : Int) = 3 from rfl] at l3
  have rd0 : rd l 0 = l.getD 0 0 := rfl
  have jt : souffleurref01_Next.j0 k l (l.getD 0 0) two three four true = some (two, 2) := by
    obtain ⟨k, rfl⟩ : ∃ i, k = i + 1 := ⟨k - 1, by omega⟩
    unfold souffleurref01_Next.j0
    rfl
  have e : souffleurref01_Next.f k l = (if l.getD 0 0 ≥ 192 then (if l.getD 0 0 < 224 then (if r = true then souffleurref01_Next.j0 k l (l.getD 0 0) two three four (((bytesZ two).length : Int) == 2) else souffleurref01_Next.j0 k l (l.getD 0 0) two three four false) else souffleurref01_Next.j0 k l (l.getD 0 0) two three four false) else souffleurref01_Next.j0 k l (l.getD 0 0) two three four false) := by
    unfold souffleurref01_Next.f
    rw [if_neg (by omega), if_pos (by omega)]
    simp only [rd0, l1, l2, l3, Option.bind_some]
    rw [w (l.getD 0 0) (by omega) (by omega), if_neg (by omega)]
    rw [w (l.getD 0 0 - 192) (by omega) (by omega), w (64 * (l.getD 0 0 - 192)) (by omega) (by omega), w (64 * (l.getD 0 0 - 192) + lowZ l 1) (by omega) (by omega), ← e2]
    rw [w (l.getD 0 0 - 224) (by omega) (by omega), w (4096 * (l.getD 0 0 - 224)) (by omega) (by omega), w (64 * lowZ l 1) (by omega) (by omega), w (4096 * (l.getD 0 0 - 224) + 64 * lowZ l 1) (by omega) (by omega), w (4096 * (l.getD 0 0 - 224) + 64 * lowZ l 1 + lowZ l 2) (by omega) (by omega), ← e3]
    rw [w (l.getD 0 0 - 240) (by omega) (by omega), w (262144 * (l.getD 0 0 - 240)) (by omega) (by omega), w (4096 * lowZ l 1) (by omega) (by omega), w (262144 * (l.getD 0 0 - 240) + 4096 * lowZ l 1) (by omega) (by omega), w (64 * lowZ l 2) (by omega) (by omega), w (262144 * (l.getD 0 0 - 240) + 4096 * lowZ l 1 + 64 * lowZ l 2) (by omega) (by omega), w (262144 * (l.getD 0 0 - 240) + 4096 * lowZ l 1 + 64 * lowZ l 2 + lowZ l 3) (by omega) (by omega), ← e4]
    simp only [bytes_eq k two (by omega) (by omega), hb, Option.bind_some]
  rw [e]
  constructor
  · rintro ⟨a1, a2, a4, a5⟩
    have e5 : (((bytesZ two).length : Int) == 2) = true := by rw [beq_iff_eq]; omega
    rw [if_pos a1, if_pos a2, if_pos (hr.2 a4), e5, jt]
  · intro h
    by_cases a1 : l.getD 0 0 ≥ 192
    · rw [if_pos a1]
      by_cases a2 : l.getD 0 0 < 224
      · rw [if_pos a2]
        by_cases a4 : r = true
        · rw [if_pos a4]
          by_cases a5 : (bytesZ two).length = 2
          · exact absurd ⟨a1, a2, hr.1 a4, a5⟩ h
          · have e5 : (((bytesZ two).length : Int) == 2) = false := by rw [beq_eq_false_iff_ne]; omega
            rw [e5]
        · rw [if_neg a4]
      · rw [if_neg a2]
    · rw [if_neg a1]
abbrev LowC (n i b : Nat) (p : Int) : Prop := (i < n ∧ 128 ≤ (b : Int) ∧ (b : Int) ≤ 191 ∧ p = (b : Int) - 128) ∨ (¬ (i < n ∧ 128 ≤ (b : Int) ∧ (b : Int) ≤ 191) ∧ p = -1)
theorem ar2 (a b n : Nat) (p1 : Int) (ha : a < 256) (hb : b < 256) (c1 : LowC n 1 b p1) :
    (192 ≤ (a : Int) ∧ (a : Int) < 224 ∧ 128 ≤ 64 * ((a : Int) - 192) + p1 ∧ 64 * ((a : Int) - 192) + p1 ≤ 2047 ∧ 2 ≤ n ∧ (a : Int) = 192 + (64 * ((a : Int) - 192) + p1) / 64 ∧ (b : Int) = 128 + (64 * ((a : Int) - 192) + p1) % 64) ↔ (a / 32 = 6 ∧ (1 < n ∧ b / 64 = 2) ∧ a % 32 * 64 + b % 64 ≥ 128 ∧ 64 * ((a : Int) - 192) + p1 = ((a % 32 * 64 + b % 64 : Nat) : Int)) := by
  rcases c1 with ⟨h1, h2, h3, rfl⟩ | ⟨h1, rfl⟩
  · constructor
    · rintro ⟨k1, k2, k3, k4, k5, k6, k7⟩
      exact ⟨by omega, ⟨by omega, by omega⟩, by omega, by omega⟩
    · rintro ⟨k1, k2, k3, k4⟩
      exact ⟨by omega, by omega, by omega, by omega, by omega, by omega, by omega⟩
  · constructor
    · rintro ⟨k1, k2, k3, k4, k5, k6, k7⟩
      exfalso
      omega
    · rintro ⟨k1, ⟨k2, k3⟩, k4⟩
      exfalso
      exact h1 ⟨by omega, by omega, by omega⟩
theorem ar3 (a b c n : Nat) (p1 p2 : Int) (ha : a < 256) (hb : b < 256) (hc : c < 256) (c1 : LowC n 1 b p1) (c2 : LowC n 2 c p2) :
    (224 ≤ (a : Int) ∧ (a : Int) < 240 ∧ 0 ≤ p2 ∧ 2048 ≤ 4096 * ((a : Int) - 224) + 64 * p1 + p2 ∧ 4096 * ((a : Int) - 224) + 64 * p1 + p2 ≤ 65535 ∧ ¬ (55296 ≤ 4096 * ((a : Int) - 224) + 64 * p1 + p2 ∧ 4096 * ((a : Int) - 224) + 64 * p1 + p2 ≤ 57343) ∧ 3 ≤ n ∧ (a : Int) = 224 + (4096 * ((a : Int) - 224) + 64 * p1 + p2) / 4096 ∧ (b : Int) = 128 + (4096 * ((a : Int) - 224) + 64 * p1 + p2) / 64 % 64 ∧ (c : Int) = 128 + (4096 * ((a : Int) - 224) + 64 * p1 + p2) % 64) ↔
    (a / 16 = 14 ∧ ((1 < n ∧ b / 64 = 2) ∧ (2 < n ∧ c / 64 = 2)) ∧ (a % 16 * 4096 + b % 64 * 64 + c % 64 ≥ 2048 ∧ (a % 16 * 4096 + b % 64 * 64 + c % 64 < 55296 ∨ (57344 ≤ a % 16 * 4096 + b % 64 * 64 + c % 64 ∧ a % 16 * 4096 + b % 64 * 64 + c % 64 ≤ 1114111))) ∧ 4096 * ((a : Int) - 224) + 64 * p1 + p2 = ((a % 16 * 4096 + b % 64 * 64 + c % 64 : Nat) : Int)) := by
  rcases c2 with ⟨h1, h2, h3, rfl⟩ | ⟨h1, rfl⟩
  · rcases c1 with ⟨g1, g2, g3, rfl⟩ | ⟨g1, rfl⟩
    · have e : 4096 * ((a : Int) - 224) + 64 * ((b : Int) - 128) + ((c : Int) - 128) = 4096 * ((a : Int) - 224) + 64 * ((b : Int) - 128) + ((c : Int) - 128) := rfl
      constructor
      · rintro ⟨k1, k2, k3, k4, k5, k6, k7, k8, k9, k10⟩
        have a1 : a % 16 = a - 224 := by omega
        have b1 : b % 64 = b - 128 := by omega
        have c1 : c % 64 = c - 128 := by omega
        clear k8 k9 k10
        refine ⟨by omega, ⟨⟨by omega, by omega⟩, by omega, by omega⟩, ?_, ?_⟩
        · rw [a1, b1, c1]
          omega
        · rw [a1, b1, c1]
          omega
      · rintro ⟨k1, k2, k3, k4⟩
        have a1 : a % 16 = a - 224 := by omega
        have b1 : b % 64 = b - 128 := by omega
        have c1 : c % 64 = c - 128 := by omega
        rw [a1, b1, c1] at k3 k4
        clear a1 b1 c1
        exact ⟨by omega, by omega, by omega, by omega, by omega, by omega, by omega, by omega, by omega, by omega⟩
    · constructor
      · rintro ⟨k1, k2, k3, k4, k5, k6, k7, k8, k9, k10⟩
        exfalso
        clear k9 k10 k6 k5 k4 g1
        omega
      · rintro ⟨k1, ⟨⟨k2, k3⟩, _⟩, k4⟩
        exfalso
        exact g1 ⟨by omega, by omega, by omega⟩
  · constructor
    · rintro ⟨k1, k2, k3, _⟩
      exfalso
      omega
    · rintro ⟨k1, ⟨_, k2, k3⟩, k4⟩
      exfalso
      exact h1 ⟨by omega, by omega, by omega⟩
theorem ar4 (a b c d n : Nat) (p1 p2 p3 : Int) (ha : a < 256) (hb : b < 256) (hc : c < 256) (hd : d < 256) (c1 : LowC n 1 b p1) (c2 : LowC n 2 c p2) (c3 : LowC n 3 d p3) :
    (240 ≤ (a : Int) ∧ (a : Int) < 248 ∧ 0 ≤ p3 ∧ 65536 ≤ 262144 * ((a : Int) - 240) + 4096 * p1 + 64 * p2 + p3 ∧ 262144 * ((a : Int) - 240) + 4096 * p1 + 64 * p2 + p3 ≤ 1114111 ∧ 4 ≤ n ∧ (a : Int) = 240 + (262144 * ((a : Int) - 240) + 4096 * p1 + 64 * p2 + p3) / 262144 ∧ (b : Int) = 128 + (262144 * ((a : Int) - 240) + 4096 * p1 + 64 * p2 + p3) / 4096 % 64 ∧ (c : Int) = 128 + (262144 * ((a : Int) - 240) + 4096 * p1 + 64 * p2 + p3) / 64 % 64 ∧ (d : Int) = 128 + (262144 * ((a : Int) - 240) + 4096 * p1 + 64 * p2 + p3) % 64) ↔
    (a / 8 = 30 ∧ ((1 < n ∧ b / 64 = 2) ∧ (2 < n ∧ c / 64 = 2) ∧ (3 < n ∧ d / 64 = 2)) ∧ (a % 8 * 262144 + b % 64 * 4096 + c % 64 * 64 + d % 64 ≥ 65536 ∧ (a % 8 * 262144 + b % 64 * 4096 + c % 64 * 64 + d % 64 < 55296 ∨ (57344 ≤ a % 8 * 262144 + b % 64 * 4096 + c % 64 * 64 + d % 64 ∧ a % 8 * 262144 + b % 64 * 4096 + c % 64 * 64 + d % 64 ≤ 1114111))) ∧ 262144 * ((a : Int) - 240) + 4096 * p1 + 64 * p2 + p3 = ((a % 8 * 262144 + b % 64 * 4096 + c % 64 * 64 + d % 64 : Nat) : Int)) := by
  rcases c3 with ⟨h1, h2, h3, rfl⟩ | ⟨h1, rfl⟩
  · rcases c2 with ⟨f1, f2, f3, rfl⟩ | ⟨f1, rfl⟩
    · rcases c1 with ⟨g1, g2, g3, rfl⟩ | ⟨g1, rfl⟩
      · constructor
        · rintro ⟨k1, k2, k3, k4, k5, k6, k7, k8, k9, k10⟩
          have a1 : a % 8 = a - 240 := by omega
          have b1 : b % 64 = b - 128 := by omega
          have c1 : c % 64 = c - 128 := by omega
          have d1 : d % 64 = d - 128 := by omega
          clear k7 k8 k9 k10
          refine ⟨by omega, ⟨⟨by omega, by omega⟩, ⟨by omega, by omega⟩, by omega, by omega⟩, ?_, ?_⟩
          · rw [a1, b1, c1, d1]
            omega
          · rw [a1, b1, c1, d1]
            omega
        · rintro ⟨k1, k2, k3, k4⟩
          have a1 : a % 8 = a - 240 := by omega
          have b1 : b % 64 = b - 128 := by omega
          have c1 : c % 64 = c - 128 := by omega
          have d1 : d % 64 = d - 128 := by omega
          rw [a1, b1, c1, d1] at k3 k4
          clear a1 b1 c1 d1
          exact ⟨by omega, by omega, by omega, by omega, by omega, by omega, by omega, by omega, by omega, by omega⟩
      · constructor
        · rintro ⟨k1, k2, k3, k4, k5, k6, k7, k8, k9, k10⟩
          exfalso
          clear k9 k10 k8 k5 k4 g1
          omega
        · rintro ⟨k1, ⟨⟨k2, k3⟩, _⟩, k4⟩
          exfalso
          exact g1 ⟨by omega, by omega, by omega⟩
    · constructor
      · rintro ⟨k1, k2, k3, k4, k5, k6, k7, k8, k9, k10⟩
        exfalso
        have hp1 : p1 = (b : Int) - 128 ∨ p1 = -1 := by rcases c1 with ⟨_, _, _, h⟩ | ⟨_, h⟩ <;> simp [h]
        clear k10 k9 k5 k4 f1 c1
        rcases hp1 with rfl | rfl <;> omega
      · rintro ⟨k1, ⟨_, ⟨k2, k3⟩, _⟩, k4⟩
        exfalso
        exact f1 ⟨by omega, by omega, by omega⟩
  · constructor
    · rintro ⟨k1, k2, k3, _⟩
      exfalso
      omega
    · rintro ⟨k1, ⟨_, _, k2, k3⟩, k4⟩
      exfalso
      exact h1 ⟨by omega, by omega, by omega⟩
set_option maxHeartbeats 2000000 in
theorem next_tells (l : List Int) (hl : l.length ≤ 9223372036854775807) (hp : 0 < l.length) (hb : ∀ i, 0 ≤ l.getD i 0 ∧ l.getD i 0 < 256) (k : Nat) (hk : 12 ≤ k) :
    souffleurref01_Next.f k l = some (((decodeN l.length (l.getD 0 0).toNat (l.getD 1 0).toNat (l.getD 2 0).toNat (l.getD 3 0).toNat).1 : Int), ((decodeN l.length (l.getD 0 0).toNat (l.getD 1 0).toNat (l.getD 2 0).toNat (l.getD 3 0).toNat).2 : Int)) := by
  by_cases h0 : l.getD 0 0 < 128
  · have e : souffleurref01_Next.f k l = some (l.getD 0 0, 1) := by
      have rd0 : rd l 0 = l.getD 0 0 := rfl
      have w : wrap64 (l.getD 0 0) = l.getD 0 0 := by have := hb 0; unfold wrap64; omega
      unfold souffleurref01_Next.f
      rw [if_neg (by omega), if_pos (by omega), rd0, w, if_pos h0]
    rw [e]
    unfold decodeN
    have := hb 0
    rw [if_pos (by omega)]
    dsimp only
    rw [Int.toNat_of_nonneg this.1]
    rfl
  · obtain ⟨n2a, n2b⟩ := next_f l hl hp k hk (by omega) (hb 0).2 _ _ _ rfl rfl rfl
    have c1 := lowZ_cases l 1
    have c2 := lowZ_cases l 2
    have c3 := lowZ_cases l 3
    generalize lowZ l 1 = p1 at *
    obtain ⟨n3a, n3b⟩ := next_j0 l hl k (by omega) (l.getD 0 0) (64 * (l.getD 0 0 - 192) + p1) (4096 * (l.getD 0 0 - 224) + 64 * p1 + lowZ l 2) (262144 * (l.getD 0 0 - 240) + 4096 * p1 + 64 * lowZ l 2 + lowZ l 3) (by have := hb 0; omega)
    obtain ⟨n4a, n4b⟩ := next_j1 l hl (k - 1) (by omega) (l.getD 0 0) (4096 * (l.getD 0 0 - 224) + 64 * p1 + lowZ l 2) (262144 * (l.getD 0 0 - 240) + 4096 * p1 + 64 * lowZ l 2 + lowZ l 3) (by have := hb 0; omega)
    generalize lowZ l 2 = p2 at *
    generalize lowZ l 3 = p3 at *
    rw [beg_two] at n2a n2b
    rw [beg_three] at n3a n3b
    rw [beg_four] at n4a n4b
    have d0 := hb 0
    have d1 := hb 1
    have d2 := hb 2
    have d3 := hb 3
    clear hb
    obtain ⟨a, ha⟩ := Int.eq_ofNat_of_zero_le d0.1
    obtain ⟨b, hb'⟩ := Int.eq_ofNat_of_zero_le d1.1
    obtain ⟨c, hc⟩ := Int.eq_ofNat_of_zero_le d2.1
    obtain ⟨d, hd⟩ := Int.eq_ofNat_of_zero_le d3.1
    rw [ha] at n2a n2b n3a n3b n4a n4b h0 d0 ⊢
    rw [hb'] at n2a n2b n3a n3b n4a n4b c1 d1 ⊢
    rw [hc] at n3a n3b n4a n4b c2 d2 ⊢
    rw [hd] at n4a n4b c3 d3 ⊢
    simp only [Int.toNat_natCast]
    clear ha hb' hc hd
    generalize hn : l.length = n at *
    rw [ar2 a b n p1 (by omega) (by omega) c1] at n2a n2b
    rw [ar3 a b c n p1 p2 (by omega) (by omega) (by omega) c1 c2] at n3a n3b
    rw [ar4 a b c d n p1 p2 p3 (by omega) (by omega) (by omega) (by omega) c1 c2 c3] at n4a n4b
    have r2 : (a / 32 = 6 ∧ (1 < n ∧ b / 64 = 2)) → 64 * ((a : Int) - 192) + p1 = ((a % 32 * 64 + b % 64 : Nat) : Int) := by
      rintro ⟨k1, k2, k3⟩
      rcases c1 with ⟨_, _, _, h⟩ | ⟨h, _⟩
      · omega
      · exact absurd ⟨k2, by omega, by omega⟩ h
    have r3 : (a / 16 = 14 ∧ (1 < n ∧ b / 64 = 2) ∧ (2 < n ∧ c / 64 = 2)) → 4096 * ((a : Int) - 224) + 64 * p1 + p2 = ((a % 16 * 4096 + b % 64 * 64 + c % 64 : Nat) : Int) := by
      rintro ⟨k1, ⟨k2, k3⟩, k4, k5⟩
      rcases c1 with ⟨_, _, _, h⟩ | ⟨h, _⟩
      · rcases c2 with ⟨_, _, _, h'⟩ | ⟨h', _⟩
        · omega
        · exact absurd ⟨k4, by omega, by omega⟩ h'
      · exact absurd ⟨k2, by omega, by omega⟩ h
    have r4 : (a / 8 = 30 ∧ (1 < n ∧ b / 64 = 2) ∧ (2 < n ∧ c / 64 = 2) ∧ (3 < n ∧ d / 64 = 2)) → 262144 * ((a : Int) - 240) + 4096 * p1 + 64 * p2 + p3 = ((a % 8 * 262144 + b % 64 * 4096 + c % 64 * 64 + d % 64 : Nat) : Int) := by
      rintro ⟨k1, ⟨k2, k3⟩, ⟨k4, k5⟩, k6, k7⟩
      rcases c1 with ⟨_, _, _, h⟩ | ⟨h, _⟩
      · rcases c2 with ⟨_, _, _, h'⟩ | ⟨h', _⟩
        · rcases c3 with ⟨_, _, _, h''⟩ | ⟨h'', _⟩
          · omega
          · exact absurd ⟨k6, by omega, by omega⟩ h''
        · exact absurd ⟨k4, by omega, by omega⟩ h'
      · exact absurd ⟨k2, by omega, by omega⟩ h
    clear c1 c2 c3 d1 d2 d3
    have x32 : a / 32 = 6 → ¬ a / 16 = 14 ∧ ¬ a / 8 = 30 := fun h => ⟨by omega, by omega⟩
    have x16 : a / 16 = 14 → ¬ a / 8 = 30 := fun h => by omega
    unfold decodeN
    rw [if_neg (show ¬ a < 128 by omega)]
    by_cases K2 : a / 32 = 6 ∧ (1 < n ∧ b / 64 = 2)
    · rw [if_pos K2]
      by_cases k4 : a % 32 * 64 + b % 64 ≥ 128
      · rw [if_pos k4, n2a ⟨K2.1, K2.2, k4, r2 K2⟩, r2 K2]
        rfl
      · rw [if_neg k4, n2b (fun h => k4 h.2.2.1), n3b (fun h => (x32 K2.1).1 h.1), n4b (fun h => (x32 K2.1).2 h.1)]
        rfl
    · rw [if_neg K2, n2b (fun h => K2 ⟨h.1, h.2.1⟩)]
      by_cases K3 : a / 16 = 14 ∧ (1 < n ∧ b / 64 = 2) ∧ (2 < n ∧ c / 64 = 2)
      · rw [if_pos K3]
        by_cases k7 : a % 16 * 4096 + b % 64 * 64 + c % 64 ≥ 2048 ∧ (a % 16 * 4096 + b % 64 * 64 + c % 64 < 55296 ∨ (57344 ≤ a % 16 * 4096 + b % 64 * 64 + c % 64 ∧ a % 16 * 4096 + b % 64 * 64 + c % 64 ≤ 1114111))
        · rw [if_pos k7, n3a ⟨K3.1, K3.2, k7, r3 K3⟩, r3 K3]
          rfl
        · rw [if_neg k7, n3b (fun h => k7 h.2.2.1), n4b (fun h => x16 K3.1 h.1)]
          rfl
      · rw [if_neg K3, n3b (fun h => K3 ⟨h.1, h.2.1⟩)]
        by_cases K4 : a / 8 = 30 ∧ (1 < n ∧ b / 64 = 2) ∧ (2 < n ∧ c / 64 = 2) ∧ (3 < n ∧ d / 64 = 2)
        · rw [if_pos K4]
          by_cases k10 : a % 8 * 262144 + b % 64 * 4096 + c % 64 * 64 + d % 64 ≥ 65536 ∧ (a % 8 * 262144 + b % 64 * 4096 + c % 64 * 64 + d % 64 < 55296 ∨ (57344 ≤ a % 8 * 262144 + b % 64 * 4096 + c % 64 * 64 + d % 64 ∧ a % 8 * 262144 + b % 64 * 4096 + c % 64 * 64 + d % 64 ≤ 1114111))
          · rw [if_pos k10, n4a ⟨K4.1, K4.2, k10, r4 K4⟩, r4 K4]
            rfl
          · rw [if_neg k10, n4b (fun h => k10 h.2.2.1)]
            rfl
        · rw [if_neg K4, n4b (fun h => K4 ⟨h.1, h.2.1⟩)]
          rfl
def nb (bs : List UInt8) : List Int := bs.map fun b => (b.toNat : Int)
theorem nb_length (bs : List UInt8) : (nb bs).length = bs.length := List.length_map ..
theorem nb_getD (bs : List UInt8) (i : Nat) : (nb bs).getD i 0 = ((bs.getD i 0).toNat : Int) := by
  unfold nb
  rw [List.getD_eq_getElem?_getD, List.getD_eq_getElem?_getD, List.getElem?_map]
  cases bs[i]? <;> rfl
theorem nb_drop (bs : List UInt8) (n : Nat) : (nb bs).drop n = nb (bs.drop n) := by
  unfold nb
  rw [List.map_drop]
theorem next_nb (bs : List UInt8) (hne : bs ≠ []) (hl : bs.length ≤ 9223372036854775807) (k : Nat) (hk : 12 ≤ k) : souffleurref01_Next.f k (nb bs) = some (((decodeL bs).1 : Int), ((decodeL bs).2 : Int)) := by
  have hp := List.length_pos_iff.2 hne
  rw [next_tells (nb bs) (by rw [nb_length]; exact hl) (by rw [nb_length]; exact hp) (fun i => by rw [nb_getD]; have := (bs.getD i 0).toNat_lt; omega) k hk, decodeL_N, nb_length, nb_getD, nb_getD, nb_getD, nb_getD]
  simp only [Int.toNat_natCast]
theorem runes_loop : ∀ (n : Nat) (bs : List UInt8) (acc : List Int) (k : Nat), bs.length ≤ n → n + 13 ≤ k → acc.length + bs.length < 17592186044416 → souffleurref01_Runes.l0 k (nb bs) acc = some (acc ++ (runesL bs).map fun (r : Nat) => (r : Int))
  | n, [], acc, k, h, hk, hz => by
    obtain ⟨k, rfl⟩ : ∃ i, k = i + 1 := ⟨k - 1, by omega⟩
    unfold souffleurref01_Runes.l0
    rw [if_neg (by rw [nb_length]; simp)]
    simp [runesL_nil]
  | 0, b :: bs, acc, k, h, hk, hz => by
    simp at h
  | n + 1, b :: bs, acc, k, h, hk, hz => by
    obtain ⟨k, rfl⟩ : ∃ i, k = i + 1 := ⟨k - 1, by omega⟩
    have hne : b :: bs ≠ [] := by simp
    have hw := decodeL_width (b :: bs)
    have hle := decodeL_le (b :: bs) hne
    have hlen : (b :: bs).length = bs.length + 1 := rfl
    unfold souffleurref01_Runes.l0
    rw [if_pos (by rw [nb_length]; omega), next_nb (b :: bs) hne (by omega) k (by omega)]
    simp only [Option.bind_some]
    rw [if_pos (by omega), if_pos (by omega), if_pos (by rw [nb_length]; omega), Int.toNat_natCast, nb_drop]
    rw [runes_loop n ((b :: bs).drop (decodeL (b :: bs)).2) _ k (by rw [List.length_drop]; omega) (by omega) (by rw [List.length_append, List.length_drop]; simp only [List.length_cons, List.length_nil]; omega)]
    rw [runesL_step hne]
    simp
theorem runes_tells (bs : List UInt8) (hl : bs.length < 17592186044416) (k : Nat) (hk : bs.length + 13 ≤ k) : souffleurref01_Runes.f k (nb bs) = some ((runesL bs).map fun (r : Nat) => (r : Int)) := by
  unfold souffleurref01_Runes.f
  rw [runes_loop bs.length bs [] k (Nat.le_refl _) hk (by simpa using hl)]
  rfl
theorem control_tells (r : Int) (h : 0 ≤ r) : souffleurref02_Control.f r = some (ctlB r) := by
  unfold souffleurref02_Control.f ctlB
  by_cases h1 : r ≤ 31
  · rw [if_pos h1, decide_eq_true (show r < 32 by omega)]
    rfl
  · rw [if_neg h1, decide_eq_false (show ¬ r < 32 by omega)]
    by_cases h2 : r ≥ 127
    · rw [if_pos h2, decide_eq_true (show 127 ≤ r from h2)]
      rfl
    · rw [if_neg h2, decide_eq_false (show ¬ 127 ≤ r from h2)]
      rfl
end Go.Proofs.YtbhiljaipikklaaGreatDoorL

