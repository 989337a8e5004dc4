/- Clone of bytes, and bytes laid over others. No conditions. -/
import Derived.Test.YtcpkoajnepijkaaFile1
import Derived.WalkSpells
import Derived.Laws.CopyOwn
namespace Go.Proofs.Ytcpkoajnepijkaa
set_option linter.unusedVariables false
set_option linter.unusedSimpArgs false
open Go.RowKit Go.Proofs.YtcpkoajnepijkaaL Go.Proofs.YtcpkoajnepijkaaW.PrintWords

theorem info5 : (Try.prog.info? 5).map (fun i => (i.zero, i.size, i.bytes)) = some (some (.int .u8 0), 1, 1) := by kernel_rfl
theorem size5 : (Try.prog.info? 5).map (·.size) = some 1 := by kernel_rfl
abbrev Own (w : World) (B : Nat) (v : Value) (xs : List Int) : Prop := u8.R 5 w B (fun _ => True) v xs

theorem own_lit0 (w : World) (B : Nat) (hB : B ≤ w.heap.size) : Own (w.alloc (.cells #[] 5)) B (.slice (some ⟨w.heap.size, 0, none⟩) 0 0) [] :=
  Kd.R_of_own (World.ownsRow_lit w #[] 0 hB (by unfold maxLen; omega) (by simp)) (fun _ _ => trivial)

theorem clone_calls {base : Nat} {Lz : Nat → Prop} {w : World} {v : Value} {xs : List Int} (h : RB base Lz w v xs) (hl : xs.length ≤ 1000000000) :
    Calls Try.prog 41 #[v] w fun e w' => ∃ v', e = .returned v' ∧ Own w' w.heap.size v' xs ∧ Below w.heap.size w w' := by
  obtain ⟨A, c, rfl, hc, hC, _⟩ := h
  cases A with
  | none =>
    have hx : xs = [] := by
      rcases Nat.eq_zero_or_pos xs.length with h | h
      · exact List.eq_nil_of_length_eq_zero h
      · obtain ⟨ad, e, _⟩ := hC.2.2 h
        cases e
    subst hx
    clear hC hl hc
    have hnil : ∀ W, (binOp .eql 31 (.slice none 0 c) (.slice none 0 0)).run Try.prog W = .ok (.bool true) W := fun W => Lib.run_eql_slice_nil W 31 5 none 0 c 0 0 Try.underlying31
    show Calls Try.prog 41 #[.slice none 0 c] w _
    go_enter Try.func41, Try.ntmps41
    go_wp2
    go_ret
    exact ⟨_, rfl, Kd.R_nil _ _ _ _ _, Below.refl _ _⟩
  | some ad =>
    have HC := Aside0.mk hC
    have HCC := Aside0.mk hc
    have HL := Aside0.mk hl
    clear hC hc hl
    have hnil : ∀ W, (binOp .eql 31 (.slice (some ad) xs.length c) (.slice none 0 0)).run Try.prog W = .ok (.bool false) W := fun W => Lib.run_eql_slice_nil W 31 5 (some ad) xs.length c 0 0 Try.underlying31
    go_enter Try.func41, Try.ntmps41
    go_wp2_with (at_builtin; refine Kd.R_append_rows u8 (w0 := w) w.heap.size rfl (.tmp 5) (.tmp 6) 31 5 (.int .u8 0) 1 rfl Try.underlying31 info5 rfl (by decide) (by decide) (.slice (some ⟨w.heap.size, 0, none⟩) 0 0) [] xs (some ad) xs.length c (fun _ => True) (fun _ => False) rfl rfl (own_lit0 w _ (Nat.le_refl _)) (Kd.C_alloc HC.out _) (fun x cs h => h) (fun _ h => h.elim) (fun _ _ => trivial) (below_alloc (Below.refl _ _) _) (by simp) (by have := HL.out; simp; omega) ?_; intro v1 w1 ho hb _ _)
    go_ret
    exact ⟨_, rfl, ho, hb⟩

/-- Bytes with others at a place, zeros between. -/
def laidL (b : List Int) (k : Nat) (c : List Int) : List Int :=
  if c.length = 0 then b else splice (b ++ List.replicate (k + c.length - b.length) 0) k c
theorem laidL_length (b : List Int) (k : Nat) (c : List Int) : (laidL b k c).length = if c.length = 0 then b.length else max b.length (k + c.length) := by
  unfold laidL
  split
  · rfl
  · rw [length_splice _ _ _ (by simp; omega)]
    simp
    omega

theorem splice_append {α : Type} (L L2 : List α) (k : Nat) (c : List α) (hk : k + c.length ≤ L.length) : splice (L ++ L2) k c = splice L k c ++ L2 := by
  unfold splice
  rw [List.take_append_of_le_length (by omega), List.drop_append_of_le_length (by omega)]
  simp
theorem take_splice {α : Type} (L : List α) (k : Nat) (c : List α) (n : Nat) (hk : k + c.length ≤ n) (hn : n ≤ L.length) : (splice L k c).take n = splice (L.take n) k c := by
  have hl : (L.take n).length = n := by rw [List.length_take]; omega
  have h := splice_append (L.take n) (L.drop n) k c (by omega)
  rw [List.take_append_drop] at h
  rw [h, List.take_append_of_le_length (by rw [length_splice _ _ _ (by omega)]; omega), List.take_of_length_le (by rw [length_splice _ _ _ (by omega)]; omega)]

/-- What a copy leaves of a row of bytes. -/
theorem own_spliced {w : World} {B g n cap : Nat} {cur : Array Value} {xs cs : List Int} {k : Nat} (hB : B ≤ g) (hnc : n ≤ cap) (hcap : cap ≤ maxLen) (hs : cur.size = cap) (hx : cur.toList.take n = encs (Value.int .u8) xs) (hn : xs.length = n) (hk : k + cs.length ≤ n)
    (hw : w.heap[g]? = some (.cells (splice cur.toList k (encs (Value.int .u8) cs)).toArray 5 (0, 0))) : Own w B (.slice (some ⟨g, 0, none⟩) n cap) (splice xs k cs) := by
  have hl : (splice xs k cs).length = n := by rw [length_splice _ _ _ (by omega)]; exact hn
  have hcl : cur.toList.length = cap := by rw [Array.length_toList]; exact hs
  refine Kd.R_of_own (enc := Value.int .u8) ?_ (fun _ _ => trivial)
  rw [hl]
  have he : (encs (Value.int .u8) cs).length = cs.length := by simp [encs]
  have hkk : k + (encs (Value.int .u8) cs).length ≤ cur.toList.length := by rw [he]; omega
  refine ⟨by simp [encs, hl], .inr ⟨g, cap, _, rfl, hB, hw, hnc, hcap, ?_, ?_⟩⟩
  · rw [List.size_toArray, length_splice _ _ _ hkk, hcl, Nat.mul_one]
  · rw [Nat.mul_one]
    show (splice cur.toList k (encs (Value.int .u8) cs)).take n = encs (Value.int .u8) (splice xs k cs)
    have h1 : encs (Value.int .u8) (splice xs k cs) = splice (encs (Value.int .u8) xs) k (encs (Value.int .u8) cs) := by
      unfold splice encs
      simp [List.map_take, List.map_drop]
    rw [h1, ← hx]
    exact take_splice _ _ _ _ (by rw [he]; exact hk) (by rw [Array.length_toList]; omega)

theorem copy_n {k n : Nat} {c : List Int} (h : k + c.length ≤ n) : (encs (Value.int .u8) c).length = Nat.min c.length (n - k) := by
  have : (encs (Value.int .u8) c).length = c.length := by simp [encs]
  rw [this]
  exact (Nat.min_eq_left (by omega)).symm
theorem copy_fit {k n cap : Nat} {c : List Int} {cur : Array Value} (h : k + c.length ≤ n) (h2 : n ≤ cap) (hs : cur.size = cap) : k + (encs (Value.int .u8) c).length ≤ cur.toList.length := by
  have : (encs (Value.int .u8) c).length = c.length := by simp [encs]
  have hcl : cur.toList.length = cap := by rw [Array.length_toList]; exact hs
  rw [this, hcl]
  omega
theorem enc_one {c : List Int} : ∀ v ∈ encs (Value.int .u8) c, v.oneCell' = true := by
  intro v hv
  obtain ⟨x, _, rfl⟩ := List.mem_map.1 hv
  rfl
theorem copy_src {w w' : World} {A : Option Addr} {c : List Int} (h : u8.C w A c.length c) (hb : Below w.heap.size w w') (hp : 0 < (encs (Value.int .u8) c).length) :
    ∃ ad, A = some ad ∧ ∀ j v, (encs (Value.int .u8) c)[j]? = some v → w'.cell? (ad.add j) = some v := by
  obtain ⟨ad, e, hc⟩ := (Kd.C_below h hb).2.2 (by simpa [encs] using hp)
  refine ⟨ad, e, fun j v hv => ?_⟩
  obtain ⟨x, hx, rfl⟩ : ∃ x, c[j]? = some x ∧ Value.int .u8 x = v := by
    simp only [encs, List.getElem?_map] at hv
    cases hx : c[j]? with
    | none => rw [hx] at hv; cases hv
    | some x => rw [hx] at hv; exact ⟨x, rfl, by simpa using hv⟩
  obtain ⟨cs, _, h2, h3⟩ := hc j x hx
  have hcs : cs = [.int .u8 x] := h2
  have h4 : w'.cell? (ad.add (j * 1 + 0)) = some (.int .u8 x) := h3 0 (.int .u8 x) (by rw [hcs]; rfl)
  simpa using h4
theorem own_form {w : World} {B : Nat} {v : Value} {xs : List Int} (h : Own w B v xs) : ∃ A n c, v = .slice A n c ∧ n = xs.length := by
  obtain ⟨A, c, rfl, _, _⟩ := Kd.R_reads h
  exact ⟨A, _, c, rfl, rfl⟩
theorem own_pad_zero (b : List Int) : b ++ List.replicate 0 (0 : Int) = b := by simp

set_option maxRecDepth 100000 in
set_option maxHeartbeats 1000000 in
theorem laid_calls {base : Nat} {Lz : Nat → Prop} {w : World} {v u : Value} {b c : List Int} {k : Nat} (h : RB base Lz w v b) (h2 : RB base Lz w u c) (hk : k ≤ 100000) (hb : b.length ≤ 100000) (hc : c.length ≤ 100000) :
    Calls Try.prog 42 #[v, .int .i64 k, u] w fun e w' => ∃ v', e = .returned v' ∧ Own w' w.heap.size v' (laidL b k c) ∧ Below w.heap.size w w' := by
  have HRB := Aside0.mk h
  obtain ⟨A, cv, rfl, hcv, hC, _⟩ := h
  obtain ⟨A2, cu, rfl, hcu, hC2, _⟩ := h2
  have HC2 := Aside0.mk hC2
  have hn2 := hC2.2.1
  clear hC hC2 hcv hcu hn2
  go_enter Try.func42, Try.ntmps42
  go_wp2_with (go_at_call 41; (with_reducible refine (clone_calls HRB.out (by omega)).mono ?_); rintro e w1 ⟨v1, rfl, ho, hbl⟩; have HO := Aside0.mk ho; have HB := Aside0.mk hbl; clear ho hbl)
  go_loopg [7] (k + c.length - b.length) (fun kq v7 w' => ∃ i : Nat, Aside0 (c.length = 0 → i = 0) ∧ i + kq = k + c.length - b.length ∧ Aside0 (Own w' w.heap.size v7 (b ++ List.replicate i 0)) ∧ Aside0 (Below w.heap.size w w'))
  case atStart => exact ⟨0, ⟨fun _ => rfl⟩, by omega, ⟨by rw [own_pad_zero]; exact HO.out⟩, HB⟩
  case round =>
    obtain ⟨i, HZ, hi, HO, HB⟩ := hrel
    obtain ⟨A7, n7, c7, rfl, hn7⟩ := own_form HO.out
    rw [List.length_append, List.length_replicate] at hn7
    by_cases hr : 0 < c.length ∧ n7 < k + c.length
    · obtain ⟨hr1, hr2⟩ := hr
      obtain ⟨d, rfl⟩ : ∃ d, gk = d + 1 := ⟨gk - 1, by omega⟩
      have e1 : decide (0 < c.length) = true := decide_eq_true hr1
      have e2 : decide (n7 < k + c.length) = true := decide_eq_true hr2
      have HREP := Aside0.mk (show (b ++ List.replicate i (0 : Int)) ++ [0] = b ++ List.replicate (i + 1) 0 by rw [List.append_assoc, List.replicate_succ'])
      have HN7 := Aside0.mk hn7
      clear hn7
      go_wp2_with (at_builtin; refine Kd.R_append u8 (w0 := w) w.heap.size rfl (.tmp 22) (.tmp 23) 31 5 (.int .u8 0) 1 rfl Try.underlying31 info5 rfl (by decide) (by decide) (.slice A7 n7 c7) (b ++ List.replicate i 0) 0 [.int .u8 0] (fun _ => True) (fun _ => False) rfl (by first | (go_simp; done) | (go_simp; rfl)) rfl (fun _ hk => hk.elim) (fun _ _ => trivial) HO.out HB.out HB.out.size (by have := HN7.out; simp; omega) ?_; intro v1 w1 ho hb _ _; rw [HREP.out] at ho; replace HO := Aside0.mk ho; replace HB := Aside0.mk hb; clear ho hb)
      go_roundg d
      case measure => omega
      case rel => exact ⟨i + 1, ⟨fun h0 => by omega⟩, by omega, HO, HB⟩
    · by_cases h0 : c.length = 0
      · have e1 : decide (0 < c.length) = false := decide_eq_false (by omega)
        have hi0 := HZ.out h0
        subst hi0
        have HL := Aside0.mk (show laidL b k c = b by simp [laidL, h0])
        have H0 := Aside0.mk h0
        clear h0 hn7 hr hi
        go_wp2_with (with_reducible refine wpList_copy_nothing rfl (.tmp 30) (.tmp 31) 31 31 rfl 5 Try.underlying31 size5 _ _ _ _ _ _ rfl rfl (by rw [H0.out]; exact Nat.zero_min _) ?_)
        all_goals
          go_ret
          refine ⟨_, rfl, ?_, HB.out⟩
          rw [HL.out]
          have := HO.out
          rw [own_pad_zero] at this
          first | exact this | (have e := (by assumption : c7 = n7); rw [e] at this; exact this) | (have e := (by assumption : c7 = k); rw [e] at this; exact this)
      · have e1 : decide (0 < c.length) = true := decide_eq_true (by omega)
        have e2 : decide (n7 < k + c.length) = false := decide_eq_false (by omega)
        have hown := Kd.own_of_R HO.out
        rcases hown.2 with ⟨hv, hz⟩ | ⟨g, cap, cur, hv, hBg, hh, hnc, hcap, hsz, hx⟩
        · exfalso
          rw [List.length_append, List.length_replicate] at hz
          omega
        · injection hv with hA hN hC
          subst hA hC
          rw [List.length_append, List.length_replicate, ← hn7] at hnc hx
          rw [Nat.mul_one] at hsz hx
          have hkn : k < n7 := by omega
          have hcp : 0 < c.length := by omega
          have hkc : k < c7 := by omega
          have hge : k + c.length ≤ n7 := by omega
          have HG := Aside0.mk hh
          have HX := Aside0.mk hx
          have HS := Aside0.mk hsz
          have HN := Aside0.mk hn7
          have HI := Aside0.mk hi
          have HR : Aside0 (k + c.length - b.length = i) := ⟨by have := HI.out; omega⟩
          clear hh hx hsz hn7 hi hr h0 hown hN
          go_wp2_with (with_reducible refine wpList_copy_splice rfl (.tmp 30) (.tmp 31) 31 31 rfl 5 Try.underlying31 size5 _ _ _ _ _ _ rfl rfl g k cur.toList 5 (by rw [Array.toArray_toList]; exact HG.out) (encs (Value.int .u8) c) (copy_n hge) (fun hp => ⟨rfl, copy_src HC2.out HB.out hp⟩) (copy_fit hge hnc HS.out) enc_one w.heap.size w HB.out hBg ?_; intro w9 h9 hb9)
          go_ret
          refine ⟨_, rfl, ?_, hb9⟩
          have e1 : laidL b k c = splice (b ++ List.replicate i 0) k c := by
            unfold laidL
            rw [if_neg (by omega), HR.out]
          rw [e1]
          exact own_spliced hBg hnc hcap HS.out HX.out (by rw [List.length_append, List.length_replicate]; exact HN.out.symm) hge h9

end Go.Proofs.Ytcpkoajnepijkaa
