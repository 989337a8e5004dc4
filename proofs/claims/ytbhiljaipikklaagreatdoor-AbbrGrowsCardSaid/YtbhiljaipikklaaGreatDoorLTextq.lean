/- Parts of the proof of the law that the last file states; declarations that nothing mentions are left out by a program. No conditions. -/
import Derived.LoopTactic
import Derived.Deep.RegionHeld3
import Derived.Test.YtbhiljaipikklaaGreatDoorLPlainq
import Derived.Test.YtbhiljaipikklaaGreatDoorLEachq
set_option linter.unusedVariables false
set_option linter.unusedSimpArgs false
namespace Go.Proofs.YtbhiljaipikklaaGreatDoorL
open Go Go.RowKit Go.Proofs.YtbhiljaipikklaaGreatDoorW.PrintWords
def backG (at_ : Int) : List Nat → Nat → Nat
  | [], o => o
  | x :: l, o => backG at_ l (if (x : Int) ≤ at_ then x else o)
def backL (s : ByteArray) (at_ : Int) : Nat := backG at_ (boundsL s) 0
def onG (at_ : Int) (z : Nat) : List Nat → Nat
  | [] => z
  | x :: l => if at_ ≤ (x : Int) then x else onG at_ z l
def onL (s : ByteArray) (at_ : Int) : Nat := onG at_ s.size (boundsL s)
theorem nat_cell {w : World} {base g cap : Nat} {l : List Nat} (h : w.ownsRow base 3 1 (.slice (some ⟨g, 0, none⟩) l.length cap) l.length (natCells l)) (i : Nat) (hi : i < l.length) : w.cell? ⟨g, i, none⟩ = some (.int .i64 (l[i] : Int)) := by
  rw [World.ownsRow.cellAt h i (by omega)]
  simp [natCells, hi]
theorem boundsL_len (s : ByteArray) : (boundsL s).length ≤ s.size + 2 := by
  unfold boundsL
  rw [List.length_append, atsL_len]
  have := eachG_len s (s.size + 1) 0 0
  unfold eachL
  simp only [List.length_cons, List.length_nil]
  omega
theorem boundsL_pos (s : ByteArray) : 0 < (boundsL s).length := by
  unfold boundsL
  simp
set_option maxHeartbeats 1000000 in
theorem back_calls (s : ByteArray) (hs : s.size ≤ 1099511627776) (at_ : Int) (w : World) :
    Calls Tryz.prog 42 #[.string s, .int .i64 at_] w fun e w' => e = .returned (.int .i64 (backL s at_)) ∧ Below w.heap.size w w' := by
  have X := Hd.mk (bounds_calls s hs w)
  have HL : Hd ((boundsL s).length ≤ 1099511627780) := ⟨by have := boundsL_len s; omega⟩
  have HZ := Hd.mk (boundsL_pos s)
  obtain ⟨R, hR⟩ : ∃ R, backL s at_ = R := ⟨_, rfl⟩
  have HR : Hd (backG at_ (boundsL s) 0 = R) := ⟨hR⟩
  rw [hR]
  generalize boundsL s = l at X HL HZ HR
  clear hR hs
  go_enter Tryz.func42, Tryz.ntmps42
  go_wp2_with fail
  go_at_call 35
  with_reducible refine (X.out).mono ?_
  rintro _ w1 ⟨v, rfl, hown, hb⟩
  obtain ⟨g, cap, rfl, _, _⟩ := World.ownsRow.form hown HZ.out
  have HO := Hd.mk hown
  have HB := Hd.mk hb
  clear hown hb X
  go_wp2_with fail
  go_loopg [5, 11] l.length (fun gk v5 v11 wx => ∃ k o : Nat, k + gk = l.length ∧ v11 = .int .i64 k ∧ v5 = .int .i64 o ∧ wx = w1 ∧ Hd (backG at_ (l.drop k) o = R))
  case atStart => exact ⟨0, 0, by omega, rfl, rfl, rfl, HR⟩
  case round =>
    obtain ⟨k, o, hk, rfl, rfl, rfl, HI⟩ := hrel
    cases gk with
    | zero =>
      have hlt : decide (k < l.length) = false := decide_eq_false (by omega)
      have HE : Hd (o = R) := ⟨by rw [← HI.out, List.drop_eq_nil_of_le (by omega)]; rfl⟩
      go_wp2
      go_ret
      exact ⟨by rw [← HE.out]; rfl, HB.out⟩
    | succ d =>
      have hkl : k < l.length := by omega
      have hlt : decide ((k : Int) < (l.length : Int)) = true := decide_eq_true (by omega)
      have hc := nat_cell HO.out k hkl
      have HD : Hd (backG at_ (l.drop k) o = backG at_ (l.drop (k + 1)) (if (l[k] : Int) ≤ at_ then l[k] else o)) := ⟨by rw [List.drop_eq_getElem_cons hkl]; rfl⟩
      have HK := Hd.mk hk
      generalize l[k] = x at hc HD
      clear hk
      by_cases hx : (x : Int) ≤ at_
      · have hxb : decide ((x : Int) ≤ at_) = true := decide_eq_true hx
        rw [if_pos hx] at HD
        have HI2 : Hd (backG at_ (l.drop (k + 1)) x = R) := ⟨by rw [← HD.out]; exact HI.out⟩
        clear HD HI
        go_wp2
        go_roundg d
        case measure => omega
        case rel => exact ⟨k + 1, x, by have := HK.out; omega, congrArg (Value.int .i64) (by have := HK.out; have := HL.out; unfold wrap64; omega), rfl, rfl, HI2⟩
      · have hxb : decide ((x : Int) ≤ at_) = false := decide_eq_false hx
        rw [if_neg hx] at HD
        have HI2 : Hd (backG at_ (l.drop (k + 1)) o = R) := ⟨by rw [← HD.out]; exact HI.out⟩
        clear HD HI
        go_wp2
        go_roundg d
        case measure => omega
        case rel => exact ⟨k + 1, o, by have := HK.out; omega, congrArg (Value.int .i64) (by have := HK.out; have := HL.out; unfold wrap64; omega), rfl, rfl, HI2⟩
set_option maxHeartbeats 1000000 in
theorem on_calls (s : ByteArray) (hs : s.size ≤ 1099511627776) (at_ : Int) (w : World) :
    Calls Tryz.prog 44 #[.string s, .int .i64 at_] w fun e w' => e = .returned (.int .i64 (onL s at_)) ∧ Below w.heap.size w w' := by
  have X := Hd.mk (bounds_calls s hs w)
  have HL : Hd ((boundsL s).length ≤ 1099511627780) := ⟨by have := boundsL_len s; omega⟩
  have HZ := Hd.mk (boundsL_pos s)
  obtain ⟨R, hR⟩ : ∃ R, onL s at_ = R := ⟨_, rfl⟩
  have HR : Hd (onG at_ s.size (boundsL s) = R) := ⟨hR⟩
  rw [hR]
  generalize boundsL s = l at X HL HZ HR
  clear hR hs
  go_enter Tryz.func44, Tryz.ntmps44
  go_wp2_with fail
  go_at_call 35
  with_reducible refine (X.out).mono ?_
  rintro _ w1 ⟨v, rfl, hown, hb⟩
  obtain ⟨g, cap, rfl, _, _⟩ := World.ownsRow.form hown HZ.out
  have HO := Hd.mk hown
  have HB := Hd.mk hb
  clear hown hb X
  go_wp2_with fail
  go_loopg [10] l.length (fun gk v10 wx => ∃ k : Nat, k + gk = l.length ∧ v10 = .int .i64 k ∧ wx = w1 ∧ Hd (onG at_ s.size (l.drop k) = R))
  case atStart => exact ⟨0, by omega, rfl, rfl, HR⟩
  case round =>
    obtain ⟨k, hk, rfl, rfl, HI⟩ := hrel
    cases gk with
    | zero =>
      have hlt : decide (k < l.length) = false := decide_eq_false (by omega)
      have HE : Hd (s.size = R) := ⟨by rw [← HI.out, List.drop_eq_nil_of_le (by omega)]; rfl⟩
      go_wp2
      go_ret
      exact ⟨by rw [← HE.out]; rfl, HB.out⟩
    | succ d =>
      have hkl : k < l.length := by omega
      have hlt : decide ((k : Int) < (l.length : Int)) = true := decide_eq_true (by omega)
      have hc := nat_cell HO.out k hkl
      have HD : Hd (onG at_ s.size (l.drop k) = if at_ ≤ (l[k] : Int) then l[k] else onG at_ s.size (l.drop (k + 1))) := ⟨by rw [List.drop_eq_getElem_cons hkl]; rfl⟩
      have HK := Hd.mk hk
      generalize l[k] = x at hc HD
      clear hk
      by_cases hx : at_ ≤ (x : Int)
      · have hxb : decide (at_ ≤ (x : Int)) = true := decide_eq_true hx
        rw [if_pos hx] at HD
        have HE : Hd (x = R) := ⟨by rw [← HD.out]; exact HI.out⟩
        clear HD HI
        go_wp2
        go_ret
        exact ⟨by rw [← HE.out]; rfl, HB.out⟩
      · have hxb : decide (at_ ≤ (x : Int)) = false := decide_eq_false hx
        rw [if_neg hx] at HD
        have HI2 : Hd (onG at_ s.size (l.drop (k + 1)) = R) := ⟨by rw [← HD.out]; exact HI.out⟩
        clear HD HI
        go_wp2
        go_roundg d
        case measure => omega
        case rel => exact ⟨k + 1, by have := HK.out; omega, congrArg (Value.int .i64) (by have := HK.out; have := HL.out; unfold wrap64; omega), rfl, HI2⟩
theorem eachG_ats (s : ByteArray) : ∀ (n f pos : Nat), f ≤ pos → pos ≤ s.size → ∀ x ∈ atsL (eachG s n f pos), x ≤ s.size
  | 0, _, _, _, _, x, h => by simp [eachG, atsL] at h
  | n + 1, f, pos, hf, hp, x, h => by
    unfold eachG at h
    by_cases hlt : pos < s.size
    · rw [if_pos hlt] at h
      have hwn : pos + (Utf8.decode s pos).2 ≤ s.size := by
        have hne : s.data.toList.drop pos ≠ [] := by
          intro h0
          have := congrArg List.length h0
          rw [List.length_drop, ← Lib.size_eq] at this
          simp at this
          omega
        have := Lib.decodeL_le _ hne
        rw [Lib.decodeL_drop, List.length_drop, ← Lib.size_eq] at this
        omega
      split at h
      · exact eachG_ats s n f _ (by omega) hwn x h
      · rcases List.mem_cons.1 h with h1 | h
        · have h2 : x = f := h1
          omega
        · exact eachG_ats s n pos _ (by omega) hwn x h
    · rw [if_neg hlt] at h
      split at h
      · simp [atsL] at h; omega
      · simp [atsL] at h
theorem boundsL_le (s : ByteArray) : ∀ x ∈ boundsL s, x ≤ s.size := by
  intro x h
  unfold boundsL at h
  rcases List.mem_append.1 h with h | h
  · exact eachG_ats s _ 0 0 (Nat.le_refl _) (Nat.zero_le _) x h
  · simp at h; omega
theorem backG_le (at_ : Int) (z : Nat) : ∀ (l : List Nat) (o : Nat), o ≤ z → (∀ x ∈ l, x ≤ z) → backG at_ l o ≤ z
  | [], o, h, _ => h
  | x :: l, o, h, hl => by
    unfold backG
    refine backG_le at_ z l _ ?_ (fun y hy => hl y (List.mem_cons_of_mem _ hy))
    split
    · exact hl x List.mem_cons_self
    · exact h
theorem backL_le (s : ByteArray) (at_ : Int) : backL s at_ ≤ s.size := backG_le at_ s.size _ 0 (Nat.zero_le _) (boundsL_le s)
def plainS (s : ByteArray) : ByteArray := ⟨(plainL s.data.toList).toArray⟩
theorem plainS_size (s : ByteArray) : (plainS s).size ≤ 16 * s.size := by
  show (plainL s.data.toList).toArray.size ≤ _
  rw [List.size_toArray]
  unfold plainL cleanL
  have h1 := mapD_len (fun r => r) _ s.data.toList (Nat.le_refl _)
  have h2 := mapD_len plainF _ (Lib.mapD (fun r => r) s.data.toList) (Nat.le_refl _)
  rw [← Lib.size_eq] at h1
  omega
def cutS (s : ByteArray) (n : Nat) : ByteArray := s.extract 0 n
theorem cutS_size (s : ByteArray) (n : Nat) (h : n ≤ s.size) : (cutS s n).size = n := by
  unfold cutS
  rw [ByteArray.size_extract]
  omega
def makeS (s : ByteArray) : ByteArray := if 600 < (plainS s).size then cutS (plainS s) (backL (plainS s) 600) else plainS s
theorem makeS_size (s : ByteArray) : (makeS s).size ≤ (plainS s).size := by
  unfold makeS
  split
  · rw [cutS_size _ _ (backL_le _ _)]; exact backL_le _ _
  · exact Nat.le_refl _
def bufV (s : ByteArray) (at_ : Nat) : Array Value := #[.string s, .int .i64 (at_ : Int)]
theorem infoBuf : (Tryz.prog.info? 42).map (·.size) = some 2 := by kernel_rfl
set_option maxRecDepth 100000 in
set_option maxHeartbeats 1000000 in
theorem make_calls (s : ByteArray) (hs : s.size ≤ 4294967296) (at_ : Int) (w : World) (hT : Lib.Utf8Tabs 0 1 w) :
    Calls Tryz.prog 22 #[.string s, .int .i64 at_] w fun e w' => e = .returned (.agg (bufV (makeS s) (backL (makeS s) at_))) ∧ Below w.heap.size w w' := by
  have hp := plainS_size s
  have HX := Hd.mk (fun w1 (hb : Below w.heap.size w w1) => plain_calls s (by omega) w1 (Utf8Tabs_below hT hb))
  have HS := Hd.mk (makeS_size s)
  have HM : Hd (makeS s = if 600 < (plainS s).size then cutS (plainS s) (backL (plainS s) 600) else plainS s) := ⟨rfl⟩
  have HBK := Hd.mk (fun (p : ByteArray) (hp : p.size ≤ 1099511627776) a w => back_calls p hp a w)
  have HP : Hd ((plainS s).size ≤ 68719476736) := ⟨by omega⟩
  have HLE := Hd.mk (backL_le (plainS s) 600)
  have HPS : Hd ((⟨(plainL s.data.toList).toArray⟩ : ByteArray) = plainS s) := ⟨rfl⟩
  clear hp hT hs
  go_enter Tryz.func22, Tryz.ntmps22
  go_upto_region 2 with (first
    | ((with_reducible refine gate_dst (N := 4) rfl ?_); refine box_event ?hg (N := 4) ?hd (cs := #[.string ByteArray.empty, .int .i64 0]) (t := 42) ?hr ?_; (case hd => rfl); (case hg => rfl); (case hr => first | (go_simp; done) | (go_simp; rfl)); intro g4 hg wg4 hx hb; have B4 := Hd.mk (show Blk wg4 g4 42 _ from hx); have HG4 : Hd (w.heap.size ≤ g4) := ⟨hg ▸ Nat.le_refl _⟩; have HB4 := Hd.mk hb; clear hx hb hg)
    | (go_at_call 33; (with_reducible refine (HX.out _ HB4.out).mono ?_); rintro _ w5 ⟨rfl, hb⟩; have B5 := Hd.mk (Blk.belowW B4.out hb); have HB5 := Hd.mk (HB4.out.trans (hb.mono HB4.out.size)); clear hb HB4 B4 HX))
  rw [HPS.out]
  generalize plainS s = p at HM HP HLE HS
  clear HPS
  by_cases h6 : 600 < p.size
  · have h6b : decide ((600 : Int) < (p.size : Int)) = true := decide_eq_true (by omega)
    rw [if_pos h6] at HM
    have hp1 : (0 : Int) ≤ (backL p 600 : Int) := Int.natCast_nonneg _
    have hp2 : (backL p 600 : Int) ≤ (p.size : Int) := by have := HLE.out; omega
    have XB1 := Hd.mk (fun w' => back_calls p (by have := HP.out; omega) 600 w')
    have XB2 := Hd.mk (fun w' => back_calls (cutS p (backL p 600)) (by rw [cutS_size _ _ HLE.out]; have := HP.out; have := HLE.out; omega) at_ w')
    have hnat : (backL p 600) ≤ p.size := HLE.out
    generalize backL p 600 = n at XB1 XB2 hp1 hp2 hnat HM
    unfold cutS at XB2
    clear h6 HLE
    go_wp2_with (first
      | (go_at_call 42; first | ((with_reducible refine (XB1.out _).mono ?_); rintro _ w6 ⟨rfl, hb⟩; have B6 := Hd.mk (Blk.belowW B5.out hb); have HB6 := Hd.mk (HB5.out.trans (hb.mono HB5.out.size)); clear hb HB5 B5 XB1) | ((with_reducible refine (XB2.out _).mono ?_); rintro _ w7 ⟨rfl, hb⟩; have B7 := Hd.mk (Blk.belowW B6.out hb); have HB7 := Hd.mk (HB6.out.trans (hb.mono HB6.out.size)); clear hb HB6 B6 XB2))
      | ((with_reducible refine gate_store (t := 42) (p := 4) rfl ?_); refine store_event rfl rfl (g := g4) (cells := bufV (p.extract 0 n) (backL (p.extract 0 n) at_)) (by first | rfl | (go_simp; done) | (go_simp; rfl)) (by first | rfl | (go_simp; done) | (go_simp; rfl)) B7.out infoBuf rfl (by simp [bufV, Value.oneCell']) ?_; intro ws hx hk hz hb; have B8 := Hd.mk hx; have HB8 := Hd.mk (hb HB7.out HG4.out); clear hx hk hz hb HB7 B7))
    exact ret_row (cs := bufV _ _) rfl rfl Tryz.underlying42 infoBuf rfl B8.out rfl ⟨by rw [HM.out]; rfl, HB8.out⟩
  · have h6b : decide ((600 : Int) < (p.size : Int)) = false := decide_eq_false (by omega)
    rw [if_neg h6] at HM
    have XB2 := Hd.mk (fun w' => back_calls p (by have := HP.out; omega) at_ w')
    clear h6 HLE
    go_wp2_with (first
      | (go_at_call 42; (with_reducible refine (XB2.out _).mono ?_); rintro _ w7 ⟨rfl, hb⟩; have B7 := Hd.mk (Blk.belowW B5.out hb); have HB7 := Hd.mk (HB5.out.trans (hb.mono HB5.out.size)); clear hb HB5 B5 XB2)
      | ((with_reducible refine gate_store (t := 42) (p := 4) rfl ?_); refine store_event rfl rfl (g := g4) (cells := bufV p (backL p at_)) (by first | rfl | (go_simp; done) | (go_simp; rfl)) (by first | rfl | (go_simp; done) | (go_simp; rfl)) B7.out infoBuf rfl (by simp [bufV, Value.oneCell']) ?_; intro ws hx hk hz hb; have B8 := Hd.mk hx; have HB8 := Hd.mk (hb HB7.out HG4.out); clear hx hk hz hb HB7 B7))
    exact ret_row (cs := bufV _ _) rfl rfl Tryz.underlying42 infoBuf rfl B8.out rfl ⟨by rw [HM.out], HB8.out⟩
end Go.Proofs.YtbhiljaipikklaaGreatDoorL

