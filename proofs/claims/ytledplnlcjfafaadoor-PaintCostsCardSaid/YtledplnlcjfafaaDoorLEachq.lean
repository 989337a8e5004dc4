/- Parts of the proof of the law that the last file states; declarations that nothing mentions are left out by a program. No conditions. -/
import Derived.RangeFuncBox
import Derived.RangeFuncLeaves
import Derived.RangeFuncFrom
import Derived.RangeFuncNested
import Derived.RangeFuncBound
import Derived.RangeFuncCalls
import Derived.Shelf.Abstract
import Derived.WalkKit
import Derived.OwnWalkIn
import Derived.TacticsInMore
import Derived.LoopNIn
import Derived.LoopIn
import Derived.Maps.AppendAt
import Derived.Test.YtledplnlcjfafaaDoorLSignq
import Derived.Test.YtledplnlcjfafaaDoorLWidthq
set_option linter.unusedVariables false
set_option linter.unusedSimpArgs false
namespace Go.Proofs.YtledplnlcjfafaaDoorL
open Go Go.RowKit Go.Shelf Go.Proofs.YtledplnlcjfafaaDoorW.PrintWords
attribute [local go_sem] Oper.semAt_some
def eachG (s : ByteArray) : Nat → Nat → Nat → List (Nat × ByteArray)
  | 0, _, _ => []
  | n + 1, from_, pos =>
    if pos < s.size then
      if pos = 0 ∨ ofR (Utf8.decode s pos).1 = 0 then eachG s n from_ (pos + (Utf8.decode s pos).2)
      else (from_, s.extract from_ pos) :: eachG s n pos (pos + (Utf8.decode s pos).2)
    else if from_ < s.size then [(from_, s.extract from_ s.size)] else []
def eachL (s : ByteArray) : List (Nat × ByteArray) := eachG s (s.size + 1) 0 0
theorem eachG_fuel (s : ByteArray) : ∀ (n m from_ pos : Nat), s.size < pos + n → s.size < pos + m → 0 < n → 0 < m → eachG s n from_ pos = eachG s m from_ pos
  | 0, _, _, _, _, _, h, _ => by omega
  | _ + 1, 0, _, _, _, _, _, h => by omega
  | n + 1, m + 1, f, pos, hn, hm, _, _ => by
    have hw := Lib.width_pos s pos
    unfold eachG
    by_cases hlt : pos < s.size
    · rw [if_pos hlt, if_pos hlt, eachG_fuel s n m f (pos + (Utf8.decode s pos).2) (by omega) (by omega) (by omega) (by omega), eachG_fuel s n m pos (pos + (Utf8.decode s pos).2) (by omega) (by omega) (by omega) (by omega)]
    · rw [if_neg hlt, if_neg hlt]
def eachF (s : ByteArray) (from_ pos : Nat) : List (Nat × ByteArray) := eachG s (s.size + 1) from_ pos
theorem eachF_step (s : ByteArray) (f pos : Nat) : eachF s f pos = if pos < s.size then
      (if pos = 0 ∨ ofR (Utf8.decode s pos).1 = 0 then eachF s f (pos + (Utf8.decode s pos).2) else (f, s.extract f pos) :: eachF s pos (pos + (Utf8.decode s pos).2))
    else if f < s.size then [(f, s.extract f s.size)] else [] := by
  have hw := Lib.width_pos s pos
  unfold eachF
  conv => lhs; unfold eachG
  by_cases hlt : pos < s.size
  · rw [if_pos hlt, if_pos hlt, eachG_fuel s s.size (s.size + 1) f (pos + (Utf8.decode s pos).2) (by omega) (by omega) (by omega) (by omega), eachG_fuel s s.size (s.size + 1) pos (pos + (Utf8.decode s pos).2) (by omega) (by omega) (by omega) (by omega)]
  · rw [if_neg hlt, if_neg hlt]
theorem own_ne {w : World} {base e size n : Nat} {v : Value} {xs : List Value} {k : Nat} {o : Obj} (h : w.ownsRow base e size v n xs) (hk : w.heap[k]? = some o) (ho : o.isCells = false) : v.ownBlock ≠ some k := by
  rcases h.2 with ⟨rfl, _⟩ | ⟨g, cap, cur, rfl, _, hg, _⟩
  · simp [Value.ownBlock]
  · intro e
    cases e
    rw [hk] at hg
    cases hg
    cases ho
def iterLeft (k : Nat) (w : World) : Nat := match w.heap[k]? with
  | some (.stringIter s pos) => s.size + 1 - pos
  | _ => 0
theorem iterLeft_eq {k : Nat} {w : World} {s : ByteArray} {pos : Nat} (h : w.heap[k]? = some (.stringIter s pos)) : iterLeft k w = s.size + 1 - pos := by unfold iterLeft; rw [h]
def KpE (Bn : Nat) (A B : World) : Prop := B.heap[Bn]? = A.heap[Bn]? ∧ KeepsWalks A B
theorem KpE.t {Bn : Nat} {A B C : World} (h : KpE Bn A B) (k : KpE Bn B C) : KpE Bn A C := ⟨k.1.trans h.1, h.2.trans k.2⟩
theorem grown_below {w w' : World} (hb : Below w.heap.size w w') : w.grownBy w' none := ⟨hb.os, hb.tape, hb.output, hb.size, fun k hk _ => hb.block k hk⟩
def encE (x : Nat × ByteArray) : Array Value := #[.int .i64 x.1, .string x.2]
set_option maxRecDepth 100000 in
set_option maxHeartbeats 2000000 in
theorem each1_in (n : Nat) (hn : 1 ≤ n) (l Bn : Nat) (s : ByteArray) (hs : s.size ≤ 9223372036854775807) (J Jx : List (Nat × ByteArray) → World → Prop) (W : World) (hBn : Bn < W.heap.size) (hJ : AbidesFrom W.heap.size J) (hJx : AbidesFrom W.heap.size Jx)
    (hY : ∀ pre x W1, J pre W1 → pre.length < (eachL s).length → pre ++ [x] <+: eachL s → YieldAt Fence.wide (n - 1) Tryd.prog l (encE x) W1 fun e W' =>
      (e = .returned (.bool true) ∧ J (pre ++ [x]) W' ∧ KpE Bn W1 W') ∨ (e = .returned (.bool false) ∧ Jx (pre ++ [x]) W'))
    (hc : W.cell? ⟨Bn, 0, none⟩ = some (.string s)) (h0 : J [] W) :
    CallsIn Fence.wide n Tryd.prog 43 #[.func (.yield l) #[] #[], .pointer (some ⟨Bn, 0, none⟩)] W fun e W' => (∃ v, e = .returned v) ∧
      ((∃ ys, ys = eachL s ∧ J ys W') ∨ (∃ pre, pre <+: eachL s ∧ Jx pre W')) := by
  have HC := Hd.mk hc
  have HS := Hd.mk hs
  have HJ := Hd.mk hJ
  have HJX := Hd.mk hJx
  have HY := Hd.mk hY
  have H0 := Hd.mk h0
  have HN := Hd.mk hBn
  clear hJ hJx hY h0 hBn hs
  refine callsIn_of_wp Tryd.func43 rfl trivial ?_ rfl
  simp only [Tryd.ntmps43, List.size_toArray, List.length_cons, List.length_nil, Nat.reduceAdd, Nat.reduceSub, Array.replicate_succ, Array.replicate_zero, List.push_toArray, List.append_toArray, List.nil_append, List.cons_append]
  gi_wp2
  have hit0 := World.iter_heap W s 0
  have hbi : Below W.heap.size W (W.iter s 0) := (Below.refl _ W).alloc (Nat.le_refl _) _
  have H1 : Hd (J [] (W.iter s 0)) := ⟨HJ.out [] W _ none H0.out (World.grownBy_alloc W (.stringIter s 0) none) (fun r e => by cases e)⟩
  have HC1 := Hd.mk ((hbi.cell (p := ⟨Bn, 0, none⟩) (World.block_lt_of_cell? W _ HC.out)).trans HC.out)
  have hsz1 : W.heap.size < (W.iter s 0).heap.size := (Array.getElem?_eq_some_iff.1 hit0).1
  generalize hwi : W.iter s 0 = wi at hit0 H1 HC1 hsz1
  clear hbi hwi hc
  gi_loopw [3] (fun v3 wx => ∃ (f pos : Nat) (pre : List (Nat × ByteArray)), v3 = .int .i64 f ∧ wx.heap[W.heap.size]? = some (.stringIter s pos) ∧ Hd (wx.cell? ⟨Bn, 0, none⟩ = some (.string s)) ∧ Hd (pre ++ eachF s f pos = eachL s) ∧ Hd (J pre wx) ∧ Hd (f ≤ pos ∧ pos ≤ s.size) ∧ W.heap.size < wx.heap.size)
    (fun _ wx => iterLeft W.heap.size wx)
  case atStart => exact ⟨0, 0, [], rfl, hit0, HC1, ⟨rfl⟩, H1, ⟨Nat.le_refl _, Nat.zero_le _⟩, hsz1⟩
  case round =>
    clear HC1 H1 hit0 hsz1 HC H0
    obtain ⟨f, pos, pre, rfl, hit, HC, HP, HJP, HFP, hsz⟩ := hrel
    by_cases hlt : pos < s.size
    · have hnx : ∀ ty, (Instr.next (.pointer (some ⟨W.heap.size, 0, none⟩)) true ty).run Tryd.prog wr = _ := fun ty => Lib.run_next_any_at wr W.heap.size s pos ty hit hlt
      have hwd := Lib.width_pos s pos
      have hwn : pos + (Utf8.decode s pos).2 ≤ s.size := by
        have hne : s.data.toList.drop pos ≠ [] := by
          intro h0
          have := congrArg List.length h0
          rw [List.length_drop, ← Lib.size_eq] at this
          simp at this
          omega
        have := Lib.decodeL_le _ hne
        rw [Lib.decodeL_drop, List.length_drop, ← Lib.size_eq] at this
        omega
      have hst := eachF_step s f pos
      rw [if_pos hlt] at hst
      have hle := iterLeft_eq hit
      obtain ⟨r, hr⟩ : ∃ r, (Utf8.decode s pos).1 = r := ⟨_, rfl⟩
      obtain ⟨k, hk⟩ : ∃ k, (Utf8.decode s pos).2 = k := ⟨_, rfl⟩
      rw [hr, hk] at hnx hst
      rw [hk] at hwd hwn
      have hit2 := Lib.iterAt_heap wr W.heap.size s pos (pos + k) hit
      have HJ2 := Hd.mk (HJ.out pre wr (wr.iterAt W.heap.size s (pos + k)) (some W.heap.size) HJP.out ⟨rfl, rfl, rfl, by rw [Lib.iterAt_size]; exact Nat.le_refl _, fun i hi hne => Lib.iterAt_other wr W.heap.size i s (pos + k) (fun e => hne (by rw [e]))⟩ (fun r e => by cases e; exact ⟨Nat.le_refl _, _, hit, rfl⟩))
      have HC2 : Hd ((wr.iterAt W.heap.size s (pos + k)).cell? ⟨Bn, 0, none⟩ = some (.string s)) := ⟨(World.cell?_of_block (a := ⟨Bn, 0, none⟩) (Lib.iterAt_other wr W.heap.size Bn s (pos + k) (by have := HN.out; omega))).trans HC.out⟩
      have hsz2 : W.heap.size < (wr.iterAt W.heap.size s (pos + k)).heap.size := by rw [Lib.iterAt_size]; exact hsz
      have HIT := Hd.mk hit
      have HLE := Hd.mk hle
      have HST := Hd.mk hst
      have HWN := Hd.mk (And.intro hwd hwn)
      generalize wr.iterAt W.heap.size s (pos + k) = w2 at hnx hit2 HJ2 HC2 hsz2
      have HI2 := Hd.mk hit2
      have HSZ2 := Hd.mk hsz2
      clear hit hit2 hsz hsz2 hle hst hwd hwn hr hk HC HJP
      by_cases h0 : pos = 0
      · subst h0
        rw [if_pos (Or.inl rfl)] at HST
        have HP2 : Hd (pre ++ eachF s f (0 + k) = eachL s) := ⟨by rw [← HST.out]; exact HP.out⟩
        clear HP HST
        gi_wp2
        refine ⟨trivial, ?_⟩
        gi_wp2
        go_roundw
        case rel => exact ⟨f, 0 + k, pre, rfl, HI2.out, HC2, HP2, HJ2, ⟨by have := HFP.out; omega, HWN.out.2⟩, HSZ2.out⟩
        case measure => rw [iterLeft_eq HI2.out, HLE.out]; have := HWN.out; omega
      · have hp0 : ((pos : Int) == 0) = false := by simp; omega
        have X := Hd.mk (callsIn_wide (n := n - 1) (w := w2).2 (of_calls (r : Int) w2))
        have HFW := Hd.mk h0
        clear h0
        by_cases hz : ofR (r : Int) = 0
        · have hzb : (ofR (r : Int) == 0) = true := by simp [hz]
          rw [if_pos (Or.inr hz)] at HST
          have HP2 : Hd (pre ++ eachF s f (pos + k) = eachL s) := ⟨by rw [← HST.out]; exact HP.out⟩
          clear HP HST hz
          generalize ofR (r : Int) = o at X hzb
          gi_wp2_with (refine ⟨trivial, ?_⟩; gi_at_call 44; refine (X.out).mono ?_; rintro e w3 ⟨rfl, hb3⟩; have HJ3 := Hd.mk (HJ.out pre w2 w3 none HJ2.out (grown_below hb3) (fun r e => by cases e)); have HC3 := Hd.mk ((hb3.cell (p := ⟨Bn, 0, none⟩) (World.block_lt_of_cell? w2 _ HC2.out)).trans HC2.out); have HI3 := Hd.mk ((hb3.block _ HSZ2.out).trans HI2.out); have HSZ3 := Hd.mk (Nat.lt_of_lt_of_le HSZ2.out hb3.size); clear hb3)
          go_roundw
          case rel => exact ⟨f, pos + k, pre, rfl, HI3.out, HC3, HP2, HJ3, ⟨by have := HFP.out; omega, HWN.out.2⟩, HSZ3.out⟩
          case measure => rw [iterLeft_eq HI3.out, HLE.out]; have := HWN.out; omega
        · have hzb : (ofR (r : Int) == 0) = false := by simp [hz]
          rw [if_neg (by have := HFW.out; omega)] at HST
          have HP2 : Hd ((pre ++ [(f, s.extract f pos)]) ++ eachF s pos (pos + k) = eachL s) := ⟨by have h1 := HP.out; rw [HST.out] at h1; rw [← h1]; simp⟩
          have HPL : Hd (pre.length < (eachL s).length) := ⟨by rw [← HP2.out]; simp⟩
          clear HP HST hz
          generalize ofR (r : Int) = o at X hzb
          have hfp : f ≤ pos := HFP.out.1
          have hps : pos ≤ s.size := HFP.out.2
          gi_wp2_with (refine ⟨trivial, ?_⟩; gi_at_call 44; refine (X.out).mono ?_; rintro e w3 ⟨rfl, hb3⟩; have HJ3 := Hd.mk (HJ.out pre w2 w3 none HJ2.out (grown_below hb3) (fun r e => by cases e)); have hc3 := (hb3.cell (p := ⟨Bn, 0, none⟩) (World.block_lt_of_cell? w2 _ HC2.out)).trans HC2.out; have HI3 := Hd.mk ((hb3.block _ HSZ2.out).trans HI2.out); have HSZ3 := Hd.mk (Nat.lt_of_lt_of_le HSZ2.out hb3.size); clear hb3; obtain ⟨fn, tmps, assign, body, hy, hR⟩ := HY.out pre (f, s.extract f pos) w3 HJ3.out HPL.out ⟨_, HP2.out⟩; dsimp only [encE] at hy; have HRR := Hd.mk hR; clear hR)
          refine (HRR.out).mono ?_
          rintro e w4 (⟨rfl, hJ4, hk4⟩ | ⟨rfl, hJx4⟩)
          · have HJ4 := Hd.mk hJ4
            have HC4 := Hd.mk ((World.cell?_of_block (a := ⟨Bn, 0, none⟩) hk4.1).trans hc3)
            have HI4 := Hd.mk (hk4.2.same W.heap.size _ HI3.out rfl)
            have HSZ4 := Hd.mk (Nat.lt_of_lt_of_le HSZ3.out hk4.2.size)
            clear hJ4 hk4 hc3 hy HRR
            gi_wp2
            go_roundw
            case rel => exact ⟨pos, pos + k, pre ++ [(f, s.extract f pos)], rfl, HI4.out, HC4, HP2, HJ4, ⟨Nat.le_add_right _ _, HWN.out.2⟩, HSZ4.out⟩
            case measure => rw [iterLeft_eq HI4.out, HLE.out]; have := HWN.out; omega
          · have HJ4 := Hd.mk hJx4
            clear hJx4 hc3 hy HRR
            gi_wp2
            refine bodyPost_ret (results_none rfl _ _ _) rfl ?_
            exact ⟨⟨_, rfl⟩, .inr ⟨pre ++ [(f, s.extract f pos)], ⟨_, HP2.out⟩, HJ4.out⟩⟩
    · have hnx : ∀ ty, (Instr.next (.pointer (some ⟨W.heap.size, 0, none⟩)) true ty).run Tryd.prog wr = _ := fun ty => Lib.run_next_end_at wr W.heap.size s pos ty hit hlt
      have hst := eachF_step s f pos
      rw [if_neg hlt] at hst
      have HST := Hd.mk hst
      have hc3 := HC.out
      have hfs : f ≤ s.size := by have := HFP.out; omega
      clear hit hst hlt
      by_cases hf : f < s.size
      · have hfb : decide ((f : Int) < (s.size : Int)) = true := decide_eq_true (by omega)
        have hfn : decide (f < s.size) = true := decide_eq_true hf
        rw [if_pos hf] at HST
        have HP2 : Hd (pre ++ [(f, s.extract f s.size)] = eachL s) := ⟨by rw [← HST.out]; exact HP.out⟩
        have HPL : Hd (pre.length < (eachL s).length) := ⟨by rw [← HP2.out]; simp⟩
        obtain ⟨fn, tmps, assign, body, hy, hR⟩ := HY.out pre (f, s.extract f s.size) wr HJP.out HPL.out ⟨[], by rw [List.append_nil]; exact HP2.out⟩
        dsimp only [encE] at hy
        have HRR := Hd.mk hR
        clear hR HP HST hf
        gi_wp2
        refine (HRR.out).mono ?_
        rintro e w4 (⟨rfl, hJ4, hk4⟩ | ⟨rfl, hJx4⟩)
        · have HJ4 := Hd.mk hJ4
          clear hJ4 hk4 hc3 hy HRR
          gi_wp2
          go_end0
          exact ⟨⟨_, rfl⟩, .inl ⟨_, HP2.out, HJ4.out⟩⟩
        · have HJ4 := Hd.mk hJx4
          clear hJx4 hc3 hy HRR
          gi_wp2
          go_end0
          exact ⟨⟨_, rfl⟩, .inr ⟨pre ++ [(f, s.extract f s.size)], ⟨[], by rw [List.append_nil]; exact HP2.out⟩, HJ4.out⟩⟩
      · have hfb : decide ((f : Int) < (s.size : Int)) = false := decide_eq_false (by omega)
        have hfn : decide (f < s.size) = false := decide_eq_false hf
        rw [if_neg hf] at HST
        have HP2 : Hd (pre = eachL s) := ⟨by have h1 := HP.out; rw [HST.out, List.append_nil] at h1; exact h1⟩
        clear HP HST hf
        gi_wp2
        go_end0
        exact ⟨⟨_, rfl⟩, .inl ⟨pre, HP2.out, HJP.out⟩⟩
set_option maxHeartbeats 1000000 in
theorem each_in (n : Nat) (s : ByteArray) (w : World) :
    CallsIn Fence.wide n Tryd.prog 25 #[.string s] w fun e w' => e = .returned (.func (.func 43) #[] #[.pointer (some ⟨w.heap.size, 0, none⟩)]) ∧ w' = w.alloc (.cells #[.string s] 9) := by
  refine callsIn_of_wp Tryd.func25 rfl trivial ?_ rfl
  simp only [Tryd.ntmps25, List.size_toArray, List.length_cons, List.length_nil, Nat.reduceAdd, Nat.reduceSub, Array.replicate_succ, Array.replicate_zero, List.push_toArray, List.append_toArray, List.nil_append, List.cons_append]
  gi_wp2
  go_ret
  exact ⟨rfl, rfl⟩
theorem each_stops (n : Nat) (hn : 1 ≤ n) (Bn : Nat) (s : ByteArray) (hs : s.size ≤ 9223372036854775807) (w : World) (hBn : Bn < w.heap.size) (hc : w.cell? ⟨Bn, 0, none⟩ = some (.string s)) :
    SeqStopsK Fence.wide n Tryd.prog 43 #[.pointer (some ⟨Bn, 0, none⟩)] encE (KpE Bn) (fun ys => ys = eachL s) (fun pre => pre <+: eachL s) (eachL s).length w := fun l J Jx W hW hJ hJx hY h0 =>
  each1_in n hn l Bn s hs J Jx W (Nat.lt_of_lt_of_le hBn hW.size) hJ hJx (fun pre x W1 h1 h2 _ => hY pre x W1 h1 h2) ((hW.cell (p := ⟨Bn, 0, none⟩) hBn).trans hc) h0
abbrev Clu (s : ByteArray) : Type := { x : Nat × ByteArray // x ∈ eachL s }
def encC (s : ByteArray) (x : Clu s) : Array Value := encE x.1
def valC (s : ByteArray) (l : List (Clu s)) : List (Nat × ByteArray) := l.map (·.1)
theorem each_mem (n : Nat) (hn : 1 ≤ n) (Bn : Nat) (s : ByteArray) (hs : s.size ≤ 9223372036854775807) (w : World) (hBn : Bn < w.heap.size) (hc : w.cell? ⟨Bn, 0, none⟩ = some (.string s)) :
    SeqStopsK Fence.wide n Tryd.prog 43 #[.pointer (some ⟨Bn, 0, none⟩)] (encC s) (KpE Bn) (fun ys => valC s ys = eachL s) (fun pre => valC s pre <+: eachL s) (eachL s).length w := fun l J Jx W hW hJ hJx hY h0 =>
  CallsIn.mono (each1_in n hn l Bn s hs (fun pre W => ∃ p, valC s p = pre ∧ J p W) (fun pre W => ∃ p, valC s p = pre ∧ Jx p W) W (Nat.lt_of_lt_of_le hBn hW.size)
    (fun pre A B row h hg hr => by obtain ⟨p, e, hp⟩ := h; exact ⟨p, e, hJ p A B row hp hg hr⟩)
    (fun pre A B row h hg hr => by obtain ⟨p, e, hp⟩ := h; exact ⟨p, e, hJx p A B row hp hg hr⟩)
    (fun pre x W1 h1 h2 h3 => by
      obtain ⟨p, rfl, hp⟩ := h1
      have hx : x ∈ eachL s := h3.subset (by simp)
      obtain ⟨fn, tmps, assign, body, hy, hR⟩ := hY p ⟨x, hx⟩ W1 hp (by unfold valC at h2; rw [List.length_map] at h2; exact h2)
      refine ⟨fn, tmps, assign, body, hy, RoundIn.mono hR (fun e W' h => ?_)⟩
      rcases h with ⟨h1, h2, h3⟩ | ⟨h1, h2⟩
      · exact .inl ⟨h1, ⟨p ++ [⟨x, hx⟩], by unfold valC; rw [List.map_append]; rfl, h2⟩, h3⟩
      · exact .inr ⟨h1, ⟨p ++ [⟨x, hx⟩], by unfold valC; rw [List.map_append]; rfl, h2⟩⟩)
    ((hW.cell (p := ⟨Bn, 0, none⟩) hBn).trans hc) ⟨[], rfl, h0⟩) (fun e W' h => by
      obtain ⟨hv, h | h⟩ := h
      · obtain ⟨xs, rfl, p, e, hp⟩ := h
        exact ⟨hv, .inl ⟨p, e, hp⟩⟩
      · obtain ⟨pre, hpre, p, rfl, hp⟩ := h
        exact ⟨hv, .inr ⟨p, hpre, hp⟩⟩)
theorem KpE.b {Bn : Nat} {w : World} (h : Bn < w.heap.size) (W : World) (l : Nat) (o o' : Obj) (hl : w.heap.size ≤ l) (ho : W.heap[l]? = some o) (hc : o.isCells = false) (hw : o.isWalk = false) : KpE Bn W (W.putObj l o') :=
  ⟨World.putObj_heap_other (by omega), walksK_b W l o o' hl ho hc hw⟩
def atsL (pre : List (Nat × ByteArray)) : List Nat := pre.map (·.1)
theorem atsL_snoc (pre : List (Nat × ByteArray)) (x : Nat × ByteArray) : atsL (pre ++ [x]) = atsL pre ++ [x.1] := by simp [atsL]
theorem atsL_len (pre : List (Nat × ByteArray)) : (atsL pre).length = pre.length := by simp [atsL]
def boundsL (s : ByteArray) : List Nat := atsL (eachL s) ++ [s.size]
def natCells (l : List Nat) : List Value := l.map fun (k : Nat) => Value.int .i64 (k : Int)
theorem info3n : (Tryd.prog.info? 3).map (fun i => (i.zero, i.size, i.bytes)) = some (some (.int .i64 0), 1, 8) := by kernel_rfl
theorem eachG_len (s : ByteArray) : ∀ (n f pos : Nat), (eachG s n f pos).length ≤ n
  | 0, _, _ => by simp [eachG]
  | n + 1, f, pos => by
    unfold eachG
    split
    · split
      · exact Nat.le_succ_of_le (eachG_len s n f _)
      · simp only [List.length_cons]; exact Nat.succ_le_succ (eachG_len s n pos _)
    · split <;> simp
set_option maxRecDepth 100000 in
set_option maxHeartbeats 2000000 in
theorem bounds_calls (s : ByteArray) (hs : s.size ≤ 1099511627776) (w : World) :
    Calls Tryd.prog 45 #[.string s] w fun e W' => ∃ v, e = .returned v ∧ W'.ownsRow w.heap.size 3 1 v (boundsL s).length (natCells (boundsL s)) ∧ Below w.heap.size w W' := by
  obtain ⟨i0, hi, hz0, hz1, hz2⟩ := info_parts info3n
  have hlen : (eachL s).length ≤ s.size + 1 := eachG_len s _ _ _
  refine (callsIn_wide (n := 5)).1 ?_
  refine callsIn_of_wp_marks Tryd.func45 rfl trivial ?_ rfl
  simp only [Tryd.ntmps45, List.size_toArray, List.length_cons, List.length_nil, Nat.reduceAdd, Nat.reduceSub, Array.replicate_succ, Array.replicate_zero, List.push_toArray, List.append_toArray, List.nil_append, List.cons_append]
  gi_wp2_with (refine ⟨trivial, ?_⟩; gi_at_call 25; refine (each_in _ s _).mono ?_; rintro e w' ⟨rfl, rfl⟩)
  have bO := Boxed.new w 87 (.slice none 0 0)
  have bN := Boxed.new (w.alloc (.cells #[.slice none 0 0] 87)) 9 (.string s)
  rw [World.size_alloc] at bN
  have hB0 : Below w.heap.size w ((w.alloc (.cells #[.slice none 0 0] 87)).alloc (.cells #[.string s] 9)) := ((Below.refl _ w).alloc (Nat.le_refl _) _).alloc (by simp) _
  refine wpIn_rangeFunc_ownF rfl (by decide) (gf := 43) (lb := #[.pointer (some ⟨w.heap.size + 1, 0, none⟩)]) rfl trivial (enters_of Tryd.func43 (by kernel_rfl) rfl)
    (each_stops 4 (by decide) (w.heap.size + 1) s (by omega) _ (by simp) bN.cell) KpE.t (KpE.b (by simp)) (Below.refl _ _) (fun _ => rfl)
    (fun pre W => (∃ v, Boxed W w.heap.size 87 v ∧ W.ownsRow w.heap.size 3 1 v (atsL pre).length (natCells (atsL pre)) ∧ True) ∧ Boxed W (w.heap.size + 1) 9 (.string s) ∧ Below w.heap.size w W)
    (fun _ _ _ => False)
    (OwnFrom.and (Own.from (holdsRow_own w.heap.size w.heap.size 87 3 1 (fun pre => (atsL pre).length) (fun pre => natCells (atsL pre)) (fun pre v => True)) _) (OwnFrom.and (Own.from (boxed_own _ _ _) _) (ownFrom_below (Nat.le_refl _) (by simp; omega))))
    (fun _ _ _ _ _ hs _ _ => hs)
    ⟨⟨_, bO.alloc _, World.ownsRow_nil _ _ _ _, trivial⟩, bN, hB0⟩
    (fun x => { tmps := #[.string s, undef, .slice none 0 0, .pointer (some ⟨w.heap.size, 0, none⟩), .int .i64 x.1, .string s, .func (.func 43) #[] #[.pointer (some ⟨w.heap.size + 1, 0, none⟩)], .int .i64 x.1, .string x.2, undef, undef, undef, undef, undef, undef, undef, undef, undef], defers := [] }) ?assign ?body ?done ?stop
  case assign =>
    intro l x W K hK
    dsimp only [encE]
    gi_wp2
    exact hK
  case body =>
    rintro l pre x W ⟨⟨v, hv, hrow, _⟩, hN, hB⟩ hlt
    have hc := hv.cell
    have hpl : (atsL pre).length ≤ s.size + 1 := by rw [atsL_len]; omega
    have hsn := Hd.mk (atsL_snoc pre x)
    gi_wp2_with (gi_at_builtin; refine wpListIn_append_own _ rfl _ _ 87 rfl w.heap.size 3 i0 (.int .i64 0) 1 8 Tryd.underlying87 hi hz0 hz1 hz2 rfl (by decide) _ _ _ rfl (hrow.alloc _) ⟨W.heap.size, 0, none⟩ 1 1 [.int .i64 x.1] rfl rfl (cell_one_new _ _ _) (by simp [Value.oneCell']) (by unfold maxLen; omega) (by omega) (by have := hB.size; simp; omega) ?_; intro v' w1 hown' hgrow _; obtain ⟨g', cap', rfl⟩ := ownsRow_succ hown'; obtain ⟨hv1, hv2, hr2, hk2, hb2⟩ := hv.appended (by decide) hrow hB.size (Nat.le_refl _) hown' hgrow; have hc1 := hv1.cell; have hf1 := hv1.frozen)
    have hN1 : Boxed w1 (w.heap.size + 1) 9 (.string s) := (hN.alloc _).kept hgrow (hN.not_row (by decide) hrow)
    have hN2 := hN1.other (B' := w.heap.size) (by omega) (.slice (some ⟨g', 0, none⟩) ((atsL pre).length + 1) cap')
    refine ⟨hk2, ⟨hN2.trans (show W.heap[w.heap.size + 1]? = _ from hN).symm, hk2.walks⟩, ⟨_, hv2, ?_, trivial⟩, hN2, hB.trans hb2⟩
    rw [hsn.out, List.length_append]
    simpa [natCells] using hr2
  case done =>
    rintro D ys W hD rfl ⟨⟨v, hv, hrow, _⟩, hN, hB⟩ hK
    have hc := hv.cell
    have hpl : (atsL (eachL s)).length ≤ s.size + 1 := by rw [atsL_len]; exact hlen
    have hBS := Hd.mk (show boundsL s = atsL (eachL s) ++ [s.size] from rfl)
    gi_wp2_with (gi_at_builtin; refine wpListIn_append_own _ rfl _ _ 87 rfl w.heap.size 3 i0 (.int .i64 0) 1 8 Tryd.underlying87 hi hz0 hz1 hz2 rfl (by decide) _ _ _ rfl (hrow.alloc _) ⟨W.heap.size, 0, none⟩ 1 1 [.int .i64 (s.size : Int)] rfl rfl (cell_one_new _ _ _) (by simp [Value.oneCell']) (by unfold maxLen; omega) (by omega) (by have := hB.size; simp; omega) ?_; intro v' w1 hown' hgrow _; obtain ⟨g', cap', rfl⟩ := ownsRow_succ hown'; obtain ⟨hv1, hv2, hr2, hk2, hb2⟩ := hv.appended (by decide) hrow hB.size (Nat.le_refl _) hown' hgrow)
    have hg' : (W.alloc (.cells #[.int .i64 (s.size : Int)] 3)).grownBy w1 v.ownBlock := hgrow
    have hne : v.ownBlock ≠ some D := own_ne hrow hK rfl
    have hK1 : w1.heap[D]? = some (.deferred (some [])) := (hg'.block D (by have := (Array.getElem?_eq_some_iff.1 hK).1; simp; omega) (fun e => hne e.symm)).trans (heap_old hK _)
    have hb3 : Below w.heap.size w w1 := (hB.alloc hB.size _).grown hg' (by have := hB.size; simp; omega) (fun g e => (hrow.lt g e).1)
    have hbn : boundsL s = atsL (eachL s) ++ [s.size] := hBS.out
    refine ⟨by simp, .inl ⟨_, _, rfl, run_takeDeferred hK1, ?_⟩⟩
    refine ⟨_, results_tmp rfl _ _ _, _, rfl, ?_, hb3.trans (belowK_b (w := w) (Nat.le_refl _) w1 D _ _ (by simp at hD; omega) hK1 rfl rfl)⟩
    rw [hbn, List.length_append]
    refine ownsRow_putObj ?_ _ hK1 rfl
    simpa [natCells] using hown'
  case stop =>
    rintro D c pre W _ _ h _
    exact h.elim
end Go.Proofs.YtledplnlcjfafaaDoorL

