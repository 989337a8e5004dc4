/- Parts of the proof of the law that the last file states; declarations that nothing mentions are left out by a program. No conditions. -/
import Derived.Test.YtledplnlcjfafaaDoorLPaW2q
set_option linter.unusedVariables false
set_option linter.unusedSimpArgs false
namespace Go.Proofs.YtledplnlcjfafaaDoorL
open Go Go.RowKit Go.Proofs.YtledplnlcjfafaaDoorW.PrintWords
def linesP (fr lr : List (List TC)) : Nat → Nat → Pt → Pt
  | 0, _, p => p
  | d + 1, k, p => linesP fr lr d (k + 1) (if 0 ≤ differP (rowOf fr k) (rowOf lr k) then (p.to k).say (lineB (differP (rowOf fr k) (rowOf lr k)).toNat (rowOf fr k) (rowOf lr k)) else p)
def Pt.drawn (p : Pt) (f : Fm) : Pt := { (((linesP f.rows p.last.rows (max f.rows.length p.last.rows.length) 0 p).to f.row).say (colB f.col)) with last := f, is := true }
def Pt.draw (p : Pt) (f : Fm) : Pt := if f.rows.length = 0 ∨ (p.is = true ∧ f = p.last) then p else p.drawn f
theorem Pt.to_le (p : Pt) (k : Nat) : p.b.length ≤ (p.to k).b.length := by
  show p.b.length ≤ (p.b ++ toB p k).length
  rw [List.length_append]; omega
theorem Pt.say_le (p : Pt) (l : List UInt8) : p.b.length ≤ (p.say l).b.length := by rw [Pt.say_b, List.length_append]; omega
theorem linesP_le (fr lr : List (List TC)) : ∀ d k p, p.b.length ≤ (linesP fr lr d k p).b.length
  | 0, _, p => Nat.le_refl _
  | d + 1, k, p => by
    unfold linesP
    refine Nat.le_trans ?_ (linesP_le fr lr d (k + 1) _)
    split
    · exact Nat.le_trans (p.to_le k) (Pt.say_le _ _)
    · exact Nat.le_refl _
def HiOK (M : Nat) (p : Pt) : Prop := 1 ≤ p.high ∧ p.high ≤ M + 1 ∧ p.row ≤ M
theorem HiOK.to {M : Nat} {p : Pt} (h : HiOK M p) {k : Nat} (hk : k ≤ M) : HiOK M (p.to k) := by
  obtain ⟨h1, h2, h3⟩ := h
  refine ⟨?_, ?_, hk⟩
  · show 1 ≤ p.high + (k - innP p k); omega
  · show p.high + (k - innP p k) ≤ M + 1; unfold innP; omega
theorem HiOK.say {M : Nat} {p : Pt} (h : HiOK M p) (l : List UInt8) : HiOK M (p.say l) := h
theorem diffG_lt (a b : List TC) : ∀ d k, diffG a b d k < (k : Int) + d
  | 0, k => by unfold diffG; omega
  | d + 1, k => by
    unfold diffG
    split
    · have := diffG_lt a b d (k + 1); omega
    · split <;> omega
theorem differP_lt (a b : List TC) : differP a b < (max a.length b.length : Nat) ∨ differP a b < 0 := by
  have := diffG_lt a b (max a.length b.length) 0
  unfold differP
  omega
theorem rowOf_len {m : List (List TC)} {M : Nat} (h : ∀ x ∈ m, x.length ≤ M) (k : Nat) : (rowOf m k).length ≤ M := by
  by_cases hk : k < m.length
  · rw [rowOf_get hk]; exact h _ (List.getElem_mem hk)
  · rw [rowOf_out (by omega)]; exact Nat.zero_le _
theorem PtO.last_ {B g : Nat} {w : World} {p : Pt} {lv bv lv' : Value} {L L' : List RR} (h : PtO B w g p lv bv L) (f : Fm) (hr : RowsO (fun _ => True) w lv' L' f.rows) :
    PtO B ((w.setCells g 0 [lv', .int .i64 (f.row : Int), .int .i64 (f.col : Int)]).setCell ⟨g, 3, none⟩ (.bool true)) g { p with last := f, is := true } lv' bv L' ∧ Pf B g w ((w.setCells g 0 [lv', .int .i64 (f.row : Int), .int .i64 (f.col : Int)]).setCell ⟨g, 3, none⟩ (.bool true)) := by
  have b1 := h.b.set_ 0 lv'
  have f1 : Pf B g w (w.setCell ⟨g, 0, none⟩ lv') := Pf.set_ h.b 0 lv'
  have b2 := b1.set_ 1 (.int .i64 (f.row : Int))
  have f2 := f1.trans (Pf.set_ (B := B) b1 1 (.int .i64 (f.row : Int)))
  have b3 := b2.set_ 2 (.int .i64 (f.col : Int))
  have f3 := f2.trans (Pf.set_ (B := B) b2 2 (.int .i64 (f.col : Int)))
  have b4 := b3.set_ 3 (.bool true)
  have f4 := f3.trans (Pf.set_ (B := B) b3 3 (.bool true))
  have hne := h.q.ne h.b (by decide)
  have kp : ∀ k, bv.ownBlock = some k → ((((w.setCell ⟨g, 0, none⟩ lv').setCell ⟨g, 1, none⟩ (.int .i64 (f.row : Int))).setCell ⟨g, 2, none⟩ (.int .i64 (f.col : Int))).setCell ⟨g, 3, none⟩ (.bool true)).heap[k]? = w.heap[k]? := fun k hk => by
    have hkg : ∀ i, k ≠ (⟨g, i, none⟩ : Addr).block := fun i e => hne (by rw [hk, show k = g from e])
    rw [Below.heap_setCell _ ⟨g, 3, none⟩ _ k (hkg 3), Below.heap_setCell _ ⟨g, 2, none⟩ _ k (hkg 2), Below.heap_setCell _ ⟨g, 1, none⟩ _ k (hkg 1), Below.heap_setCell _ ⟨g, 0, none⟩ _ k (hkg 0)]
  exact ⟨⟨b4, h.q.to kp, hr.pf f4, h.t, f4.tab h.t h.tab⟩, f4⟩
set_option maxRecDepth 100000 in
set_option maxHeartbeats 4000000 in
theorem pdraw_calls {B g : Nat} {w : World} {p : Pt} {lv bv lvf : Value} {L Lf : List RR} {f : Fm} {P : Nat → Prop} (h : PtO B w g p lv bv L) (hf : RowsO P w lvf Lf f.rows) (hB : B ≤ w.heap.size) (hi : HiOK 1000 p) (hfr : f.row ≤ 1000 ∧ f.col ≤ 1000)
    (hl1 : ∀ x ∈ f.rows, 1 ≤ x.length ∧ x.length ≤ 1000) (hl2 : ∀ x ∈ p.last.rows, x.length ≤ 1000) (hm1 : f.rows.length ≤ 1000) (hm2 : p.last.rows.length ≤ 1000) (hn : (p.draw f).b.length ≤ 1099511627776) :
    Calls Tryd.prog 17 #[.pointer (some ⟨g, 0, none⟩), .agg #[lvf, .int .i64 (f.row : Int), .int .i64 (f.col : Int)]] w fun e w' => e = .returned (.tuple #[]) ∧ ∃ lv' bv' L', PtO B w' g (p.draw f) lv' bv' L' ∧ Pf B g w w' := by
  have e1 := hf.len
  have e2 := h.r.len
  obtain ⟨Af, cf, rfl, _⟩ := Kd.Q_slice hf.q
  obtain ⟨A, c, rfl, _⟩ := Kd.Q_slice h.r.q
  rw [e1] at hf ⊢
  rw [e2] at h
  clear e1 e2
  have HN := Hd.mk hn
  have HBS := Hd.mk hB
  have HI := Hd.mk hi
  have HFR := Hd.mk hfr
  have HLL := Hd.mk (And.intro hl1 hl2)
  have HP0 := Hd.mk hf
  have HBX := Hd.mk (Blk.new w 38 #[.slice Af f.rows.length cf, .int .i64 (f.row : Int), .int .i64 (f.col : Int)])
  have HF : Hd (Pf B g w (w.alloc (.cells #[.slice Af f.rows.length cf, .int .i64 (f.row : Int), .int .i64 (f.col : Int)] 38))) := ⟨(Pf.refl B g w).alloc _⟩
  have H : Hd (PtO B (w.alloc (.cells #[.slice Af f.rows.length cf, .int .i64 (f.row : Int), .int .i64 (f.col : Int)] 38)) g p (.slice A p.last.rows.length c) bv L) := ⟨h.below ((Below.refl _ w).alloc (Nat.le_refl _) _)⟩
  have hy1 : (f.rows.length : Int) ≤ 1000 := by omega
  have hy2 : (p.last.rows.length : Int) ≤ 1000 := by omega
  have hy3 : (f.row : Int) ≤ 1000 := by omega
  have hy4 : (f.col : Int) ≤ 1000 := by omega
  clear h hf hn hB hi hl1 hl2 hm1 hm2 hfr
  by_cases hz : f.rows.length = 0
  · have HE : Hd (p.draw f = p) := ⟨by unfold Pt.draw; rw [if_pos (.inl hz)]⟩
    rw [HE.out]
    have z0 : decide ((f.rows.length : Int) = 0) = true := decide_eq_true (by omega)
    have z1 : ((f.rows.length : Int) == 0) = true := by simp [hz]
    have HZ := Hd.mk hz
    clear hz HN
    go_enter Tryd.func17, Tryd.ntmps17
    go_upto_region 1 with fail
    rename_i KQ hKQ
    refine regionH (fun w' : World => Blk w' w.heap.size 38 #[.slice Af f.rows.length cf, .int .i64 (f.row : Int), .int .i64 (f.col : Int)] ∧ PtO B w' g p (.slice A p.last.rows.length c) bv L ∧ Pf B g w w') (by kernel_rfl) (fun wd hb => ?_)
    have hHd : (fun w' : World => Blk w' w.heap.size 38 #[.slice Af f.rows.length cf, .int .i64 (f.row : Int), .int .i64 (f.col : Int)] ∧ PtO B w' g p (.slice A p.last.rows.length c) bv L ∧ Pf B g w w') wd := ⟨HBX.out.belowW hb, H.out.below hb, HF.out.below hb⟩
    clear hb
    refine takeH (i := 0) (v := ?v1) rfl (by kernel_rfl) (by kernel_rfl) (by kernel_rfl) (fun _ _ _ h => h) (Or.inl ⟨by rfl, ?hy1⟩) (by assumption) ?rest1
    case hy1 => (intro w hSw; (try dsimp only at hSw); obtain ⟨hB1, hP, _⟩ := hSw; have c0 := hB1.cell 0 rfl; have c1 := hB1.cell 1 rfl; have c2 := hB1.cell 2 rfl; have d0 : w.cell? ⟨g, 0, none⟩ = some (.slice A p.last.rows.length c) := hP.b.cell 0 rfl; have d1 : w.cell? ⟨g, 1, none⟩ = some (.int .i64 (p.last.row : Int)) := hP.b.cell 1 rfl; have d2 : w.cell? ⟨g, 2, none⟩ = some (.int .i64 (p.last.col : Int)) := hP.b.cell 2 rfl; have d3 := hP.b.cell 3 rfl; go_simp; first | done | (with_reducible rfl) | rfl)
    case rest1 =>
    try simp only [Act.put, List.setIfInBounds_toArray, List.set_cons_zero, List.set_cons_succ]
    refine takeH (i := 1) (v := ?v2) rfl (by kernel_rfl) (by kernel_rfl) (by kernel_rfl) (fun _ _ _ h => h) (Or.inl ⟨by rfl, ?hy2⟩) (by assumption) ?rest2
    case hy2 => (intro w hSw; (try dsimp only at hSw); obtain ⟨hB1, hP, _⟩ := hSw; have c0 := hB1.cell 0 rfl; have c1 := hB1.cell 1 rfl; have c2 := hB1.cell 2 rfl; have d0 : w.cell? ⟨g, 0, none⟩ = some (.slice A p.last.rows.length c) := hP.b.cell 0 rfl; have d1 : w.cell? ⟨g, 1, none⟩ = some (.int .i64 (p.last.row : Int)) := hP.b.cell 1 rfl; have d2 : w.cell? ⟨g, 2, none⟩ = some (.int .i64 (p.last.col : Int)) := hP.b.cell 2 rfl; have d3 := hP.b.cell 3 rfl; go_simp; first | done | (with_reducible rfl) | rfl)
    case rest2 =>
    try simp only [Act.put, List.setIfInBounds_toArray, List.set_cons_zero, List.set_cons_succ]
    refine takeH (i := 2) (v := ?v3) rfl (by kernel_rfl) (by kernel_rfl) (by kernel_rfl) (fun _ _ _ h => h) (Or.inl ⟨by rfl, ?hy3⟩) (by assumption) ?rest3
    case hy3 => (intro w hSw; (try dsimp only at hSw); obtain ⟨hB1, hP, _⟩ := hSw; have c0 := hB1.cell 0 rfl; have c1 := hB1.cell 1 rfl; have c2 := hB1.cell 2 rfl; have d0 : w.cell? ⟨g, 0, none⟩ = some (.slice A p.last.rows.length c) := hP.b.cell 0 rfl; have d1 : w.cell? ⟨g, 1, none⟩ = some (.int .i64 (p.last.row : Int)) := hP.b.cell 1 rfl; have d2 : w.cell? ⟨g, 2, none⟩ = some (.int .i64 (p.last.col : Int)) := hP.b.cell 2 rfl; have d3 := hP.b.cell 3 rfl; go_simp; first | done | (with_reducible rfl) | rfl)
    case rest3 =>
    try simp only [Act.put, List.setIfInBounds_toArray, List.set_cons_zero, List.set_cons_succ]
    refine takeH (i := 3) (v := (.bool true)) rfl (by kernel_rfl) (by kernel_rfl) (by kernel_rfl) (fun _ _ _ h => h) (Or.inl ⟨by rfl, ?hy4⟩) (by assumption) ?rest4
    case hy4 => (intro w hSw; (try dsimp only at hSw); obtain ⟨hB1, hP, _⟩ := hSw; have c0 := hB1.cell 0 rfl; have c1 := hB1.cell 1 rfl; have c2 := hB1.cell 2 rfl; have d0 : w.cell? ⟨g, 0, none⟩ = some (.slice A p.last.rows.length c) := hP.b.cell 0 rfl; have d1 : w.cell? ⟨g, 1, none⟩ = some (.int .i64 (p.last.row : Int)) := hP.b.cell 1 rfl; have d2 : w.cell? ⟨g, 2, none⟩ = some (.int .i64 (p.last.col : Int)) := hP.b.cell 2 rfl; have d3 := hP.b.cell 3 rfl; go_simp; first | done | (with_reducible rfl) | rfl)
    case rest4 =>
    try simp only [Act.put, List.setIfInBounds_toArray, List.set_cons_zero, List.set_cons_succ]
    refine takeH (i := 4) (v := ?v5) rfl (by kernel_rfl) (by kernel_rfl) (by kernel_rfl) (fun _ _ _ h => h) (Or.inl ⟨by rfl, ?hy5⟩) (by assumption) ?rest5
    case hy5 => (intro w hSw; (try dsimp only at hSw); obtain ⟨hB1, hP, _⟩ := hSw; have c0 := hB1.cell 0 rfl; have c1 := hB1.cell 1 rfl; have c2 := hB1.cell 2 rfl; have d0 : w.cell? ⟨g, 0, none⟩ = some (.slice A p.last.rows.length c) := hP.b.cell 0 rfl; have d1 : w.cell? ⟨g, 1, none⟩ = some (.int .i64 (p.last.row : Int)) := hP.b.cell 1 rfl; have d2 : w.cell? ⟨g, 2, none⟩ = some (.int .i64 (p.last.col : Int)) := hP.b.cell 2 rfl; have d3 := hP.b.cell 3 rfl; go_simp; first | done | (with_reducible rfl) | rfl)
    case rest5 =>
    try simp only [Act.put, List.setIfInBounds_toArray, List.set_cons_zero, List.set_cons_succ]
    refine takeH (i := 5) (v := undef) rfl (by kernel_rfl) (by kernel_rfl) (by kernel_rfl) (fun _ _ _ h => h) (Or.inr ⟨by rfl, by rfl⟩) (by assumption) ?rest6
    case rest6 =>
    try simp only [Act.put, List.setIfInBounds_toArray, List.set_cons_zero, List.set_cons_succ]
    refine takeH (i := 6) (v := undef) rfl (by kernel_rfl) (by kernel_rfl) (by kernel_rfl) (fun _ _ _ h => h) (Or.inr ⟨by rfl, by rfl⟩) (by assumption) ?rest7
    case rest7 =>
    try simp only [Act.put, List.setIfInBounds_toArray, List.set_cons_zero, List.set_cons_succ]
    refine takeH (i := 7) (v := undef) rfl (by kernel_rfl) (by kernel_rfl) (by kernel_rfl) (fun _ _ _ h => h) (Or.inr ⟨by rfl, by rfl⟩) (by assumption) ?rest8
    case rest8 =>
    try simp only [Act.put, List.setIfInBounds_toArray, List.set_cons_zero, List.set_cons_succ]
    refine takeH (i := 8) (v := undef) rfl (by kernel_rfl) (by kernel_rfl) (by kernel_rfl) (fun _ _ _ h => h) (Or.inr ⟨by rfl, by rfl⟩) (by assumption) ?rest9
    case rest9 =>
    try simp only [Act.put, List.setIfInBounds_toArray, List.set_cons_zero, List.set_cons_succ]
    refine takeH (i := 9) (v := undef) rfl (by kernel_rfl) (by kernel_rfl) (by kernel_rfl) (fun _ _ _ h => h) (Or.inr ⟨by rfl, by rfl⟩) (by assumption) ?rest10
    case rest10 =>
    try simp only [Act.put, List.setIfInBounds_toArray, List.set_cons_zero, List.set_cons_succ]
    refine takeH (i := 10) (v := undef) rfl (by kernel_rfl) (by kernel_rfl) (by kernel_rfl) (fun _ _ _ h => h) (Or.inr ⟨by rfl, by rfl⟩) (by assumption) ?rest11
    case rest11 =>
    try simp only [Act.put, List.setIfInBounds_toArray, List.set_cons_zero, List.set_cons_succ]
    refine takeH (i := 11) (v := undef) rfl (by kernel_rfl) (by kernel_rfl) (by kernel_rfl) (fun _ _ _ h => h) (Or.inr ⟨by rfl, by rfl⟩) (by assumption) ?rest12
    case rest12 =>
    try simp only [Act.put, List.setIfInBounds_toArray, List.set_cons_zero, List.set_cons_succ]
    refine takeH (i := 12) (v := undef) rfl (by kernel_rfl) (by kernel_rfl) (by kernel_rfl) (fun _ _ _ h => h) (Or.inr ⟨by rfl, by rfl⟩) (by assumption) ?rest13
    case rest13 =>
    try simp only [Act.put, List.setIfInBounds_toArray, List.set_cons_zero, List.set_cons_succ]
    refine takeH (i := 13) (v := undef) rfl (by kernel_rfl) (by kernel_rfl) (by kernel_rfl) (fun _ _ _ h => h) (Or.inr ⟨by rfl, by rfl⟩) (by assumption) ?rest14
    case rest14 =>
    try simp only [Act.put, List.setIfInBounds_toArray, List.set_cons_zero, List.set_cons_succ]
    refine takeH (i := 14) (v := undef) rfl (by kernel_rfl) (by kernel_rfl) (by kernel_rfl) (fun _ _ _ h => h) (Or.inr ⟨by rfl, by rfl⟩) (by assumption) ?rest15
    case rest15 =>
    try simp only [Act.put, List.setIfInBounds_toArray, List.set_cons_zero, List.set_cons_succ]
    refine takeH (i := 15) (v := undef) rfl (by kernel_rfl) (by kernel_rfl) (by kernel_rfl) (fun _ _ _ h => h) (Or.inr ⟨by rfl, by rfl⟩) (by assumption) ?rest16
    case rest16 =>
    try simp only [Act.put, List.setIfInBounds_toArray, List.set_cons_zero, List.set_cons_succ]
    refine takeH (i := 16) (v := undef) rfl (by kernel_rfl) (by kernel_rfl) (by kernel_rfl) (fun _ _ _ h => h) (Or.inr ⟨by rfl, by rfl⟩) (by assumption) ?rest17
    case rest17 =>
    try simp only [Act.put, List.setIfInBounds_toArray, List.set_cons_zero, List.set_cons_succ]
    refine takeH (i := 17) (v := ?v18) rfl (by kernel_rfl) (by kernel_rfl) (by kernel_rfl) (fun _ _ _ h => h) (Or.inl ⟨by rfl, ?hy18⟩) (by assumption) ?rest18
    case hy18 => (intro w hSw; (try dsimp only at hSw); obtain ⟨hB1, hP, _⟩ := hSw; have c0 := hB1.cell 0 rfl; have c1 := hB1.cell 1 rfl; have c2 := hB1.cell 2 rfl; have d0 : w.cell? ⟨g, 0, none⟩ = some (.slice A p.last.rows.length c) := hP.b.cell 0 rfl; have d1 : w.cell? ⟨g, 1, none⟩ = some (.int .i64 (p.last.row : Int)) := hP.b.cell 1 rfl; have d2 : w.cell? ⟨g, 2, none⟩ = some (.int .i64 (p.last.col : Int)) := hP.b.cell 2 rfl; have d3 := hP.b.cell 3 rfl; go_simp; first | done | (with_reducible rfl) | rfl)
    case rest18 =>
    try simp only [Act.put, List.setIfInBounds_toArray, List.set_cons_zero, List.set_cons_succ]
    refine wpAnyH_done (by kernel_rfl) ?_ _
    refine hKQ _ _ ?_
    go_wp2
    (try simp only [Exit.inBlock, Exit.then]); refine bodyPost_ret (results_none rfl _ _ _) rfl ?_
    first | exact ⟨rfl, _, _, _, hHd.2.1, hHd.2.2⟩ | exact ⟨rfl, ⟨_, _, _, hHd.2.1⟩, hHd.2.2⟩
  · have z0 : decide ((f.rows.length : Int) = 0) = false := decide_eq_false (by omega)
    have z1 : ((f.rows.length : Int) == 0) = false := beq_eq_false_iff_ne.2 (by omega)
    have z2 : ¬ (f.rows.length : Int) = 0 := by omega
    obtain ⟨n, hn⟩ : ∃ n, max f.rows.length p.last.rows.length = n := ⟨_, rfl⟩
    have hmx1 : max (f.rows.length : Int) (p.last.rows.length : Int) = (n : Int) := by omega
    have hmx2 : (if (f.rows.length : Int) < (p.last.rows.length : Int) then (p.last.rows.length : Int) else (f.rows.length : Int)) = (n : Int) := by split <;> omega
    have hmx3 : (if (f.rows.length : Int) ≤ (p.last.rows.length : Int) then (p.last.rows.length : Int) else (f.rows.length : Int)) = (n : Int) := by split <;> omega
    have hn1 : (n : Int) ≤ 1000 := by omega
    have HMX := Hd.mk hn
    clear hn
    have HZ := Hd.mk hz
    clear hz
    cases hisp : p.is with
    | false =>
      have HIS := Hd.mk hisp
      have HNE : Hd (p.draw f = p.drawn f) := ⟨by unfold Pt.draw; rw [if_neg]; rintro (h | h); exact HZ.out h; rw [HIS.out] at h; cases h.1⟩
      clear hisp
      go_enter Tryd.func17, Tryd.ntmps17
      go_upto_region 1 with fail
      rename_i KQ hKQ
      refine regionH (fun w' : World => Blk w' w.heap.size 38 #[.slice Af f.rows.length cf, .int .i64 (f.row : Int), .int .i64 (f.col : Int)] ∧ PtO B w' g p (.slice A p.last.rows.length c) bv L ∧ Pf B g w w') (by kernel_rfl) (fun wd hb => ?_)
      have hHd : (fun w' : World => Blk w' w.heap.size 38 #[.slice Af f.rows.length cf, .int .i64 (f.row : Int), .int .i64 (f.col : Int)] ∧ PtO B w' g p (.slice A p.last.rows.length c) bv L ∧ Pf B g w w') wd := ⟨HBX.out.belowW hb, H.out.below hb, HF.out.below hb⟩
      clear hb
      clear HBX H HF
      refine takeH (i := 0) (v := ?v19) rfl (by kernel_rfl) (by kernel_rfl) (by kernel_rfl) (fun _ _ _ h => h) (Or.inl ⟨by rfl, ?hy19⟩) (by assumption) ?rest19
      case hy19 => (intro w hSw; (try dsimp only at hSw); obtain ⟨hB1, hP, _⟩ := hSw; have c0 := hB1.cell 0 rfl; have c1 := hB1.cell 1 rfl; have c2 := hB1.cell 2 rfl; have d0 : w.cell? ⟨g, 0, none⟩ = some (.slice A p.last.rows.length c) := hP.b.cell 0 rfl; have d1 : w.cell? ⟨g, 1, none⟩ = some (.int .i64 (p.last.row : Int)) := hP.b.cell 1 rfl; have d2 : w.cell? ⟨g, 2, none⟩ = some (.int .i64 (p.last.col : Int)) := hP.b.cell 2 rfl; have d3 : w.cell? ⟨g, 3, none⟩ = some (.bool false) := (hP.b.cell 3 rfl).trans (congrArg (fun b => some (Value.bool b)) HIS.out); go_simp; first | done | (with_reducible rfl) | rfl)
      case rest19 =>
      try simp only [Act.put, List.setIfInBounds_toArray, List.set_cons_zero, List.set_cons_succ]
      refine takeH (i := 1) (v := ?v20) rfl (by kernel_rfl) (by kernel_rfl) (by kernel_rfl) (fun _ _ _ h => h) (Or.inl ⟨by rfl, ?hy20⟩) (by assumption) ?rest20
      case hy20 => (intro w hSw; (try dsimp only at hSw); obtain ⟨hB1, hP, _⟩ := hSw; have c0 := hB1.cell 0 rfl; have c1 := hB1.cell 1 rfl; have c2 := hB1.cell 2 rfl; have d0 : w.cell? ⟨g, 0, none⟩ = some (.slice A p.last.rows.length c) := hP.b.cell 0 rfl; have d1 : w.cell? ⟨g, 1, none⟩ = some (.int .i64 (p.last.row : Int)) := hP.b.cell 1 rfl; have d2 : w.cell? ⟨g, 2, none⟩ = some (.int .i64 (p.last.col : Int)) := hP.b.cell 2 rfl; have d3 : w.cell? ⟨g, 3, none⟩ = some (.bool false) := (hP.b.cell 3 rfl).trans (congrArg (fun b => some (Value.bool b)) HIS.out); go_simp; first | done | (with_reducible rfl) | rfl)
      case rest20 =>
      try simp only [Act.put, List.setIfInBounds_toArray, List.set_cons_zero, List.set_cons_succ]
      refine takeH (i := 2) (v := ?v21) rfl (by kernel_rfl) (by kernel_rfl) (by kernel_rfl) (fun _ _ _ h => h) (Or.inl ⟨by rfl, ?hy21⟩) (by assumption) ?rest21
      case hy21 => (intro w hSw; (try dsimp only at hSw); obtain ⟨hB1, hP, _⟩ := hSw; have c0 := hB1.cell 0 rfl; have c1 := hB1.cell 1 rfl; have c2 := hB1.cell 2 rfl; have d0 : w.cell? ⟨g, 0, none⟩ = some (.slice A p.last.rows.length c) := hP.b.cell 0 rfl; have d1 : w.cell? ⟨g, 1, none⟩ = some (.int .i64 (p.last.row : Int)) := hP.b.cell 1 rfl; have d2 : w.cell? ⟨g, 2, none⟩ = some (.int .i64 (p.last.col : Int)) := hP.b.cell 2 rfl; have d3 : w.cell? ⟨g, 3, none⟩ = some (.bool false) := (hP.b.cell 3 rfl).trans (congrArg (fun b => some (Value.bool b)) HIS.out); go_simp; first | done | (with_reducible rfl) | rfl)
      case rest21 =>
      try simp only [Act.put, List.setIfInBounds_toArray, List.set_cons_zero, List.set_cons_succ]
      refine takeH (i := 3) (v := (.bool false)) rfl (by kernel_rfl) (by kernel_rfl) (by kernel_rfl) (fun _ _ _ h => h) (Or.inl ⟨by rfl, ?hy22⟩) (by assumption) ?rest22
      case hy22 => (intro w hSw; (try dsimp only at hSw); obtain ⟨hB1, hP, _⟩ := hSw; have c0 := hB1.cell 0 rfl; have c1 := hB1.cell 1 rfl; have c2 := hB1.cell 2 rfl; have d0 : w.cell? ⟨g, 0, none⟩ = some (.slice A p.last.rows.length c) := hP.b.cell 0 rfl; have d1 : w.cell? ⟨g, 1, none⟩ = some (.int .i64 (p.last.row : Int)) := hP.b.cell 1 rfl; have d2 : w.cell? ⟨g, 2, none⟩ = some (.int .i64 (p.last.col : Int)) := hP.b.cell 2 rfl; have d3 : w.cell? ⟨g, 3, none⟩ = some (.bool false) := (hP.b.cell 3 rfl).trans (congrArg (fun b => some (Value.bool b)) HIS.out); go_simp; first | done | (with_reducible rfl) | rfl)
      case rest22 =>
      try simp only [Act.put, List.setIfInBounds_toArray, List.set_cons_zero, List.set_cons_succ]
      refine takeH (i := 4) (v := ?v23) rfl (by kernel_rfl) (by kernel_rfl) (by kernel_rfl) (fun _ _ _ h => h) (Or.inl ⟨by rfl, ?hy23⟩) (by assumption) ?rest23
      case hy23 => (intro w hSw; (try dsimp only at hSw); obtain ⟨hB1, hP, _⟩ := hSw; have c0 := hB1.cell 0 rfl; have c1 := hB1.cell 1 rfl; have c2 := hB1.cell 2 rfl; have d0 : w.cell? ⟨g, 0, none⟩ = some (.slice A p.last.rows.length c) := hP.b.cell 0 rfl; have d1 : w.cell? ⟨g, 1, none⟩ = some (.int .i64 (p.last.row : Int)) := hP.b.cell 1 rfl; have d2 : w.cell? ⟨g, 2, none⟩ = some (.int .i64 (p.last.col : Int)) := hP.b.cell 2 rfl; have d3 : w.cell? ⟨g, 3, none⟩ = some (.bool false) := (hP.b.cell 3 rfl).trans (congrArg (fun b => some (Value.bool b)) HIS.out); go_simp; first | done | (with_reducible rfl) | rfl)
      case rest23 =>
      try simp only [Act.put, List.setIfInBounds_toArray, List.set_cons_zero, List.set_cons_succ]
      refine takeH (i := 5) (v := ?v24) rfl (by kernel_rfl) (by kernel_rfl) (by kernel_rfl) (fun _ _ _ h => h) (Or.inl ⟨by rfl, ?hy24⟩) (by assumption) ?rest24
      case hy24 => (intro w hSw; (try dsimp only at hSw); obtain ⟨hB1, hP, _⟩ := hSw; have c0 := hB1.cell 0 rfl; have c1 := hB1.cell 1 rfl; have c2 := hB1.cell 2 rfl; have d0 : w.cell? ⟨g, 0, none⟩ = some (.slice A p.last.rows.length c) := hP.b.cell 0 rfl; have d1 : w.cell? ⟨g, 1, none⟩ = some (.int .i64 (p.last.row : Int)) := hP.b.cell 1 rfl; have d2 : w.cell? ⟨g, 2, none⟩ = some (.int .i64 (p.last.col : Int)) := hP.b.cell 2 rfl; have d3 : w.cell? ⟨g, 3, none⟩ = some (.bool false) := (hP.b.cell 3 rfl).trans (congrArg (fun b => some (Value.bool b)) HIS.out); go_simp; first | done | (with_reducible rfl) | rfl)
      case rest24 =>
      try simp only [Act.put, List.setIfInBounds_toArray, List.set_cons_zero, List.set_cons_succ]
      refine takeH (i := 6) (v := ?v25) rfl (by kernel_rfl) (by kernel_rfl) (by kernel_rfl) (fun _ _ _ h => h) (Or.inl ⟨by rfl, ?hy25⟩) (by assumption) ?rest25
      case hy25 => (intro w hSw; (try dsimp only at hSw); obtain ⟨hB1, hP, _⟩ := hSw; have c0 := hB1.cell 0 rfl; have c1 := hB1.cell 1 rfl; have c2 := hB1.cell 2 rfl; have d0 : w.cell? ⟨g, 0, none⟩ = some (.slice A p.last.rows.length c) := hP.b.cell 0 rfl; have d1 : w.cell? ⟨g, 1, none⟩ = some (.int .i64 (p.last.row : Int)) := hP.b.cell 1 rfl; have d2 : w.cell? ⟨g, 2, none⟩ = some (.int .i64 (p.last.col : Int)) := hP.b.cell 2 rfl; have d3 : w.cell? ⟨g, 3, none⟩ = some (.bool false) := (hP.b.cell 3 rfl).trans (congrArg (fun b => some (Value.bool b)) HIS.out); go_simp; first | done | (with_reducible rfl) | rfl)
      case rest25 =>
      try simp only [Act.put, List.setIfInBounds_toArray, List.set_cons_zero, List.set_cons_succ]
      refine takeH (i := 7) (v := ?v26) rfl (by kernel_rfl) (by kernel_rfl) (by kernel_rfl) (fun _ _ _ h => h) (Or.inl ⟨by rfl, ?hy26⟩) (by assumption) ?rest26
      case hy26 => (intro w hSw; (try dsimp only at hSw); obtain ⟨hB1, hP, _⟩ := hSw; have c0 := hB1.cell 0 rfl; have c1 := hB1.cell 1 rfl; have c2 := hB1.cell 2 rfl; have d0 : w.cell? ⟨g, 0, none⟩ = some (.slice A p.last.rows.length c) := hP.b.cell 0 rfl; have d1 : w.cell? ⟨g, 1, none⟩ = some (.int .i64 (p.last.row : Int)) := hP.b.cell 1 rfl; have d2 : w.cell? ⟨g, 2, none⟩ = some (.int .i64 (p.last.col : Int)) := hP.b.cell 2 rfl; have d3 : w.cell? ⟨g, 3, none⟩ = some (.bool false) := (hP.b.cell 3 rfl).trans (congrArg (fun b => some (Value.bool b)) HIS.out); go_simp; first | done | (with_reducible rfl) | rfl)
      case rest26 =>
      try simp only [Act.put, List.setIfInBounds_toArray, List.set_cons_zero, List.set_cons_succ]
      refine takeH (i := 8) (v := ?v27) rfl (by kernel_rfl) (by kernel_rfl) (by kernel_rfl) (fun _ _ _ h => h) (Or.inl ⟨by rfl, ?hy27⟩) (by assumption) ?rest27
      case hy27 => (intro w hSw; (try dsimp only at hSw); obtain ⟨hB1, hP, _⟩ := hSw; have c0 := hB1.cell 0 rfl; have c1 := hB1.cell 1 rfl; have c2 := hB1.cell 2 rfl; have d0 : w.cell? ⟨g, 0, none⟩ = some (.slice A p.last.rows.length c) := hP.b.cell 0 rfl; have d1 : w.cell? ⟨g, 1, none⟩ = some (.int .i64 (p.last.row : Int)) := hP.b.cell 1 rfl; have d2 : w.cell? ⟨g, 2, none⟩ = some (.int .i64 (p.last.col : Int)) := hP.b.cell 2 rfl; have d3 : w.cell? ⟨g, 3, none⟩ = some (.bool false) := (hP.b.cell 3 rfl).trans (congrArg (fun b => some (Value.bool b)) HIS.out); go_simp; first | done | (with_reducible rfl) | rfl)
      case rest27 =>
      try simp only [Act.put, List.setIfInBounds_toArray, List.set_cons_zero, List.set_cons_succ]
      refine takeH (i := 9) (v := ?v28) rfl (by kernel_rfl) (by kernel_rfl) (by kernel_rfl) (fun _ _ _ h => h) (Or.inl ⟨by rfl, ?hy28⟩) (by assumption) ?rest28
      case hy28 => (intro w hSw; (try dsimp only at hSw); obtain ⟨hB1, hP, _⟩ := hSw; have c0 := hB1.cell 0 rfl; have c1 := hB1.cell 1 rfl; have c2 := hB1.cell 2 rfl; have d0 : w.cell? ⟨g, 0, none⟩ = some (.slice A p.last.rows.length c) := hP.b.cell 0 rfl; have d1 : w.cell? ⟨g, 1, none⟩ = some (.int .i64 (p.last.row : Int)) := hP.b.cell 1 rfl; have d2 : w.cell? ⟨g, 2, none⟩ = some (.int .i64 (p.last.col : Int)) := hP.b.cell 2 rfl; have d3 : w.cell? ⟨g, 3, none⟩ = some (.bool false) := (hP.b.cell 3 rfl).trans (congrArg (fun b => some (Value.bool b)) HIS.out); go_simp; first | done | (with_reducible rfl) | rfl)
      case rest28 =>
      try simp only [Act.put, List.setIfInBounds_toArray, List.set_cons_zero, List.set_cons_succ]
      refine takeH (i := 10) (v := undef) rfl (by kernel_rfl) (by kernel_rfl) (by kernel_rfl) (fun _ _ _ h => h) (Or.inr ⟨by rfl, by rfl⟩) (by assumption) ?rest29
      case rest29 =>
      try simp only [Act.put, List.setIfInBounds_toArray, List.set_cons_zero, List.set_cons_succ]
      refine takeH (i := 11) (v := undef) rfl (by kernel_rfl) (by kernel_rfl) (by kernel_rfl) (fun _ _ _ h => h) (Or.inr ⟨by rfl, by rfl⟩) (by assumption) ?rest30
      case rest30 =>
      try simp only [Act.put, List.setIfInBounds_toArray, List.set_cons_zero, List.set_cons_succ]
      refine takeH (i := 12) (v := undef) rfl (by kernel_rfl) (by kernel_rfl) (by kernel_rfl) (fun _ _ _ h => h) (Or.inr ⟨by rfl, by rfl⟩) (by assumption) ?rest31
      case rest31 =>
      try simp only [Act.put, List.setIfInBounds_toArray, List.set_cons_zero, List.set_cons_succ]
      refine takeH (i := 13) (v := undef) rfl (by kernel_rfl) (by kernel_rfl) (by kernel_rfl) (fun _ _ _ h => h) (Or.inr ⟨by rfl, by rfl⟩) (by assumption) ?rest32
      case rest32 =>
      try simp only [Act.put, List.setIfInBounds_toArray, List.set_cons_zero, List.set_cons_succ]
      refine takeH (i := 14) (v := undef) rfl (by kernel_rfl) (by kernel_rfl) (by kernel_rfl) (fun _ _ _ h => h) (Or.inr ⟨by rfl, by rfl⟩) (by assumption) ?rest33
      case rest33 =>
      try simp only [Act.put, List.setIfInBounds_toArray, List.set_cons_zero, List.set_cons_succ]
      refine takeH (i := 15) (v := undef) rfl (by kernel_rfl) (by kernel_rfl) (by kernel_rfl) (fun _ _ _ h => h) (Or.inr ⟨by rfl, by rfl⟩) (by assumption) ?rest34
      case rest34 =>
      try simp only [Act.put, List.setIfInBounds_toArray, List.set_cons_zero, List.set_cons_succ]
      refine takeH (i := 16) (v := ?v35) rfl (by kernel_rfl) (by kernel_rfl) (by kernel_rfl) (fun _ _ _ h => h) (Or.inl ⟨by rfl, ?hy35⟩) (by assumption) ?rest35
      case hy35 => (intro w hSw; (try dsimp only at hSw); obtain ⟨hB1, hP, _⟩ := hSw; have c0 := hB1.cell 0 rfl; have c1 := hB1.cell 1 rfl; have c2 := hB1.cell 2 rfl; have d0 : w.cell? ⟨g, 0, none⟩ = some (.slice A p.last.rows.length c) := hP.b.cell 0 rfl; have d1 : w.cell? ⟨g, 1, none⟩ = some (.int .i64 (p.last.row : Int)) := hP.b.cell 1 rfl; have d2 : w.cell? ⟨g, 2, none⟩ = some (.int .i64 (p.last.col : Int)) := hP.b.cell 2 rfl; have d3 : w.cell? ⟨g, 3, none⟩ = some (.bool false) := (hP.b.cell 3 rfl).trans (congrArg (fun b => some (Value.bool b)) HIS.out); go_simp; first | done | (with_reducible rfl) | rfl)
      case rest35 =>
      try simp only [Act.put, List.setIfInBounds_toArray, List.set_cons_zero, List.set_cons_succ]
      refine takeH (i := 17) (v := ?v36) rfl (by kernel_rfl) (by kernel_rfl) (by kernel_rfl) (fun _ _ _ h => h) (Or.inl ⟨by rfl, ?hy36⟩) (by assumption) ?rest36
      case hy36 => (intro w hSw; (try dsimp only at hSw); obtain ⟨hB1, hP, _⟩ := hSw; have c0 := hB1.cell 0 rfl; have c1 := hB1.cell 1 rfl; have c2 := hB1.cell 2 rfl; have d0 : w.cell? ⟨g, 0, none⟩ = some (.slice A p.last.rows.length c) := hP.b.cell 0 rfl; have d1 : w.cell? ⟨g, 1, none⟩ = some (.int .i64 (p.last.row : Int)) := hP.b.cell 1 rfl; have d2 : w.cell? ⟨g, 2, none⟩ = some (.int .i64 (p.last.col : Int)) := hP.b.cell 2 rfl; have d3 : w.cell? ⟨g, 3, none⟩ = some (.bool false) := (hP.b.cell 3 rfl).trans (congrArg (fun b => some (Value.bool b)) HIS.out); go_simp; first | done | (with_reducible rfl) | rfl)
      case rest36 =>
      try simp only [Act.put, List.setIfInBounds_toArray, List.set_cons_zero, List.set_cons_succ]
      refine wpAnyH_done (by kernel_rfl) ?_ _
      refine hKQ _ _ ?_
      have HBX1 := Hd.mk hHd.1
      have H1 := Hd.mk hHd.2.1
      have HF1 := Hd.mk hHd.2.2
      clear hHd
      have HDR : Hd (p.draw f = { (((linesP f.rows p.last.rows n 0 p).to f.row).say (colB f.col)) with last := f, is := true }) := ⟨by rw [HNE.out]; unfold Pt.drawn; rw [HMX.out]⟩
      have HNL : Hd ((((linesP f.rows p.last.rows n 0 p).to f.row).say (colB f.col)).b.length ≤ 1099511627776) := ⟨by have h1 := HN.out; rw [HDR.out] at h1; exact h1⟩
      clear HN HNE HMX
      go_wp2_with fail
      go_upto_region 2 with fail
      rename_i KQ hKQ
      refine regionH (fun w' : World => Blk w' w.heap.size 38 #[.slice Af f.rows.length cf, .int .i64 (f.row : Int), .int .i64 (f.col : Int)] ∧ PtO B w' g p (.slice A p.last.rows.length c) bv L ∧ Pf B g w w') (by kernel_rfl) (fun wd hb => ?_)
      have hHd : (fun w' : World => Blk w' w.heap.size 38 #[.slice Af f.rows.length cf, .int .i64 (f.row : Int), .int .i64 (f.col : Int)] ∧ PtO B w' g p (.slice A p.last.rows.length c) bv L ∧ Pf B g w w') wd := ⟨HBX1.out.belowW hb, H1.out.below hb, HF1.out.below hb⟩
      clear hb
      clear HBX1 H1 HF1
      refine takeH (i := 0) (v := ?v37) rfl (by kernel_rfl) (by kernel_rfl) (by kernel_rfl) (fun _ _ _ h => h) (Or.inl ⟨by rfl, ?hy37⟩) (by assumption) ?rest37
      case hy37 => (intro w hSw; (try dsimp only at hSw); obtain ⟨hB1, hP, _⟩ := hSw; have c0 := hB1.cell 0 rfl; have c1 := hB1.cell 1 rfl; have c2 := hB1.cell 2 rfl; have d0 : w.cell? ⟨g, 0, none⟩ = some (.slice A p.last.rows.length c) := hP.b.cell 0 rfl; have d1 : w.cell? ⟨g, 1, none⟩ = some (.int .i64 (p.last.row : Int)) := hP.b.cell 1 rfl; have d2 : w.cell? ⟨g, 2, none⟩ = some (.int .i64 (p.last.col : Int)) := hP.b.cell 2 rfl; have d3 := hP.b.cell 3 rfl; go_simp; first | done | (with_reducible rfl) | rfl)
      case rest37 =>
      try simp only [Act.put, List.setIfInBounds_toArray, List.set_cons_zero, List.set_cons_succ]
      refine takeH (i := 1) (v := ?v38) rfl (by kernel_rfl) (by kernel_rfl) (by kernel_rfl) (fun _ _ _ h => h) (Or.inl ⟨by rfl, ?hy38⟩) (by assumption) ?rest38
      case hy38 => (intro w hSw; (try dsimp only at hSw); obtain ⟨hB1, hP, _⟩ := hSw; have c0 := hB1.cell 0 rfl; have c1 := hB1.cell 1 rfl; have c2 := hB1.cell 2 rfl; have d0 : w.cell? ⟨g, 0, none⟩ = some (.slice A p.last.rows.length c) := hP.b.cell 0 rfl; have d1 : w.cell? ⟨g, 1, none⟩ = some (.int .i64 (p.last.row : Int)) := hP.b.cell 1 rfl; have d2 : w.cell? ⟨g, 2, none⟩ = some (.int .i64 (p.last.col : Int)) := hP.b.cell 2 rfl; have d3 := hP.b.cell 3 rfl; go_simp; first | done | (with_reducible rfl) | rfl)
      case rest38 =>
      try simp only [Act.put, List.setIfInBounds_toArray, List.set_cons_zero, List.set_cons_succ]
      refine takeH (i := 2) (v := ?v39) rfl (by kernel_rfl) (by kernel_rfl) (by kernel_rfl) (fun _ _ _ h => h) (Or.inl ⟨by rfl, ?hy39⟩) (by assumption) ?rest39
      case hy39 => (intro w hSw; (try dsimp only at hSw); obtain ⟨hB1, hP, _⟩ := hSw; have c0 := hB1.cell 0 rfl; have c1 := hB1.cell 1 rfl; have c2 := hB1.cell 2 rfl; have d0 : w.cell? ⟨g, 0, none⟩ = some (.slice A p.last.rows.length c) := hP.b.cell 0 rfl; have d1 : w.cell? ⟨g, 1, none⟩ = some (.int .i64 (p.last.row : Int)) := hP.b.cell 1 rfl; have d2 : w.cell? ⟨g, 2, none⟩ = some (.int .i64 (p.last.col : Int)) := hP.b.cell 2 rfl; have d3 := hP.b.cell 3 rfl; go_simp; first | done | (with_reducible rfl) | rfl)
      case rest39 =>
      try simp only [Act.put, List.setIfInBounds_toArray, List.set_cons_zero, List.set_cons_succ]
      refine takeH (i := 3) (v := ?v40) rfl (by kernel_rfl) (by kernel_rfl) (by kernel_rfl) (fun _ _ _ h => h) (Or.inl ⟨by rfl, ?hy40⟩) (by assumption) ?rest40
      case hy40 => (intro w hSw; (try dsimp only at hSw); obtain ⟨hB1, hP, _⟩ := hSw; have c0 := hB1.cell 0 rfl; have c1 := hB1.cell 1 rfl; have c2 := hB1.cell 2 rfl; have d0 : w.cell? ⟨g, 0, none⟩ = some (.slice A p.last.rows.length c) := hP.b.cell 0 rfl; have d1 : w.cell? ⟨g, 1, none⟩ = some (.int .i64 (p.last.row : Int)) := hP.b.cell 1 rfl; have d2 : w.cell? ⟨g, 2, none⟩ = some (.int .i64 (p.last.col : Int)) := hP.b.cell 2 rfl; have d3 := hP.b.cell 3 rfl; go_simp; first | done | (with_reducible rfl) | rfl)
      case rest40 =>
      try simp only [Act.put, List.setIfInBounds_toArray, List.set_cons_zero, List.set_cons_succ]
      refine takeH (i := 4) (v := ?v41) rfl (by kernel_rfl) (by kernel_rfl) (by kernel_rfl) (fun _ _ _ h => h) (Or.inl ⟨by rfl, ?hy41⟩) (by assumption) ?rest41
      case hy41 => (intro w hSw; (try dsimp only at hSw); obtain ⟨hB1, hP, _⟩ := hSw; have c0 := hB1.cell 0 rfl; have c1 := hB1.cell 1 rfl; have c2 := hB1.cell 2 rfl; have d0 : w.cell? ⟨g, 0, none⟩ = some (.slice A p.last.rows.length c) := hP.b.cell 0 rfl; have d1 : w.cell? ⟨g, 1, none⟩ = some (.int .i64 (p.last.row : Int)) := hP.b.cell 1 rfl; have d2 : w.cell? ⟨g, 2, none⟩ = some (.int .i64 (p.last.col : Int)) := hP.b.cell 2 rfl; have d3 := hP.b.cell 3 rfl; go_simp; first | done | (with_reducible rfl) | rfl)
      case rest41 =>
      try simp only [Act.put, List.setIfInBounds_toArray, List.set_cons_zero, List.set_cons_succ]
      refine takeH (i := 5) (v := ?v42) rfl (by kernel_rfl) (by kernel_rfl) (by kernel_rfl) (fun _ _ _ h => h) (Or.inl ⟨by rfl, ?hy42⟩) (by assumption) ?rest42
      case hy42 => (intro w hSw; (try dsimp only at hSw); obtain ⟨hB1, hP, _⟩ := hSw; have c0 := hB1.cell 0 rfl; have c1 := hB1.cell 1 rfl; have c2 := hB1.cell 2 rfl; have d0 : w.cell? ⟨g, 0, none⟩ = some (.slice A p.last.rows.length c) := hP.b.cell 0 rfl; have d1 : w.cell? ⟨g, 1, none⟩ = some (.int .i64 (p.last.row : Int)) := hP.b.cell 1 rfl; have d2 : w.cell? ⟨g, 2, none⟩ = some (.int .i64 (p.last.col : Int)) := hP.b.cell 2 rfl; have d3 := hP.b.cell 3 rfl; go_simp; first | done | (with_reducible rfl) | rfl)
      case rest42 =>
      try simp only [Act.put, List.setIfInBounds_toArray, List.set_cons_zero, List.set_cons_succ]
      refine takeH (i := 6) (v := ?v43) rfl (by kernel_rfl) (by kernel_rfl) (by kernel_rfl) (fun _ _ _ h => h) (Or.inl ⟨by rfl, ?hy43⟩) (by assumption) ?rest43
      case hy43 => (intro w hSw; (try dsimp only at hSw); obtain ⟨hB1, hP, _⟩ := hSw; have c0 := hB1.cell 0 rfl; have c1 := hB1.cell 1 rfl; have c2 := hB1.cell 2 rfl; have d0 : w.cell? ⟨g, 0, none⟩ = some (.slice A p.last.rows.length c) := hP.b.cell 0 rfl; have d1 : w.cell? ⟨g, 1, none⟩ = some (.int .i64 (p.last.row : Int)) := hP.b.cell 1 rfl; have d2 : w.cell? ⟨g, 2, none⟩ = some (.int .i64 (p.last.col : Int)) := hP.b.cell 2 rfl; have d3 := hP.b.cell 3 rfl; go_simp; first | done | (with_reducible rfl) | rfl)
      case rest43 =>
      try simp only [Act.put, List.setIfInBounds_toArray, List.set_cons_zero, List.set_cons_succ]
      refine takeH (i := 7) (v := ?v44) rfl (by kernel_rfl) (by kernel_rfl) (by kernel_rfl) (fun _ _ _ h => h) (Or.inl ⟨by rfl, ?hy44⟩) (by assumption) ?rest44
      case hy44 => (intro w hSw; (try dsimp only at hSw); obtain ⟨hB1, hP, _⟩ := hSw; have c0 := hB1.cell 0 rfl; have c1 := hB1.cell 1 rfl; have c2 := hB1.cell 2 rfl; have d0 : w.cell? ⟨g, 0, none⟩ = some (.slice A p.last.rows.length c) := hP.b.cell 0 rfl; have d1 : w.cell? ⟨g, 1, none⟩ = some (.int .i64 (p.last.row : Int)) := hP.b.cell 1 rfl; have d2 : w.cell? ⟨g, 2, none⟩ = some (.int .i64 (p.last.col : Int)) := hP.b.cell 2 rfl; have d3 := hP.b.cell 3 rfl; go_simp; first | done | (with_reducible rfl) | rfl)
      case rest44 =>
      try simp only [Act.put, List.setIfInBounds_toArray, List.set_cons_zero, List.set_cons_succ]
      refine takeH (i := 8) (v := ?v45) rfl (by kernel_rfl) (by kernel_rfl) (by kernel_rfl) (fun _ _ _ h => h) (Or.inl ⟨by rfl, ?hy45⟩) (by assumption) ?rest45
      case hy45 => (intro w hSw; (try dsimp only at hSw); obtain ⟨hB1, hP, _⟩ := hSw; have c0 := hB1.cell 0 rfl; have c1 := hB1.cell 1 rfl; have c2 := hB1.cell 2 rfl; have d0 : w.cell? ⟨g, 0, none⟩ = some (.slice A p.last.rows.length c) := hP.b.cell 0 rfl; have d1 : w.cell? ⟨g, 1, none⟩ = some (.int .i64 (p.last.row : Int)) := hP.b.cell 1 rfl; have d2 : w.cell? ⟨g, 2, none⟩ = some (.int .i64 (p.last.col : Int)) := hP.b.cell 2 rfl; have d3 := hP.b.cell 3 rfl; go_simp; first | done | (with_reducible rfl) | rfl)
      case rest45 =>
      try simp only [Act.put, List.setIfInBounds_toArray, List.set_cons_zero, List.set_cons_succ]
      refine takeH (i := 9) (v := (.int .i64 (n : Int))) rfl (by kernel_rfl) (by kernel_rfl) (by kernel_rfl) (fun _ _ _ h => h) (Or.inl ⟨by rfl, ?hy46⟩) (by assumption) ?rest46
      case hy46 => (intro w hSw; (try dsimp only at hSw); obtain ⟨hB1, hP, _⟩ := hSw; have c0 := hB1.cell 0 rfl; have c1 := hB1.cell 1 rfl; have c2 := hB1.cell 2 rfl; have d0 : w.cell? ⟨g, 0, none⟩ = some (.slice A p.last.rows.length c) := hP.b.cell 0 rfl; have d1 : w.cell? ⟨g, 1, none⟩ = some (.int .i64 (p.last.row : Int)) := hP.b.cell 1 rfl; have d2 : w.cell? ⟨g, 2, none⟩ = some (.int .i64 (p.last.col : Int)) := hP.b.cell 2 rfl; have d3 := hP.b.cell 3 rfl; go_simp; first | done | (with_reducible rfl) | rfl)
      case rest46 =>
      try simp only [Act.put, List.setIfInBounds_toArray, List.set_cons_zero, List.set_cons_succ]
      refine takeH (i := 10) (v := ?v47) rfl (by kernel_rfl) (by kernel_rfl) (by kernel_rfl) (fun _ _ _ h => h) (Or.inl ⟨by rfl, ?hy47⟩) (by assumption) ?rest47
      case hy47 => (intro w hSw; (try dsimp only at hSw); obtain ⟨hB1, hP, _⟩ := hSw; have c0 := hB1.cell 0 rfl; have c1 := hB1.cell 1 rfl; have c2 := hB1.cell 2 rfl; have d0 : w.cell? ⟨g, 0, none⟩ = some (.slice A p.last.rows.length c) := hP.b.cell 0 rfl; have d1 : w.cell? ⟨g, 1, none⟩ = some (.int .i64 (p.last.row : Int)) := hP.b.cell 1 rfl; have d2 : w.cell? ⟨g, 2, none⟩ = some (.int .i64 (p.last.col : Int)) := hP.b.cell 2 rfl; have d3 := hP.b.cell 3 rfl; go_simp; first | done | (with_reducible rfl) | rfl)
      case rest47 =>
      try simp only [Act.put, List.setIfInBounds_toArray, List.set_cons_zero, List.set_cons_succ]
      refine wpAnyH_done (by kernel_rfl) ?_ _
      refine hKQ _ _ ?_
      have HBX2 := Hd.mk hHd.1
      have H2 := Hd.mk hHd.2.1
      have HF2 := Hd.mk hHd.2.2
      clear hHd hmx1 hmx2 hmx3
      go_wp2_with fail
      go_loopg [36] n (fun gk v36 wx => ∃ (k : Nat) (q : Pt) (bv' : Value), v36 = .int .i64 (k : Int) ∧ k + gk = n ∧ Hd (linesP f.rows p.last.rows gk k q = linesP f.rows p.last.rows n 0 p) ∧ Hd (HiOK 1000 q) ∧ Hd (q.last = p.last) ∧ Hd (PtO B wx g q (.slice A p.last.rows.length c) bv' L) ∧ Hd (Blk wx w.heap.size 38 #[.slice Af f.rows.length cf, .int .i64 (f.row : Int), .int .i64 (f.col : Int)]) ∧ Hd (Pf B g w wx))
      case atStart => exact ⟨0, p, bv, rfl, by omega, ⟨rfl⟩, HI, ⟨rfl⟩, H2, HBX2, HF2⟩
      case round =>
        clear H2 HBX2 HF2
        obtain ⟨k, q, bv', rfl, hk, HT, HIQ, HQL, H1, HBX1, HF1⟩ := hrel
        cases gk with
        | zero =>
          have hlt : decide ((k : Int) < (n : Int)) = false := decide_eq_false (by omega)
          have hlt2 : decide (k < n) = false := decide_eq_false (by omega)
          have hlt3 : ¬ k < n := by omega
          have HQE : Hd (q = linesP f.rows p.last.rows n 0 p) := ⟨HT.out⟩
          rw [← HQE.out] at HDR HNL
          clear HT HQE hk
          have c1 := HBX1.out.cell 1 rfl
          have X1 := Hd.mk (pto_calls H1.out f.row (by have := HFR.out.1; omega) ⟨HIQ.out.1, by have := HIQ.out.2.1; omega⟩ (by have := HIQ.out.2.2; omega) (Nat.le_trans HBS.out HF1.out.size) (by have h1 := HNL.out; rw [Pt.say_b, List.length_append] at h1; have e : (q.to f.row).b = q.b ++ toB q f.row := rfl; rw [e, List.length_append] at h1; omega))
          clear H1
          go_wp2_with fail
          go_at_call 20
          with_reducible refine X1.out.mono ?_
          rintro _ wa ⟨rfl, bva, ha, fa⟩
          have HFa := Hd.mk (HF1.out.trans fa)
          have HBXa := Hd.mk (HBX1.out.pf fa (by decide) (by decide))
          have c2 := HBXa.out.cell 2 rfl
          have X2 := Hd.mk (column_calls ha f.col (by have := HFR.out.2; omega) (Nat.le_trans HBS.out HFa.out.size) (by have h1 := HNL.out; rw [Pt.say_b, List.length_append] at h1; omega))
          clear ha fa X1 HBX1 HF1 c1
          go_wp2_with fail
          go_at_call 37
          with_reducible refine X2.out.mono ?_
          rintro _ wb ⟨rfl, bvb, hb, fb⟩
          have HFb := Hd.mk (HFa.out.trans fb)
          have HBXb := Hd.mk (HBXa.out.pf fb (by decide) (by decide))
          have d0 := HBXb.out.cell 0 rfl
          have d1 := HBXb.out.cell 1 rfl
          have d2 := HBXb.out.cell 2 rfl
          have Hb := Hd.mk hb
          have X3 := Hd.mk (fcopy_calls (HP0.out.pf HFb.out) HLL.out.1 (by omega) f.row f.col)
          clear hb fb X2 HBXa HFa c2
          go_wp2_with fail
          go_at_call 19
          with_reducible refine X3.out.mono ?_
          rintro _ wc ⟨lv', L', rfl, hr, hbl⟩
          have HFc := Hd.mk (HFb.out.below hbl)
          have Hc := Hd.mk (Hb.out.below hbl)
          have HR := Hd.mk (hr.mono (P' := fun _ => True) (fun _ _ => trivial))
          have HRS := Hd.mk (spine_one hr.q)
          clear hr hbl X3 HFb Hb HBXb d0 d1 d2
          go_wp2_with (first | ((with_reducible refine gate_store (t := 38) (p := 73) rfl ?_); refine wpList_store_mid rfl 38 _ _ rfl g 0 #[lv', .int .i64 (f.row : Int), .int .i64 (f.col : Int)] (by first | rfl | (go_simp; done) | (go_simp; rfl)) (by first | rfl | (go_simp; done) | (go_simp; rfl)) (fun j hj => ⟨by rw [Hc.out.b.cell (0 + j) (Array.getElem?_eq_getElem (show 0 + j < 7 by have h1 : j < 3 := hj; omega))]; rfl, Hc.out.b.frozen _⟩) infoFrame3 (by have h1 := HRS.out; simp [Value.oneCell'] at h1 ⊢; exact h1) ?_; have b3 := ((Hc.out.b.set_ 0 lv').set_ 1 (.int .i64 (f.row : Int))).set_ 2 (.int .i64 (f.col : Int)); have c3 : (wc.setCells g 0 [lv', .int .i64 (f.row : Int), .int .i64 (f.col : Int)]).cell? ⟨g, 3, none⟩ = some (.bool q.is) := b3.cell 3 rfl; have f3 : (wc.setCells g 0 [lv', .int .i64 (f.row : Int), .int .i64 (f.col : Int)]).frozen? ⟨g, 3, none⟩ = false := b3.frozen 3; clear b3))
          go_end0
          exact ⟨rfl, lv', bvb, L', by rw [HDR.out]; exact (Hc.out.last_ f HR.out).1, HFc.out.trans (Hc.out.last_ f HR.out).2⟩
        | succ d =>
          have hlt : decide ((k : Int) < (n : Int)) = true := decide_eq_true (by omega)
          have hlt2 : decide (k < n) = true := decide_eq_true (by omega)
          have hlt3 : (k : Int) < (n : Int) := by omega
          have hlt4 : k < n := by omega
          have hk0 : (0 : Int) ≤ (k : Int) := Int.natCast_nonneg _
          have hk1 : (k : Int) ≤ 1000 := by omega
          have HM1 : Hd (f.rows.length ≤ 1000 ∧ p.last.rows.length ≤ 1000 ∧ k ≤ 1000) := ⟨by omega, by omega, by omega⟩
          go_wp2_with fail
          go_upto_region 5 with fail
          rename_i KQ hKQ
          refine regionH (fun w' : World => Blk w' w.heap.size 38 #[.slice Af f.rows.length cf, .int .i64 (f.row : Int), .int .i64 (f.col : Int)] ∧ PtO B w' g q (.slice A p.last.rows.length c) bv' L ∧ Pf B g w w') (by kernel_rfl) (fun wd hb => ?_)
          have hHd : (fun w' : World => Blk w' w.heap.size 38 #[.slice Af f.rows.length cf, .int .i64 (f.row : Int), .int .i64 (f.col : Int)] ∧ PtO B w' g q (.slice A p.last.rows.length c) bv' L ∧ Pf B g w w') wd := ⟨HBX1.out.belowW hb, H1.out.below hb, HF1.out.below hb⟩
          clear hb
          clear HBX1 H1 HF1
          refine takeH (i := 0) (v := (.agg #[.slice Af f.rows.length cf, .int .i64 (f.row : Int), .int .i64 (f.col : Int)])) rfl (by kernel_rfl) (by kernel_rfl) (by kernel_rfl) (fun _ _ _ h => h) (Or.inl ⟨by rfl, ?hy48⟩) (by assumption) ?rest48
          case hy48 => (intro w hSw; (try dsimp only at hSw); obtain ⟨hB1, hP, _⟩ := hSw; have c0 := hB1.cell 0 rfl; have c1 := hB1.cell 1 rfl; have c2 := hB1.cell 2 rfl; have d0 : w.cell? ⟨g, 0, none⟩ = some (.slice A p.last.rows.length c) := hP.b.cell 0 rfl; have d1 : w.cell? ⟨g, 1, none⟩ = some (.int .i64 (q.last.row : Int)) := hP.b.cell 1 rfl; have d2 : w.cell? ⟨g, 2, none⟩ = some (.int .i64 (q.last.col : Int)) := hP.b.cell 2 rfl; have d3 := hP.b.cell 3 rfl; go_simp; first | done | (with_reducible rfl) | rfl)
          case rest48 =>
          try simp only [Act.put, List.setIfInBounds_toArray, List.set_cons_zero, List.set_cons_succ]
          refine takeH (i := 1) (v := ?v49) rfl (by kernel_rfl) (by kernel_rfl) (by kernel_rfl) (fun _ _ _ h => h) (Or.inl ⟨by rfl, ?hy49⟩) (by assumption) ?rest49
          case hy49 => (intro w hSw; (try dsimp only at hSw); obtain ⟨hB1, hP, _⟩ := hSw; have c0 := hB1.cell 0 rfl; have c1 := hB1.cell 1 rfl; have c2 := hB1.cell 2 rfl; have d0 : w.cell? ⟨g, 0, none⟩ = some (.slice A p.last.rows.length c) := hP.b.cell 0 rfl; have d1 : w.cell? ⟨g, 1, none⟩ = some (.int .i64 (q.last.row : Int)) := hP.b.cell 1 rfl; have d2 : w.cell? ⟨g, 2, none⟩ = some (.int .i64 (q.last.col : Int)) := hP.b.cell 2 rfl; have d3 := hP.b.cell 3 rfl; go_simp; first | done | (with_reducible rfl) | rfl)
          case rest49 =>
          try simp only [Act.put, List.setIfInBounds_toArray, List.set_cons_zero, List.set_cons_succ]
          refine takeH (i := 3) (v := ?v50) rfl (by kernel_rfl) (by kernel_rfl) (by kernel_rfl) (fun _ _ _ h => h) (Or.inl ⟨by rfl, ?hy50⟩) (by assumption) ?rest50
          case hy50 => (intro w hSw; (try dsimp only at hSw); obtain ⟨hB1, hP, _⟩ := hSw; have c0 := hB1.cell 0 rfl; have c1 := hB1.cell 1 rfl; have c2 := hB1.cell 2 rfl; have d0 : w.cell? ⟨g, 0, none⟩ = some (.slice A p.last.rows.length c) := hP.b.cell 0 rfl; have d1 : w.cell? ⟨g, 1, none⟩ = some (.int .i64 (q.last.row : Int)) := hP.b.cell 1 rfl; have d2 : w.cell? ⟨g, 2, none⟩ = some (.int .i64 (q.last.col : Int)) := hP.b.cell 2 rfl; have d3 := hP.b.cell 3 rfl; go_simp; first | done | (with_reducible rfl) | rfl)
          case rest50 =>
          try simp only [Act.put, List.setIfInBounds_toArray, List.set_cons_zero, List.set_cons_succ]
          refine takeH (i := 4) (v := ?v51) rfl (by kernel_rfl) (by kernel_rfl) (by kernel_rfl) (fun _ _ _ h => h) (Or.inl ⟨by rfl, ?hy51⟩) (by assumption) ?rest51
          case hy51 => (intro w hSw; (try dsimp only at hSw); obtain ⟨hB1, hP, _⟩ := hSw; have c0 := hB1.cell 0 rfl; have c1 := hB1.cell 1 rfl; have c2 := hB1.cell 2 rfl; have d0 : w.cell? ⟨g, 0, none⟩ = some (.slice A p.last.rows.length c) := hP.b.cell 0 rfl; have d1 : w.cell? ⟨g, 1, none⟩ = some (.int .i64 (q.last.row : Int)) := hP.b.cell 1 rfl; have d2 : w.cell? ⟨g, 2, none⟩ = some (.int .i64 (q.last.col : Int)) := hP.b.cell 2 rfl; have d3 := hP.b.cell 3 rfl; go_simp; first | done | (with_reducible rfl) | rfl)
          case rest51 =>
          try simp only [Act.put, List.setIfInBounds_toArray, List.set_cons_zero, List.set_cons_succ]
          refine takeH (i := 5) (v := ?v52) rfl (by kernel_rfl) (by kernel_rfl) (by kernel_rfl) (fun _ _ _ h => h) (Or.inl ⟨by rfl, ?hy52⟩) (by assumption) ?rest52
          case hy52 => (intro w hSw; (try dsimp only at hSw); obtain ⟨hB1, hP, _⟩ := hSw; have c0 := hB1.cell 0 rfl; have c1 := hB1.cell 1 rfl; have c2 := hB1.cell 2 rfl; have d0 : w.cell? ⟨g, 0, none⟩ = some (.slice A p.last.rows.length c) := hP.b.cell 0 rfl; have d1 : w.cell? ⟨g, 1, none⟩ = some (.int .i64 (q.last.row : Int)) := hP.b.cell 1 rfl; have d2 : w.cell? ⟨g, 2, none⟩ = some (.int .i64 (q.last.col : Int)) := hP.b.cell 2 rfl; have d3 := hP.b.cell 3 rfl; go_simp; first | done | (with_reducible rfl) | rfl)
          case rest52 =>
          try simp only [Act.put, List.setIfInBounds_toArray, List.set_cons_zero, List.set_cons_succ]
          refine takeH (i := 6) (v := (.agg #[.slice A p.last.rows.length c, .int .i64 (q.last.row : Int), .int .i64 (q.last.col : Int)])) rfl (by kernel_rfl) (by kernel_rfl) (by kernel_rfl) (fun _ _ _ h => h) (Or.inl ⟨by rfl, ?hy53⟩) (by assumption) ?rest53
          case hy53 => (intro w hSw; (try dsimp only at hSw); obtain ⟨hB1, hP, _⟩ := hSw; have c0 := hB1.cell 0 rfl; have c1 := hB1.cell 1 rfl; have c2 := hB1.cell 2 rfl; have d0 : w.cell? ⟨g, 0, none⟩ = some (.slice A p.last.rows.length c) := hP.b.cell 0 rfl; have d1 : w.cell? ⟨g, 1, none⟩ = some (.int .i64 (q.last.row : Int)) := hP.b.cell 1 rfl; have d2 : w.cell? ⟨g, 2, none⟩ = some (.int .i64 (q.last.col : Int)) := hP.b.cell 2 rfl; have d3 := hP.b.cell 3 rfl; go_simp; first | done | (with_reducible rfl) | rfl)
          case rest53 =>
          try simp only [Act.put, List.setIfInBounds_toArray, List.set_cons_zero, List.set_cons_succ]
          refine takeH (i := 7) (v := ?v54) rfl (by kernel_rfl) (by kernel_rfl) (by kernel_rfl) (fun _ _ _ h => h) (Or.inl ⟨by rfl, ?hy54⟩) (by assumption) ?rest54
          case hy54 => (intro w hSw; (try dsimp only at hSw); obtain ⟨hB1, hP, _⟩ := hSw; have c0 := hB1.cell 0 rfl; have c1 := hB1.cell 1 rfl; have c2 := hB1.cell 2 rfl; have d0 : w.cell? ⟨g, 0, none⟩ = some (.slice A p.last.rows.length c) := hP.b.cell 0 rfl; have d1 : w.cell? ⟨g, 1, none⟩ = some (.int .i64 (q.last.row : Int)) := hP.b.cell 1 rfl; have d2 : w.cell? ⟨g, 2, none⟩ = some (.int .i64 (q.last.col : Int)) := hP.b.cell 2 rfl; have d3 := hP.b.cell 3 rfl; go_simp; first | done | (with_reducible rfl) | rfl)
          case rest54 =>
          try simp only [Act.put, List.setIfInBounds_toArray, List.set_cons_zero, List.set_cons_succ]
          refine wpAnyH_ready (rs := [2]) (by kernel_rfl) (by simp) ?_
          refine consH rfl (fun K hK => ?_) AllReadyH.nil
          go_simp
          go_at_call 34
          with_reducible refine (pat_calls (HP0.out.pf hHd.2.2) f.row f.col k HM1.out.1 HM1.out.2.2).mono ?_
          rintro _ wq ⟨v1, rfl, hv1, hb2⟩
          have V1 := Hd.mk hv1
          clear hv1
          have hHd2 : (fun w' : World => Blk w' w.heap.size 38 #[.slice Af f.rows.length cf, .int .i64 (f.row : Int), .int .i64 (f.col : Int)] ∧ PtO B w' g q (.slice A p.last.rows.length c) bv' L ∧ Pf B g w w') wq := ⟨hHd.1.belowW hb2, hHd.2.1.below hb2, hHd.2.2.below hb2⟩
          clear hb2 hHd
          have hHd := hHd2
          clear hHd2
          go_simp
          refine hK.out _ _ hHd ?_
          clear hK K
          try simp only [Act.put, List.setIfInBounds_toArray, List.set_cons_zero, List.set_cons_succ]
          refine wpAnyH_ready (rs := [8]) (by kernel_rfl) (by simp) ?_
          refine consH rfl (fun K hK => ?_) AllReadyH.nil
          go_simp
          go_at_call 34
          with_reducible refine (pat_calls hHd.2.1.r q.last.row q.last.col k (by rw [HQL.out]; exact HM1.out.2.1) HM1.out.2.2).mono ?_
          rintro _ wy ⟨v2, rfl, hv2, hb2⟩
          rw [HQL.out] at hv2
          have V2 := Hd.mk hv2
          clear hv2
          have hHd2 : (fun w' : World => Blk w' w.heap.size 38 #[.slice Af f.rows.length cf, .int .i64 (f.row : Int), .int .i64 (f.col : Int)] ∧ PtO B w' g q (.slice A p.last.rows.length c) bv' L ∧ Pf B g w w') wy := ⟨hHd.1.belowW hb2, hHd.2.1.below hb2, hHd.2.2.below hb2⟩
          have V1' := Hd.mk (V1.out.below hb2)
          clear V1
          clear hb2 hHd
          have hHd := hHd2
          clear hHd2
          go_simp
          refine hK.out _ _ hHd ?_
          clear hK K
          try simp only [Act.put, List.setIfInBounds_toArray, List.set_cons_zero, List.set_cons_succ]
          refine takeH (i := 9) (v := ?v55) rfl (by kernel_rfl) (by kernel_rfl) (by kernel_rfl) (fun _ _ _ h => h) (Or.inl ⟨by rfl, ?hy55⟩) (by assumption) ?rest55
          case hy55 => (intro w hSw; (try dsimp only at hSw); obtain ⟨hB1, hP, _⟩ := hSw; have c0 := hB1.cell 0 rfl; have c1 := hB1.cell 1 rfl; have c2 := hB1.cell 2 rfl; have d0 : w.cell? ⟨g, 0, none⟩ = some (.slice A p.last.rows.length c) := hP.b.cell 0 rfl; have d1 : w.cell? ⟨g, 1, none⟩ = some (.int .i64 (q.last.row : Int)) := hP.b.cell 1 rfl; have d2 : w.cell? ⟨g, 2, none⟩ = some (.int .i64 (q.last.col : Int)) := hP.b.cell 2 rfl; have d3 := hP.b.cell 3 rfl; go_simp; first | done | (with_reducible rfl) | rfl)
          case rest55 =>
          try simp only [Act.put, List.setIfInBounds_toArray, List.set_cons_zero, List.set_cons_succ]
          refine takeH (i := 10) (v := ?v56) rfl (by kernel_rfl) (by kernel_rfl) (by kernel_rfl) (fun _ _ _ h => h) (Or.inl ⟨by rfl, ?hy56⟩) (by assumption) ?rest56
          case hy56 => (intro w hSw; (try dsimp only at hSw); obtain ⟨hB1, hP, _⟩ := hSw; have c0 := hB1.cell 0 rfl; have c1 := hB1.cell 1 rfl; have c2 := hB1.cell 2 rfl; have d0 : w.cell? ⟨g, 0, none⟩ = some (.slice A p.last.rows.length c) := hP.b.cell 0 rfl; have d1 : w.cell? ⟨g, 1, none⟩ = some (.int .i64 (q.last.row : Int)) := hP.b.cell 1 rfl; have d2 : w.cell? ⟨g, 2, none⟩ = some (.int .i64 (q.last.col : Int)) := hP.b.cell 2 rfl; have d3 := hP.b.cell 3 rfl; go_simp; first | done | (with_reducible rfl) | rfl)
          case rest56 =>
          try simp only [Act.put, List.setIfInBounds_toArray, List.set_cons_zero, List.set_cons_succ]
          refine wpAnyH_done (by kernel_rfl) ?_ _
          refine hKQ _ _ ?_
          have HBX2 := Hd.mk hHd.1
          have H2 := Hd.mk hHd.2.1
          have HF2 := Hd.mk hHd.2.2
          clear hHd
          have X := Hd.mk (pdiff_calls V1'.out.sl V2.out.sl (rowOf_len (fun x hx => (HLL.out.1 x hx).2) k) (rowOf_len HLL.out.2 k))
          go_wp2_with fail
          go_at_call 35
          with_reducible refine X.out.mono ?_
          rintro _ wz ⟨rfl, hb⟩
          have HBX3 := Hd.mk (HBX2.out.belowW hb)
          have H3 := Hd.mk (H2.out.below hb)
          have HF3 := Hd.mk (HF2.out.below hb)
          have W1 := Hd.mk (V1'.out.below hb)
          have W2 := Hd.mk (V2.out.below hb)
          clear hb X HBX2 H2 HF2 V1' V2
          have HSTEP : Hd (linesP f.rows p.last.rows (d + 1) k q = linesP f.rows p.last.rows d (k + 1) (if 0 ≤ differP (rowOf f.rows k) (rowOf p.last.rows k) then (q.to k).say (lineB (differP (rowOf f.rows k) (rowOf p.last.rows k)).toNat (rowOf f.rows k) (rowOf p.last.rows k)) else q)) := ⟨rfl⟩
          have HDL : Hd (differP (rowOf f.rows k) (rowOf p.last.rows k) < 1001) := ⟨by have h1 := differP_lt (rowOf f.rows k) (rowOf p.last.rows k); have h2 := rowOf_len (fun x hx => (HLL.out.1 x hx).2) k; have h3 := rowOf_len HLL.out.2 k; omega⟩
          generalize differP (rowOf f.rows k) (rowOf p.last.rows k) = dI at *
          by_cases h0 : 0 ≤ dI
          · obtain ⟨m, rfl⟩ : ∃ m : Nat, dI = (m : Int) := Int.eq_ofNat_of_zero_le h0
            have g0 : decide ((0 : Int) ≤ (m : Int)) = true := decide_eq_true h0
            have g1 : (m : Int) ≤ 1000 := by have := HDL.out; omega
            rw [if_pos h0] at HSTEP
            have HB4 : Hd (((q.to k).say (lineB m (rowOf f.rows k) (rowOf p.last.rows k))).b.length ≤ 1099511627776) := ⟨by
              have h1 := linesP_le f.rows p.last.rows d (k + 1) ((q.to k).say (lineB m (rowOf f.rows k) (rowOf p.last.rows k)))
              have h2 := HSTEP.out
              rw [Int.toNat_natCast] at h2
              rw [← h2, HT.out] at h1
              have h3 := HNL.out
              have h4 := Pt.to_le (linesP f.rows p.last.rows n 0 p) f.row
              have h5 := Pt.say_le ((linesP f.rows p.last.rows n 0 p).to f.row) (colB f.col)
              omega⟩
            have X := Hd.mk (line_calls H3.out k m W1.out W2.out ⟨by omega, by omega⟩ ⟨HIQ.out.1, by have := HIQ.out.2.1; omega⟩ (by have := HIQ.out.2.2; omega) (rowOf_len (fun x hx => (HLL.out.1 x hx).2) k) (rowOf_len HLL.out.2 k) (Nat.le_trans HBS.out HF3.out.size) (by have h1 := HB4.out; rw [Pt.say_b, List.length_append] at h1; exact h1))
            have HT2 : Hd (linesP f.rows p.last.rows d (k + 1) ((q.to k).say (lineB m (rowOf f.rows k) (rowOf p.last.rows k))) = linesP f.rows p.last.rows n 0 p) := ⟨by have h2 := HSTEP.out; rw [Int.toNat_natCast] at h2; rw [← h2, HT.out]⟩
            have HIQ2 : Hd (HiOK 1000 ((q.to k).say (lineB m (rowOf f.rows k) (rowOf p.last.rows k)))) := ⟨(HIQ.out.to HM1.out.2.2).say _⟩
            have HQL2 : Hd (((q.to k).say (lineB m (rowOf f.rows k) (rowOf p.last.rows k))).last = p.last) := ⟨HQL.out⟩
            clear H3 W1 W2 HSTEP HDL h0 HB4 HT HIQ HQL
            go_wp2_with fail
            go_at_call 36
            with_reducible refine X.out.mono ?_
            rintro _ wl ⟨rfl, bvl, hl, fl⟩
            have H5 := Hd.mk hl
            have HBX5 := Hd.mk (HBX3.out.pf fl (by decide) (by decide))
            have HF5 := Hd.mk (HF3.out.trans fl)
            clear hl fl X HBX3 HF3
            go_wp2
            go_roundg d
            case measure => omega
            case rel => exact ⟨k + 1, _, bvl, by simp, by omega, HT2, HIQ2, HQL2, H5, HBX5, HF5⟩
          · have g0 : decide ((0 : Int) ≤ dI) = false := decide_eq_false h0
            have g1 : ¬ (0 : Int) ≤ dI := h0
            rw [if_neg h0] at HSTEP
            have HT2 : Hd (linesP f.rows p.last.rows d (k + 1) q = linesP f.rows p.last.rows n 0 p) := ⟨by rw [← HSTEP.out, HT.out]⟩
            clear HSTEP HDL h0 HT W1 W2
            go_wp2
            go_roundg d
            case measure => omega
            case rel => exact ⟨k + 1, q, bv', by simp, by omega, HT2, HIQ, HQL, H3, HBX3, HF3⟩
    | true =>
      have HIS := Hd.mk hisp
      clear hisp
      obtain ⟨bq, hbq⟩ : ∃ bq, decide (f = p.last) = bq := ⟨_, rfl⟩
      have HQ := Hd.mk hbq
      clear hbq
      go_enter Tryd.func17, Tryd.ntmps17
      go_upto_region 1 with fail
      rename_i KQ hKQ
      refine regionH (fun w' : World => Blk w' w.heap.size 38 #[.slice Af f.rows.length cf, .int .i64 (f.row : Int), .int .i64 (f.col : Int)] ∧ PtO B w' g p (.slice A p.last.rows.length c) bv L ∧ Pf B g w w') (by kernel_rfl) (fun wd hb => ?_)
      have hHd : (fun w' : World => Blk w' w.heap.size 38 #[.slice Af f.rows.length cf, .int .i64 (f.row : Int), .int .i64 (f.col : Int)] ∧ PtO B w' g p (.slice A p.last.rows.length c) bv L ∧ Pf B g w w') wd := ⟨HBX.out.belowW hb, H.out.below hb, HF.out.below hb⟩
      clear hb
      clear HBX H HF
      refine takeH (i := 0) (v := ?v57) rfl (by kernel_rfl) (by kernel_rfl) (by kernel_rfl) (fun _ _ _ h => h) (Or.inl ⟨by rfl, ?hy57⟩) (by assumption) ?rest57
      case hy57 => (intro w hSw; (try dsimp only at hSw); obtain ⟨hB1, hP, _⟩ := hSw; have c0 := hB1.cell 0 rfl; have c1 := hB1.cell 1 rfl; have c2 := hB1.cell 2 rfl; have d0 : w.cell? ⟨g, 0, none⟩ = some (.slice A p.last.rows.length c) := hP.b.cell 0 rfl; have d1 : w.cell? ⟨g, 1, none⟩ = some (.int .i64 (p.last.row : Int)) := hP.b.cell 1 rfl; have d2 : w.cell? ⟨g, 2, none⟩ = some (.int .i64 (p.last.col : Int)) := hP.b.cell 2 rfl; have d3 : w.cell? ⟨g, 3, none⟩ = some (.bool true) := (hP.b.cell 3 rfl).trans (congrArg (fun b => some (Value.bool b)) HIS.out); go_simp; first | done | (with_reducible rfl) | rfl)
      case rest57 =>
      try simp only [Act.put, List.setIfInBounds_toArray, List.set_cons_zero, List.set_cons_succ]
      refine takeH (i := 1) (v := ?v58) rfl (by kernel_rfl) (by kernel_rfl) (by kernel_rfl) (fun _ _ _ h => h) (Or.inl ⟨by rfl, ?hy58⟩) (by assumption) ?rest58
      case hy58 => (intro w hSw; (try dsimp only at hSw); obtain ⟨hB1, hP, _⟩ := hSw; have c0 := hB1.cell 0 rfl; have c1 := hB1.cell 1 rfl; have c2 := hB1.cell 2 rfl; have d0 : w.cell? ⟨g, 0, none⟩ = some (.slice A p.last.rows.length c) := hP.b.cell 0 rfl; have d1 : w.cell? ⟨g, 1, none⟩ = some (.int .i64 (p.last.row : Int)) := hP.b.cell 1 rfl; have d2 : w.cell? ⟨g, 2, none⟩ = some (.int .i64 (p.last.col : Int)) := hP.b.cell 2 rfl; have d3 : w.cell? ⟨g, 3, none⟩ = some (.bool true) := (hP.b.cell 3 rfl).trans (congrArg (fun b => some (Value.bool b)) HIS.out); go_simp; first | done | (with_reducible rfl) | rfl)
      case rest58 =>
      try simp only [Act.put, List.setIfInBounds_toArray, List.set_cons_zero, List.set_cons_succ]
      refine takeH (i := 2) (v := ?v59) rfl (by kernel_rfl) (by kernel_rfl) (by kernel_rfl) (fun _ _ _ h => h) (Or.inl ⟨by rfl, ?hy59⟩) (by assumption) ?rest59
      case hy59 => (intro w hSw; (try dsimp only at hSw); obtain ⟨hB1, hP, _⟩ := hSw; have c0 := hB1.cell 0 rfl; have c1 := hB1.cell 1 rfl; have c2 := hB1.cell 2 rfl; have d0 : w.cell? ⟨g, 0, none⟩ = some (.slice A p.last.rows.length c) := hP.b.cell 0 rfl; have d1 : w.cell? ⟨g, 1, none⟩ = some (.int .i64 (p.last.row : Int)) := hP.b.cell 1 rfl; have d2 : w.cell? ⟨g, 2, none⟩ = some (.int .i64 (p.last.col : Int)) := hP.b.cell 2 rfl; have d3 : w.cell? ⟨g, 3, none⟩ = some (.bool true) := (hP.b.cell 3 rfl).trans (congrArg (fun b => some (Value.bool b)) HIS.out); go_simp; first | done | (with_reducible rfl) | rfl)
      case rest59 =>
      try simp only [Act.put, List.setIfInBounds_toArray, List.set_cons_zero, List.set_cons_succ]
      refine takeH (i := 3) (v := (.bool false)) rfl (by kernel_rfl) (by kernel_rfl) (by kernel_rfl) (fun _ _ _ h => h) (Or.inl ⟨by rfl, ?hy60⟩) (by assumption) ?rest60
      case hy60 => (intro w hSw; (try dsimp only at hSw); obtain ⟨hB1, hP, _⟩ := hSw; have c0 := hB1.cell 0 rfl; have c1 := hB1.cell 1 rfl; have c2 := hB1.cell 2 rfl; have d0 : w.cell? ⟨g, 0, none⟩ = some (.slice A p.last.rows.length c) := hP.b.cell 0 rfl; have d1 : w.cell? ⟨g, 1, none⟩ = some (.int .i64 (p.last.row : Int)) := hP.b.cell 1 rfl; have d2 : w.cell? ⟨g, 2, none⟩ = some (.int .i64 (p.last.col : Int)) := hP.b.cell 2 rfl; have d3 : w.cell? ⟨g, 3, none⟩ = some (.bool true) := (hP.b.cell 3 rfl).trans (congrArg (fun b => some (Value.bool b)) HIS.out); go_simp; first | done | (with_reducible rfl) | rfl)
      case rest60 =>
      try simp only [Act.put, List.setIfInBounds_toArray, List.set_cons_zero, List.set_cons_succ]
      refine takeH (i := 4) (v := ?v61) rfl (by kernel_rfl) (by kernel_rfl) (by kernel_rfl) (fun _ _ _ h => h) (Or.inl ⟨by rfl, ?hy61⟩) (by assumption) ?rest61
      case hy61 => (intro w hSw; (try dsimp only at hSw); obtain ⟨hB1, hP, _⟩ := hSw; have c0 := hB1.cell 0 rfl; have c1 := hB1.cell 1 rfl; have c2 := hB1.cell 2 rfl; have d0 : w.cell? ⟨g, 0, none⟩ = some (.slice A p.last.rows.length c) := hP.b.cell 0 rfl; have d1 : w.cell? ⟨g, 1, none⟩ = some (.int .i64 (p.last.row : Int)) := hP.b.cell 1 rfl; have d2 : w.cell? ⟨g, 2, none⟩ = some (.int .i64 (p.last.col : Int)) := hP.b.cell 2 rfl; have d3 : w.cell? ⟨g, 3, none⟩ = some (.bool true) := (hP.b.cell 3 rfl).trans (congrArg (fun b => some (Value.bool b)) HIS.out); go_simp; first | done | (with_reducible rfl) | rfl)
      case rest61 =>
      try simp only [Act.put, List.setIfInBounds_toArray, List.set_cons_zero, List.set_cons_succ]
      refine takeH (i := 5) (v := ?v62) rfl (by kernel_rfl) (by kernel_rfl) (by kernel_rfl) (fun _ _ _ h => h) (Or.inl ⟨by rfl, ?hy62⟩) (by assumption) ?rest62
      case hy62 => (intro w hSw; (try dsimp only at hSw); obtain ⟨hB1, hP, _⟩ := hSw; have c0 := hB1.cell 0 rfl; have c1 := hB1.cell 1 rfl; have c2 := hB1.cell 2 rfl; have d0 : w.cell? ⟨g, 0, none⟩ = some (.slice A p.last.rows.length c) := hP.b.cell 0 rfl; have d1 : w.cell? ⟨g, 1, none⟩ = some (.int .i64 (p.last.row : Int)) := hP.b.cell 1 rfl; have d2 : w.cell? ⟨g, 2, none⟩ = some (.int .i64 (p.last.col : Int)) := hP.b.cell 2 rfl; have d3 : w.cell? ⟨g, 3, none⟩ = some (.bool true) := (hP.b.cell 3 rfl).trans (congrArg (fun b => some (Value.bool b)) HIS.out); go_simp; first | done | (with_reducible rfl) | rfl)
      case rest62 =>
      try simp only [Act.put, List.setIfInBounds_toArray, List.set_cons_zero, List.set_cons_succ]
      refine takeH (i := 6) (v := ?v63) rfl (by kernel_rfl) (by kernel_rfl) (by kernel_rfl) (fun _ _ _ h => h) (Or.inl ⟨by rfl, ?hy63⟩) (by assumption) ?rest63
      case hy63 => (intro w hSw; (try dsimp only at hSw); obtain ⟨hB1, hP, _⟩ := hSw; have c0 := hB1.cell 0 rfl; have c1 := hB1.cell 1 rfl; have c2 := hB1.cell 2 rfl; have d0 : w.cell? ⟨g, 0, none⟩ = some (.slice A p.last.rows.length c) := hP.b.cell 0 rfl; have d1 : w.cell? ⟨g, 1, none⟩ = some (.int .i64 (p.last.row : Int)) := hP.b.cell 1 rfl; have d2 : w.cell? ⟨g, 2, none⟩ = some (.int .i64 (p.last.col : Int)) := hP.b.cell 2 rfl; have d3 : w.cell? ⟨g, 3, none⟩ = some (.bool true) := (hP.b.cell 3 rfl).trans (congrArg (fun b => some (Value.bool b)) HIS.out); go_simp; first | done | (with_reducible rfl) | rfl)
      case rest63 =>
      try simp only [Act.put, List.setIfInBounds_toArray, List.set_cons_zero, List.set_cons_succ]
      refine takeH (i := 7) (v := ?v64) rfl (by kernel_rfl) (by kernel_rfl) (by kernel_rfl) (fun _ _ _ h => h) (Or.inl ⟨by rfl, ?hy64⟩) (by assumption) ?rest64
      case hy64 => (intro w hSw; (try dsimp only at hSw); obtain ⟨hB1, hP, _⟩ := hSw; have c0 := hB1.cell 0 rfl; have c1 := hB1.cell 1 rfl; have c2 := hB1.cell 2 rfl; have d0 : w.cell? ⟨g, 0, none⟩ = some (.slice A p.last.rows.length c) := hP.b.cell 0 rfl; have d1 : w.cell? ⟨g, 1, none⟩ = some (.int .i64 (p.last.row : Int)) := hP.b.cell 1 rfl; have d2 : w.cell? ⟨g, 2, none⟩ = some (.int .i64 (p.last.col : Int)) := hP.b.cell 2 rfl; have d3 : w.cell? ⟨g, 3, none⟩ = some (.bool true) := (hP.b.cell 3 rfl).trans (congrArg (fun b => some (Value.bool b)) HIS.out); go_simp; first | done | (with_reducible rfl) | rfl)
      case rest64 =>
      try simp only [Act.put, List.setIfInBounds_toArray, List.set_cons_zero, List.set_cons_succ]
      refine takeH (i := 8) (v := ?v65) rfl (by kernel_rfl) (by kernel_rfl) (by kernel_rfl) (fun _ _ _ h => h) (Or.inl ⟨by rfl, ?hy65⟩) (by assumption) ?rest65
      case hy65 => (intro w hSw; (try dsimp only at hSw); obtain ⟨hB1, hP, _⟩ := hSw; have c0 := hB1.cell 0 rfl; have c1 := hB1.cell 1 rfl; have c2 := hB1.cell 2 rfl; have d0 : w.cell? ⟨g, 0, none⟩ = some (.slice A p.last.rows.length c) := hP.b.cell 0 rfl; have d1 : w.cell? ⟨g, 1, none⟩ = some (.int .i64 (p.last.row : Int)) := hP.b.cell 1 rfl; have d2 : w.cell? ⟨g, 2, none⟩ = some (.int .i64 (p.last.col : Int)) := hP.b.cell 2 rfl; have d3 : w.cell? ⟨g, 3, none⟩ = some (.bool true) := (hP.b.cell 3 rfl).trans (congrArg (fun b => some (Value.bool b)) HIS.out); go_simp; first | done | (with_reducible rfl) | rfl)
      case rest65 =>
      try simp only [Act.put, List.setIfInBounds_toArray, List.set_cons_zero, List.set_cons_succ]
      refine takeH (i := 9) (v := ?v66) rfl (by kernel_rfl) (by kernel_rfl) (by kernel_rfl) (fun _ _ _ h => h) (Or.inl ⟨by rfl, ?hy66⟩) (by assumption) ?rest66
      case hy66 => (intro w hSw; (try dsimp only at hSw); obtain ⟨hB1, hP, _⟩ := hSw; have c0 := hB1.cell 0 rfl; have c1 := hB1.cell 1 rfl; have c2 := hB1.cell 2 rfl; have d0 : w.cell? ⟨g, 0, none⟩ = some (.slice A p.last.rows.length c) := hP.b.cell 0 rfl; have d1 : w.cell? ⟨g, 1, none⟩ = some (.int .i64 (p.last.row : Int)) := hP.b.cell 1 rfl; have d2 : w.cell? ⟨g, 2, none⟩ = some (.int .i64 (p.last.col : Int)) := hP.b.cell 2 rfl; have d3 : w.cell? ⟨g, 3, none⟩ = some (.bool true) := (hP.b.cell 3 rfl).trans (congrArg (fun b => some (Value.bool b)) HIS.out); go_simp; first | done | (with_reducible rfl) | rfl)
      case rest66 =>
      try simp only [Act.put, List.setIfInBounds_toArray, List.set_cons_zero, List.set_cons_succ]
      refine takeH (i := 10) (v := (.agg #[.slice Af f.rows.length cf, .int .i64 (f.row : Int), .int .i64 (f.col : Int)])) rfl (by kernel_rfl) (by kernel_rfl) (by kernel_rfl) (fun _ _ _ h => h) (Or.inl ⟨by rfl, ?hy67⟩) (by assumption) ?rest67
      case hy67 => (intro w hSw; (try dsimp only at hSw); obtain ⟨hB1, hP, _⟩ := hSw; have c0 := hB1.cell 0 rfl; have c1 := hB1.cell 1 rfl; have c2 := hB1.cell 2 rfl; have d0 : w.cell? ⟨g, 0, none⟩ = some (.slice A p.last.rows.length c) := hP.b.cell 0 rfl; have d1 : w.cell? ⟨g, 1, none⟩ = some (.int .i64 (p.last.row : Int)) := hP.b.cell 1 rfl; have d2 : w.cell? ⟨g, 2, none⟩ = some (.int .i64 (p.last.col : Int)) := hP.b.cell 2 rfl; have d3 : w.cell? ⟨g, 3, none⟩ = some (.bool true) := (hP.b.cell 3 rfl).trans (congrArg (fun b => some (Value.bool b)) HIS.out); go_simp; first | done | (with_reducible rfl) | rfl)
      case rest67 =>
      try simp only [Act.put, List.setIfInBounds_toArray, List.set_cons_zero, List.set_cons_succ]
      refine takeH (i := 11) (v := ?v68) rfl (by kernel_rfl) (by kernel_rfl) (by kernel_rfl) (fun _ _ _ h => h) (Or.inl ⟨by rfl, ?hy68⟩) (by assumption) ?rest68
      case hy68 => (intro w hSw; (try dsimp only at hSw); obtain ⟨hB1, hP, _⟩ := hSw; have c0 := hB1.cell 0 rfl; have c1 := hB1.cell 1 rfl; have c2 := hB1.cell 2 rfl; have d0 : w.cell? ⟨g, 0, none⟩ = some (.slice A p.last.rows.length c) := hP.b.cell 0 rfl; have d1 : w.cell? ⟨g, 1, none⟩ = some (.int .i64 (p.last.row : Int)) := hP.b.cell 1 rfl; have d2 : w.cell? ⟨g, 2, none⟩ = some (.int .i64 (p.last.col : Int)) := hP.b.cell 2 rfl; have d3 : w.cell? ⟨g, 3, none⟩ = some (.bool true) := (hP.b.cell 3 rfl).trans (congrArg (fun b => some (Value.bool b)) HIS.out); go_simp; first | done | (with_reducible rfl) | rfl)
      case rest68 =>
      try simp only [Act.put, List.setIfInBounds_toArray, List.set_cons_zero, List.set_cons_succ]
      refine takeH (i := 12) (v := ?v69) rfl (by kernel_rfl) (by kernel_rfl) (by kernel_rfl) (fun _ _ _ h => h) (Or.inl ⟨by rfl, ?hy69⟩) (by assumption) ?rest69
      case hy69 => (intro w hSw; (try dsimp only at hSw); obtain ⟨hB1, hP, _⟩ := hSw; have c0 := hB1.cell 0 rfl; have c1 := hB1.cell 1 rfl; have c2 := hB1.cell 2 rfl; have d0 : w.cell? ⟨g, 0, none⟩ = some (.slice A p.last.rows.length c) := hP.b.cell 0 rfl; have d1 : w.cell? ⟨g, 1, none⟩ = some (.int .i64 (p.last.row : Int)) := hP.b.cell 1 rfl; have d2 : w.cell? ⟨g, 2, none⟩ = some (.int .i64 (p.last.col : Int)) := hP.b.cell 2 rfl; have d3 : w.cell? ⟨g, 3, none⟩ = some (.bool true) := (hP.b.cell 3 rfl).trans (congrArg (fun b => some (Value.bool b)) HIS.out); go_simp; first | done | (with_reducible rfl) | rfl)
      case rest69 =>
      try simp only [Act.put, List.setIfInBounds_toArray, List.set_cons_zero, List.set_cons_succ]
      refine takeH (i := 13) (v := ?v70) rfl (by kernel_rfl) (by kernel_rfl) (by kernel_rfl) (fun _ _ _ h => h) (Or.inl ⟨by rfl, ?hy70⟩) (by assumption) ?rest70
      case hy70 => (intro w hSw; (try dsimp only at hSw); obtain ⟨hB1, hP, _⟩ := hSw; have c0 := hB1.cell 0 rfl; have c1 := hB1.cell 1 rfl; have c2 := hB1.cell 2 rfl; have d0 : w.cell? ⟨g, 0, none⟩ = some (.slice A p.last.rows.length c) := hP.b.cell 0 rfl; have d1 : w.cell? ⟨g, 1, none⟩ = some (.int .i64 (p.last.row : Int)) := hP.b.cell 1 rfl; have d2 : w.cell? ⟨g, 2, none⟩ = some (.int .i64 (p.last.col : Int)) := hP.b.cell 2 rfl; have d3 : w.cell? ⟨g, 3, none⟩ = some (.bool true) := (hP.b.cell 3 rfl).trans (congrArg (fun b => some (Value.bool b)) HIS.out); go_simp; first | done | (with_reducible rfl) | rfl)
      case rest70 =>
      try simp only [Act.put, List.setIfInBounds_toArray, List.set_cons_zero, List.set_cons_succ]
      refine takeH (i := 14) (v := (.agg #[.slice A p.last.rows.length c, .int .i64 (p.last.row : Int), .int .i64 (p.last.col : Int)])) rfl (by kernel_rfl) (by kernel_rfl) (by kernel_rfl) (fun _ _ _ h => h) (Or.inl ⟨by rfl, ?hy71⟩) (by assumption) ?rest71
      case hy71 => (intro w hSw; (try dsimp only at hSw); obtain ⟨hB1, hP, _⟩ := hSw; have c0 := hB1.cell 0 rfl; have c1 := hB1.cell 1 rfl; have c2 := hB1.cell 2 rfl; have d0 : w.cell? ⟨g, 0, none⟩ = some (.slice A p.last.rows.length c) := hP.b.cell 0 rfl; have d1 : w.cell? ⟨g, 1, none⟩ = some (.int .i64 (p.last.row : Int)) := hP.b.cell 1 rfl; have d2 : w.cell? ⟨g, 2, none⟩ = some (.int .i64 (p.last.col : Int)) := hP.b.cell 2 rfl; have d3 : w.cell? ⟨g, 3, none⟩ = some (.bool true) := (hP.b.cell 3 rfl).trans (congrArg (fun b => some (Value.bool b)) HIS.out); go_simp; first | done | (with_reducible rfl) | rfl)
      case rest71 =>
      try simp only [Act.put, List.setIfInBounds_toArray, List.set_cons_zero, List.set_cons_succ]
      refine wpAnyH_ready (rs := [15]) (by kernel_rfl) (by simp) ?_
      refine consH rfl (fun K hK => ?_) AllReadyH.nil
      go_simp
      go_at_call 33
      with_reducible refine (fsame_calls (f1 := f) (f2 := p.last) (HP0.out.pf hHd.2.2) hHd.2.1.r (fun x hx => (HLL.out.1 x hx).2) HLL.out.2 (by omega)).mono ?_
      rw [HQ.out]
      rintro _ wq ⟨rfl, hb2⟩
      have hHd2 : (fun w' : World => Blk w' w.heap.size 38 #[.slice Af f.rows.length cf, .int .i64 (f.row : Int), .int .i64 (f.col : Int)] ∧ PtO B w' g p (.slice A p.last.rows.length c) bv L ∧ Pf B g w w') wq := ⟨hHd.1.belowW hb2, hHd.2.1.below hb2, hHd.2.2.below hb2⟩
      clear hb2 hHd
      have hHd := hHd2
      clear hHd2
      go_simp
      refine hK.out _ _ hHd ?_
      clear hK K
      try simp only [Act.put, List.setIfInBounds_toArray, List.set_cons_zero, List.set_cons_succ]
      refine takeH (i := 16) (v := ?v72) rfl (by kernel_rfl) (by kernel_rfl) (by kernel_rfl) (fun _ _ _ h => h) (Or.inl ⟨by rfl, ?hy72⟩) (by assumption) ?rest72
      case hy72 => (intro w hSw; (try dsimp only at hSw); obtain ⟨hB1, hP, _⟩ := hSw; have c0 := hB1.cell 0 rfl; have c1 := hB1.cell 1 rfl; have c2 := hB1.cell 2 rfl; have d0 : w.cell? ⟨g, 0, none⟩ = some (.slice A p.last.rows.length c) := hP.b.cell 0 rfl; have d1 : w.cell? ⟨g, 1, none⟩ = some (.int .i64 (p.last.row : Int)) := hP.b.cell 1 rfl; have d2 : w.cell? ⟨g, 2, none⟩ = some (.int .i64 (p.last.col : Int)) := hP.b.cell 2 rfl; have d3 : w.cell? ⟨g, 3, none⟩ = some (.bool true) := (hP.b.cell 3 rfl).trans (congrArg (fun b => some (Value.bool b)) HIS.out); go_simp; first | done | (with_reducible rfl) | rfl)
      case rest72 =>
      try simp only [Act.put, List.setIfInBounds_toArray, List.set_cons_zero, List.set_cons_succ]
      refine takeH (i := 17) (v := ?v73) rfl (by kernel_rfl) (by kernel_rfl) (by kernel_rfl) (fun _ _ _ h => h) (Or.inl ⟨by rfl, ?hy73⟩) (by assumption) ?rest73
      case hy73 => (intro w hSw; (try dsimp only at hSw); obtain ⟨hB1, hP, _⟩ := hSw; have c0 := hB1.cell 0 rfl; have c1 := hB1.cell 1 rfl; have c2 := hB1.cell 2 rfl; have d0 : w.cell? ⟨g, 0, none⟩ = some (.slice A p.last.rows.length c) := hP.b.cell 0 rfl; have d1 : w.cell? ⟨g, 1, none⟩ = some (.int .i64 (p.last.row : Int)) := hP.b.cell 1 rfl; have d2 : w.cell? ⟨g, 2, none⟩ = some (.int .i64 (p.last.col : Int)) := hP.b.cell 2 rfl; have d3 : w.cell? ⟨g, 3, none⟩ = some (.bool true) := (hP.b.cell 3 rfl).trans (congrArg (fun b => some (Value.bool b)) HIS.out); go_simp; first | done | (with_reducible rfl) | rfl)
      case rest73 =>
      try simp only [Act.put, List.setIfInBounds_toArray, List.set_cons_zero, List.set_cons_succ]
      refine wpAnyH_done (by kernel_rfl) ?_ _
      refine hKQ _ _ ?_
      have HBX1 := Hd.mk hHd.1
      have H1 := Hd.mk hHd.2.1
      have HF1 := Hd.mk hHd.2.2
      clear hHd
      cases bq with
      | true =>
        have HE : Hd (p.draw f = p) := ⟨by unfold Pt.draw; rw [if_pos (.inr ⟨HIS.out, of_decide_eq_true HQ.out⟩)]⟩
        go_wp2
        (try simp only [Exit.inBlock, Exit.then]); refine bodyPost_ret (results_none rfl _ _ _) rfl ?_
        exact ⟨rfl, _, _, _, by rw [HE.out]; exact H1.out, HF1.out⟩
      | false =>
        have HNE : Hd (p.draw f = p.drawn f) := ⟨by unfold Pt.draw; rw [if_neg]; rintro (h | h); exact HZ.out h; exact of_decide_eq_false HQ.out h.2⟩
        have HDR : Hd (p.draw f = { (((linesP f.rows p.last.rows n 0 p).to f.row).say (colB f.col)) with last := f, is := true }) := ⟨by rw [HNE.out]; unfold Pt.drawn; rw [HMX.out]⟩
        have HNL : Hd ((((linesP f.rows p.last.rows n 0 p).to f.row).say (colB f.col)).b.length ≤ 1099511627776) := ⟨by have h1 := HN.out; rw [HDR.out] at h1; exact h1⟩
        clear HN HNE HMX
        go_wp2_with fail
        go_upto_region 2 with fail
        rename_i KQ hKQ
        refine regionH (fun w' : World => Blk w' w.heap.size 38 #[.slice Af f.rows.length cf, .int .i64 (f.row : Int), .int .i64 (f.col : Int)] ∧ PtO B w' g p (.slice A p.last.rows.length c) bv L ∧ Pf B g w w') (by kernel_rfl) (fun wd hb => ?_)
        have hHd : (fun w' : World => Blk w' w.heap.size 38 #[.slice Af f.rows.length cf, .int .i64 (f.row : Int), .int .i64 (f.col : Int)] ∧ PtO B w' g p (.slice A p.last.rows.length c) bv L ∧ Pf B g w w') wd := ⟨HBX1.out.belowW hb, H1.out.below hb, HF1.out.below hb⟩
        clear hb
        clear HBX1 H1 HF1
        refine takeH (i := 0) (v := ?v74) rfl (by kernel_rfl) (by kernel_rfl) (by kernel_rfl) (fun _ _ _ h => h) (Or.inl ⟨by rfl, ?hy74⟩) (by assumption) ?rest74
        case hy74 => (intro w hSw; (try dsimp only at hSw); obtain ⟨hB1, hP, _⟩ := hSw; have c0 := hB1.cell 0 rfl; have c1 := hB1.cell 1 rfl; have c2 := hB1.cell 2 rfl; have d0 : w.cell? ⟨g, 0, none⟩ = some (.slice A p.last.rows.length c) := hP.b.cell 0 rfl; have d1 : w.cell? ⟨g, 1, none⟩ = some (.int .i64 (p.last.row : Int)) := hP.b.cell 1 rfl; have d2 : w.cell? ⟨g, 2, none⟩ = some (.int .i64 (p.last.col : Int)) := hP.b.cell 2 rfl; have d3 := hP.b.cell 3 rfl; go_simp; first | done | (with_reducible rfl) | rfl)
        case rest74 =>
        try simp only [Act.put, List.setIfInBounds_toArray, List.set_cons_zero, List.set_cons_succ]
        refine takeH (i := 1) (v := ?v75) rfl (by kernel_rfl) (by kernel_rfl) (by kernel_rfl) (fun _ _ _ h => h) (Or.inl ⟨by rfl, ?hy75⟩) (by assumption) ?rest75
        case hy75 => (intro w hSw; (try dsimp only at hSw); obtain ⟨hB1, hP, _⟩ := hSw; have c0 := hB1.cell 0 rfl; have c1 := hB1.cell 1 rfl; have c2 := hB1.cell 2 rfl; have d0 : w.cell? ⟨g, 0, none⟩ = some (.slice A p.last.rows.length c) := hP.b.cell 0 rfl; have d1 : w.cell? ⟨g, 1, none⟩ = some (.int .i64 (p.last.row : Int)) := hP.b.cell 1 rfl; have d2 : w.cell? ⟨g, 2, none⟩ = some (.int .i64 (p.last.col : Int)) := hP.b.cell 2 rfl; have d3 := hP.b.cell 3 rfl; go_simp; first | done | (with_reducible rfl) | rfl)
        case rest75 =>
        try simp only [Act.put, List.setIfInBounds_toArray, List.set_cons_zero, List.set_cons_succ]
        refine takeH (i := 2) (v := ?v76) rfl (by kernel_rfl) (by kernel_rfl) (by kernel_rfl) (fun _ _ _ h => h) (Or.inl ⟨by rfl, ?hy76⟩) (by assumption) ?rest76
        case hy76 => (intro w hSw; (try dsimp only at hSw); obtain ⟨hB1, hP, _⟩ := hSw; have c0 := hB1.cell 0 rfl; have c1 := hB1.cell 1 rfl; have c2 := hB1.cell 2 rfl; have d0 : w.cell? ⟨g, 0, none⟩ = some (.slice A p.last.rows.length c) := hP.b.cell 0 rfl; have d1 : w.cell? ⟨g, 1, none⟩ = some (.int .i64 (p.last.row : Int)) := hP.b.cell 1 rfl; have d2 : w.cell? ⟨g, 2, none⟩ = some (.int .i64 (p.last.col : Int)) := hP.b.cell 2 rfl; have d3 := hP.b.cell 3 rfl; go_simp; first | done | (with_reducible rfl) | rfl)
        case rest76 =>
        try simp only [Act.put, List.setIfInBounds_toArray, List.set_cons_zero, List.set_cons_succ]
        refine takeH (i := 3) (v := ?v77) rfl (by kernel_rfl) (by kernel_rfl) (by kernel_rfl) (fun _ _ _ h => h) (Or.inl ⟨by rfl, ?hy77⟩) (by assumption) ?rest77
        case hy77 => (intro w hSw; (try dsimp only at hSw); obtain ⟨hB1, hP, _⟩ := hSw; have c0 := hB1.cell 0 rfl; have c1 := hB1.cell 1 rfl; have c2 := hB1.cell 2 rfl; have d0 : w.cell? ⟨g, 0, none⟩ = some (.slice A p.last.rows.length c) := hP.b.cell 0 rfl; have d1 : w.cell? ⟨g, 1, none⟩ = some (.int .i64 (p.last.row : Int)) := hP.b.cell 1 rfl; have d2 : w.cell? ⟨g, 2, none⟩ = some (.int .i64 (p.last.col : Int)) := hP.b.cell 2 rfl; have d3 := hP.b.cell 3 rfl; go_simp; first | done | (with_reducible rfl) | rfl)
        case rest77 =>
        try simp only [Act.put, List.setIfInBounds_toArray, List.set_cons_zero, List.set_cons_succ]
        refine takeH (i := 4) (v := ?v78) rfl (by kernel_rfl) (by kernel_rfl) (by kernel_rfl) (fun _ _ _ h => h) (Or.inl ⟨by rfl, ?hy78⟩) (by assumption) ?rest78
        case hy78 => (intro w hSw; (try dsimp only at hSw); obtain ⟨hB1, hP, _⟩ := hSw; have c0 := hB1.cell 0 rfl; have c1 := hB1.cell 1 rfl; have c2 := hB1.cell 2 rfl; have d0 : w.cell? ⟨g, 0, none⟩ = some (.slice A p.last.rows.length c) := hP.b.cell 0 rfl; have d1 : w.cell? ⟨g, 1, none⟩ = some (.int .i64 (p.last.row : Int)) := hP.b.cell 1 rfl; have d2 : w.cell? ⟨g, 2, none⟩ = some (.int .i64 (p.last.col : Int)) := hP.b.cell 2 rfl; have d3 := hP.b.cell 3 rfl; go_simp; first | done | (with_reducible rfl) | rfl)
        case rest78 =>
        try simp only [Act.put, List.setIfInBounds_toArray, List.set_cons_zero, List.set_cons_succ]
        refine takeH (i := 5) (v := ?v79) rfl (by kernel_rfl) (by kernel_rfl) (by kernel_rfl) (fun _ _ _ h => h) (Or.inl ⟨by rfl, ?hy79⟩) (by assumption) ?rest79
        case hy79 => (intro w hSw; (try dsimp only at hSw); obtain ⟨hB1, hP, _⟩ := hSw; have c0 := hB1.cell 0 rfl; have c1 := hB1.cell 1 rfl; have c2 := hB1.cell 2 rfl; have d0 : w.cell? ⟨g, 0, none⟩ = some (.slice A p.last.rows.length c) := hP.b.cell 0 rfl; have d1 : w.cell? ⟨g, 1, none⟩ = some (.int .i64 (p.last.row : Int)) := hP.b.cell 1 rfl; have d2 : w.cell? ⟨g, 2, none⟩ = some (.int .i64 (p.last.col : Int)) := hP.b.cell 2 rfl; have d3 := hP.b.cell 3 rfl; go_simp; first | done | (with_reducible rfl) | rfl)
        case rest79 =>
        try simp only [Act.put, List.setIfInBounds_toArray, List.set_cons_zero, List.set_cons_succ]
        refine takeH (i := 6) (v := ?v80) rfl (by kernel_rfl) (by kernel_rfl) (by kernel_rfl) (fun _ _ _ h => h) (Or.inl ⟨by rfl, ?hy80⟩) (by assumption) ?rest80
        case hy80 => (intro w hSw; (try dsimp only at hSw); obtain ⟨hB1, hP, _⟩ := hSw; have c0 := hB1.cell 0 rfl; have c1 := hB1.cell 1 rfl; have c2 := hB1.cell 2 rfl; have d0 : w.cell? ⟨g, 0, none⟩ = some (.slice A p.last.rows.length c) := hP.b.cell 0 rfl; have d1 : w.cell? ⟨g, 1, none⟩ = some (.int .i64 (p.last.row : Int)) := hP.b.cell 1 rfl; have d2 : w.cell? ⟨g, 2, none⟩ = some (.int .i64 (p.last.col : Int)) := hP.b.cell 2 rfl; have d3 := hP.b.cell 3 rfl; go_simp; first | done | (with_reducible rfl) | rfl)
        case rest80 =>
        try simp only [Act.put, List.setIfInBounds_toArray, List.set_cons_zero, List.set_cons_succ]
        refine takeH (i := 7) (v := ?v81) rfl (by kernel_rfl) (by kernel_rfl) (by kernel_rfl) (fun _ _ _ h => h) (Or.inl ⟨by rfl, ?hy81⟩) (by assumption) ?rest81
        case hy81 => (intro w hSw; (try dsimp only at hSw); obtain ⟨hB1, hP, _⟩ := hSw; have c0 := hB1.cell 0 rfl; have c1 := hB1.cell 1 rfl; have c2 := hB1.cell 2 rfl; have d0 : w.cell? ⟨g, 0, none⟩ = some (.slice A p.last.rows.length c) := hP.b.cell 0 rfl; have d1 : w.cell? ⟨g, 1, none⟩ = some (.int .i64 (p.last.row : Int)) := hP.b.cell 1 rfl; have d2 : w.cell? ⟨g, 2, none⟩ = some (.int .i64 (p.last.col : Int)) := hP.b.cell 2 rfl; have d3 := hP.b.cell 3 rfl; go_simp; first | done | (with_reducible rfl) | rfl)
        case rest81 =>
        try simp only [Act.put, List.setIfInBounds_toArray, List.set_cons_zero, List.set_cons_succ]
        refine takeH (i := 8) (v := ?v82) rfl (by kernel_rfl) (by kernel_rfl) (by kernel_rfl) (fun _ _ _ h => h) (Or.inl ⟨by rfl, ?hy82⟩) (by assumption) ?rest82
        case hy82 => (intro w hSw; (try dsimp only at hSw); obtain ⟨hB1, hP, _⟩ := hSw; have c0 := hB1.cell 0 rfl; have c1 := hB1.cell 1 rfl; have c2 := hB1.cell 2 rfl; have d0 : w.cell? ⟨g, 0, none⟩ = some (.slice A p.last.rows.length c) := hP.b.cell 0 rfl; have d1 : w.cell? ⟨g, 1, none⟩ = some (.int .i64 (p.last.row : Int)) := hP.b.cell 1 rfl; have d2 : w.cell? ⟨g, 2, none⟩ = some (.int .i64 (p.last.col : Int)) := hP.b.cell 2 rfl; have d3 := hP.b.cell 3 rfl; go_simp; first | done | (with_reducible rfl) | rfl)
        case rest82 =>
        try simp only [Act.put, List.setIfInBounds_toArray, List.set_cons_zero, List.set_cons_succ]
        refine takeH (i := 9) (v := (.int .i64 (n : Int))) rfl (by kernel_rfl) (by kernel_rfl) (by kernel_rfl) (fun _ _ _ h => h) (Or.inl ⟨by rfl, ?hy83⟩) (by assumption) ?rest83
        case hy83 => (intro w hSw; (try dsimp only at hSw); obtain ⟨hB1, hP, _⟩ := hSw; have c0 := hB1.cell 0 rfl; have c1 := hB1.cell 1 rfl; have c2 := hB1.cell 2 rfl; have d0 : w.cell? ⟨g, 0, none⟩ = some (.slice A p.last.rows.length c) := hP.b.cell 0 rfl; have d1 : w.cell? ⟨g, 1, none⟩ = some (.int .i64 (p.last.row : Int)) := hP.b.cell 1 rfl; have d2 : w.cell? ⟨g, 2, none⟩ = some (.int .i64 (p.last.col : Int)) := hP.b.cell 2 rfl; have d3 := hP.b.cell 3 rfl; go_simp; first | done | (with_reducible rfl) | rfl)
        case rest83 =>
        try simp only [Act.put, List.setIfInBounds_toArray, List.set_cons_zero, List.set_cons_succ]
        refine takeH (i := 10) (v := ?v84) rfl (by kernel_rfl) (by kernel_rfl) (by kernel_rfl) (fun _ _ _ h => h) (Or.inl ⟨by rfl, ?hy84⟩) (by assumption) ?rest84
        case hy84 => (intro w hSw; (try dsimp only at hSw); obtain ⟨hB1, hP, _⟩ := hSw; have c0 := hB1.cell 0 rfl; have c1 := hB1.cell 1 rfl; have c2 := hB1.cell 2 rfl; have d0 : w.cell? ⟨g, 0, none⟩ = some (.slice A p.last.rows.length c) := hP.b.cell 0 rfl; have d1 : w.cell? ⟨g, 1, none⟩ = some (.int .i64 (p.last.row : Int)) := hP.b.cell 1 rfl; have d2 : w.cell? ⟨g, 2, none⟩ = some (.int .i64 (p.last.col : Int)) := hP.b.cell 2 rfl; have d3 := hP.b.cell 3 rfl; go_simp; first | done | (with_reducible rfl) | rfl)
        case rest84 =>
        try simp only [Act.put, List.setIfInBounds_toArray, List.set_cons_zero, List.set_cons_succ]
        refine wpAnyH_done (by kernel_rfl) ?_ _
        refine hKQ _ _ ?_
        have HBX2 := Hd.mk hHd.1
        have H2 := Hd.mk hHd.2.1
        have HF2 := Hd.mk hHd.2.2
        clear hHd hmx1 hmx2 hmx3
        go_wp2_with fail
        go_loopg [36] n (fun gk v36 wx => ∃ (k : Nat) (q : Pt) (bv' : Value), v36 = .int .i64 (k : Int) ∧ k + gk = n ∧ Hd (linesP f.rows p.last.rows gk k q = linesP f.rows p.last.rows n 0 p) ∧ Hd (HiOK 1000 q) ∧ Hd (q.last = p.last) ∧ Hd (PtO B wx g q (.slice A p.last.rows.length c) bv' L) ∧ Hd (Blk wx w.heap.size 38 #[.slice Af f.rows.length cf, .int .i64 (f.row : Int), .int .i64 (f.col : Int)]) ∧ Hd (Pf B g w wx))
        case atStart => exact ⟨0, p, bv, rfl, by omega, ⟨rfl⟩, HI, ⟨rfl⟩, H2, HBX2, HF2⟩
        case round =>
          clear H2 HBX2 HF2
          obtain ⟨k, q, bv', rfl, hk, HT, HIQ, HQL, H1, HBX1, HF1⟩ := hrel
          cases gk with
          | zero =>
            have hlt : decide ((k : Int) < (n : Int)) = false := decide_eq_false (by omega)
            have hlt2 : decide (k < n) = false := decide_eq_false (by omega)
            have hlt3 : ¬ k < n := by omega
            have HQE : Hd (q = linesP f.rows p.last.rows n 0 p) := ⟨HT.out⟩
            rw [← HQE.out] at HDR HNL
            clear HT HQE hk
            have c1 := HBX1.out.cell 1 rfl
            have X1 := Hd.mk (pto_calls H1.out f.row (by have := HFR.out.1; omega) ⟨HIQ.out.1, by have := HIQ.out.2.1; omega⟩ (by have := HIQ.out.2.2; omega) (Nat.le_trans HBS.out HF1.out.size) (by have h1 := HNL.out; rw [Pt.say_b, List.length_append] at h1; have e : (q.to f.row).b = q.b ++ toB q f.row := rfl; rw [e, List.length_append] at h1; omega))
            clear H1
            go_wp2_with fail
            go_at_call 20
            with_reducible refine X1.out.mono ?_
            rintro _ wa ⟨rfl, bva, ha, fa⟩
            have HFa := Hd.mk (HF1.out.trans fa)
            have HBXa := Hd.mk (HBX1.out.pf fa (by decide) (by decide))
            have c2 := HBXa.out.cell 2 rfl
            have X2 := Hd.mk (column_calls ha f.col (by have := HFR.out.2; omega) (Nat.le_trans HBS.out HFa.out.size) (by have h1 := HNL.out; rw [Pt.say_b, List.length_append] at h1; omega))
            clear ha fa X1 HBX1 HF1 c1
            go_wp2_with fail
            go_at_call 37
            with_reducible refine X2.out.mono ?_
            rintro _ wb ⟨rfl, bvb, hb, fb⟩
            have HFb := Hd.mk (HFa.out.trans fb)
            have HBXb := Hd.mk (HBXa.out.pf fb (by decide) (by decide))
            have d0 := HBXb.out.cell 0 rfl
            have d1 := HBXb.out.cell 1 rfl
            have d2 := HBXb.out.cell 2 rfl
            have Hb := Hd.mk hb
            have X3 := Hd.mk (fcopy_calls (HP0.out.pf HFb.out) HLL.out.1 (by omega) f.row f.col)
            clear hb fb X2 HBXa HFa c2
            go_wp2_with fail
            go_at_call 19
            with_reducible refine X3.out.mono ?_
            rintro _ wc ⟨lv', L', rfl, hr, hbl⟩
            have HFc := Hd.mk (HFb.out.below hbl)
            have Hc := Hd.mk (Hb.out.below hbl)
            have HR := Hd.mk (hr.mono (P' := fun _ => True) (fun _ _ => trivial))
            have HRS := Hd.mk (spine_one hr.q)
            clear hr hbl X3 HFb Hb HBXb d0 d1 d2
            go_wp2_with (first | ((with_reducible refine gate_store (t := 38) (p := 73) rfl ?_); refine wpList_store_mid rfl 38 _ _ rfl g 0 #[lv', .int .i64 (f.row : Int), .int .i64 (f.col : Int)] (by first | rfl | (go_simp; done) | (go_simp; rfl)) (by first | rfl | (go_simp; done) | (go_simp; rfl)) (fun j hj => ⟨by rw [Hc.out.b.cell (0 + j) (Array.getElem?_eq_getElem (show 0 + j < 7 by have h1 : j < 3 := hj; omega))]; rfl, Hc.out.b.frozen _⟩) infoFrame3 (by have h1 := HRS.out; simp [Value.oneCell'] at h1 ⊢; exact h1) ?_; have b3 := ((Hc.out.b.set_ 0 lv').set_ 1 (.int .i64 (f.row : Int))).set_ 2 (.int .i64 (f.col : Int)); have c3 : (wc.setCells g 0 [lv', .int .i64 (f.row : Int), .int .i64 (f.col : Int)]).cell? ⟨g, 3, none⟩ = some (.bool q.is) := b3.cell 3 rfl; have f3 : (wc.setCells g 0 [lv', .int .i64 (f.row : Int), .int .i64 (f.col : Int)]).frozen? ⟨g, 3, none⟩ = false := b3.frozen 3; clear b3))
            go_end0
            exact ⟨rfl, lv', bvb, L', by rw [HDR.out]; exact (Hc.out.last_ f HR.out).1, HFc.out.trans (Hc.out.last_ f HR.out).2⟩
          | succ d =>
            have hlt : decide ((k : Int) < (n : Int)) = true := decide_eq_true (by omega)
            have hlt2 : decide (k < n) = true := decide_eq_true (by omega)
            have hlt3 : (k : Int) < (n : Int) := by omega
            have hlt4 : k < n := by omega
            have hk0 : (0 : Int) ≤ (k : Int) := Int.natCast_nonneg _
            have hk1 : (k : Int) ≤ 1000 := by omega
            have HM1 : Hd (f.rows.length ≤ 1000 ∧ p.last.rows.length ≤ 1000 ∧ k ≤ 1000) := ⟨by omega, by omega, by omega⟩
            go_wp2_with fail
            go_upto_region 5 with fail
            rename_i KQ hKQ
            refine regionH (fun w' : World => Blk w' w.heap.size 38 #[.slice Af f.rows.length cf, .int .i64 (f.row : Int), .int .i64 (f.col : Int)] ∧ PtO B w' g q (.slice A p.last.rows.length c) bv' L ∧ Pf B g w w') (by kernel_rfl) (fun wd hb => ?_)
            have hHd : (fun w' : World => Blk w' w.heap.size 38 #[.slice Af f.rows.length cf, .int .i64 (f.row : Int), .int .i64 (f.col : Int)] ∧ PtO B w' g q (.slice A p.last.rows.length c) bv' L ∧ Pf B g w w') wd := ⟨HBX1.out.belowW hb, H1.out.below hb, HF1.out.below hb⟩
            clear hb
            clear HBX1 H1 HF1
            refine takeH (i := 0) (v := (.agg #[.slice Af f.rows.length cf, .int .i64 (f.row : Int), .int .i64 (f.col : Int)])) rfl (by kernel_rfl) (by kernel_rfl) (by kernel_rfl) (fun _ _ _ h => h) (Or.inl ⟨by rfl, ?hy85⟩) (by assumption) ?rest85
            case hy85 => (intro w hSw; (try dsimp only at hSw); obtain ⟨hB1, hP, _⟩ := hSw; have c0 := hB1.cell 0 rfl; have c1 := hB1.cell 1 rfl; have c2 := hB1.cell 2 rfl; have d0 : w.cell? ⟨g, 0, none⟩ = some (.slice A p.last.rows.length c) := hP.b.cell 0 rfl; have d1 : w.cell? ⟨g, 1, none⟩ = some (.int .i64 (q.last.row : Int)) := hP.b.cell 1 rfl; have d2 : w.cell? ⟨g, 2, none⟩ = some (.int .i64 (q.last.col : Int)) := hP.b.cell 2 rfl; have d3 := hP.b.cell 3 rfl; go_simp; first | done | (with_reducible rfl) | rfl)
            case rest85 =>
            try simp only [Act.put, List.setIfInBounds_toArray, List.set_cons_zero, List.set_cons_succ]
            refine takeH (i := 1) (v := ?v86) rfl (by kernel_rfl) (by kernel_rfl) (by kernel_rfl) (fun _ _ _ h => h) (Or.inl ⟨by rfl, ?hy86⟩) (by assumption) ?rest86
            case hy86 => (intro w hSw; (try dsimp only at hSw); obtain ⟨hB1, hP, _⟩ := hSw; have c0 := hB1.cell 0 rfl; have c1 := hB1.cell 1 rfl; have c2 := hB1.cell 2 rfl; have d0 : w.cell? ⟨g, 0, none⟩ = some (.slice A p.last.rows.length c) := hP.b.cell 0 rfl; have d1 : w.cell? ⟨g, 1, none⟩ = some (.int .i64 (q.last.row : Int)) := hP.b.cell 1 rfl; have d2 : w.cell? ⟨g, 2, none⟩ = some (.int .i64 (q.last.col : Int)) := hP.b.cell 2 rfl; have d3 := hP.b.cell 3 rfl; go_simp; first | done | (with_reducible rfl) | rfl)
            case rest86 =>
            try simp only [Act.put, List.setIfInBounds_toArray, List.set_cons_zero, List.set_cons_succ]
            refine takeH (i := 3) (v := ?v87) rfl (by kernel_rfl) (by kernel_rfl) (by kernel_rfl) (fun _ _ _ h => h) (Or.inl ⟨by rfl, ?hy87⟩) (by assumption) ?rest87
            case hy87 => (intro w hSw; (try dsimp only at hSw); obtain ⟨hB1, hP, _⟩ := hSw; have c0 := hB1.cell 0 rfl; have c1 := hB1.cell 1 rfl; have c2 := hB1.cell 2 rfl; have d0 : w.cell? ⟨g, 0, none⟩ = some (.slice A p.last.rows.length c) := hP.b.cell 0 rfl; have d1 : w.cell? ⟨g, 1, none⟩ = some (.int .i64 (q.last.row : Int)) := hP.b.cell 1 rfl; have d2 : w.cell? ⟨g, 2, none⟩ = some (.int .i64 (q.last.col : Int)) := hP.b.cell 2 rfl; have d3 := hP.b.cell 3 rfl; go_simp; first | done | (with_reducible rfl) | rfl)
            case rest87 =>
            try simp only [Act.put, List.setIfInBounds_toArray, List.set_cons_zero, List.set_cons_succ]
            refine takeH (i := 4) (v := ?v88) rfl (by kernel_rfl) (by kernel_rfl) (by kernel_rfl) (fun _ _ _ h => h) (Or.inl ⟨by rfl, ?hy88⟩) (by assumption) ?rest88
            case hy88 => (intro w hSw; (try dsimp only at hSw); obtain ⟨hB1, hP, _⟩ := hSw; have c0 := hB1.cell 0 rfl; have c1 := hB1.cell 1 rfl; have c2 := hB1.cell 2 rfl; have d0 : w.cell? ⟨g, 0, none⟩ = some (.slice A p.last.rows.length c) := hP.b.cell 0 rfl; have d1 : w.cell? ⟨g, 1, none⟩ = some (.int .i64 (q.last.row : Int)) := hP.b.cell 1 rfl; have d2 : w.cell? ⟨g, 2, none⟩ = some (.int .i64 (q.last.col : Int)) := hP.b.cell 2 rfl; have d3 := hP.b.cell 3 rfl; go_simp; first | done | (with_reducible rfl) | rfl)
            case rest88 =>
            try simp only [Act.put, List.setIfInBounds_toArray, List.set_cons_zero, List.set_cons_succ]
            refine takeH (i := 5) (v := ?v89) rfl (by kernel_rfl) (by kernel_rfl) (by kernel_rfl) (fun _ _ _ h => h) (Or.inl ⟨by rfl, ?hy89⟩) (by assumption) ?rest89
            case hy89 => (intro w hSw; (try dsimp only at hSw); obtain ⟨hB1, hP, _⟩ := hSw; have c0 := hB1.cell 0 rfl; have c1 := hB1.cell 1 rfl; have c2 := hB1.cell 2 rfl; have d0 : w.cell? ⟨g, 0, none⟩ = some (.slice A p.last.rows.length c) := hP.b.cell 0 rfl; have d1 : w.cell? ⟨g, 1, none⟩ = some (.int .i64 (q.last.row : Int)) := hP.b.cell 1 rfl; have d2 : w.cell? ⟨g, 2, none⟩ = some (.int .i64 (q.last.col : Int)) := hP.b.cell 2 rfl; have d3 := hP.b.cell 3 rfl; go_simp; first | done | (with_reducible rfl) | rfl)
            case rest89 =>
            try simp only [Act.put, List.setIfInBounds_toArray, List.set_cons_zero, List.set_cons_succ]
            refine takeH (i := 6) (v := (.agg #[.slice A p.last.rows.length c, .int .i64 (q.last.row : Int), .int .i64 (q.last.col : Int)])) rfl (by kernel_rfl) (by kernel_rfl) (by kernel_rfl) (fun _ _ _ h => h) (Or.inl ⟨by rfl, ?hy90⟩) (by assumption) ?rest90
            case hy90 => (intro w hSw; (try dsimp only at hSw); obtain ⟨hB1, hP, _⟩ := hSw; have c0 := hB1.cell 0 rfl; have c1 := hB1.cell 1 rfl; have c2 := hB1.cell 2 rfl; have d0 : w.cell? ⟨g, 0, none⟩ = some (.slice A p.last.rows.length c) := hP.b.cell 0 rfl; have d1 : w.cell? ⟨g, 1, none⟩ = some (.int .i64 (q.last.row : Int)) := hP.b.cell 1 rfl; have d2 : w.cell? ⟨g, 2, none⟩ = some (.int .i64 (q.last.col : Int)) := hP.b.cell 2 rfl; have d3 := hP.b.cell 3 rfl; go_simp; first | done | (with_reducible rfl) | rfl)
            case rest90 =>
            try simp only [Act.put, List.setIfInBounds_toArray, List.set_cons_zero, List.set_cons_succ]
            refine takeH (i := 7) (v := ?v91) rfl (by kernel_rfl) (by kernel_rfl) (by kernel_rfl) (fun _ _ _ h => h) (Or.inl ⟨by rfl, ?hy91⟩) (by assumption) ?rest91
            case hy91 => (intro w hSw; (try dsimp only at hSw); obtain ⟨hB1, hP, _⟩ := hSw; have c0 := hB1.cell 0 rfl; have c1 := hB1.cell 1 rfl; have c2 := hB1.cell 2 rfl; have d0 : w.cell? ⟨g, 0, none⟩ = some (.slice A p.last.rows.length c) := hP.b.cell 0 rfl; have d1 : w.cell? ⟨g, 1, none⟩ = some (.int .i64 (q.last.row : Int)) := hP.b.cell 1 rfl; have d2 : w.cell? ⟨g, 2, none⟩ = some (.int .i64 (q.last.col : Int)) := hP.b.cell 2 rfl; have d3 := hP.b.cell 3 rfl; go_simp; first | done | (with_reducible rfl) | rfl)
            case rest91 =>
            try simp only [Act.put, List.setIfInBounds_toArray, List.set_cons_zero, List.set_cons_succ]
            refine wpAnyH_ready (rs := [2]) (by kernel_rfl) (by simp) ?_
            refine consH rfl (fun K hK => ?_) AllReadyH.nil
            go_simp
            go_at_call 34
            with_reducible refine (pat_calls (HP0.out.pf hHd.2.2) f.row f.col k HM1.out.1 HM1.out.2.2).mono ?_
            rintro _ wq ⟨v1, rfl, hv1, hb2⟩
            have V1 := Hd.mk hv1
            clear hv1
            have hHd2 : (fun w' : World => Blk w' w.heap.size 38 #[.slice Af f.rows.length cf, .int .i64 (f.row : Int), .int .i64 (f.col : Int)] ∧ PtO B w' g q (.slice A p.last.rows.length c) bv' L ∧ Pf B g w w') wq := ⟨hHd.1.belowW hb2, hHd.2.1.below hb2, hHd.2.2.below hb2⟩
            clear hb2 hHd
            have hHd := hHd2
            clear hHd2
            go_simp
            refine hK.out _ _ hHd ?_
            clear hK K
            try simp only [Act.put, List.setIfInBounds_toArray, List.set_cons_zero, List.set_cons_succ]
            refine wpAnyH_ready (rs := [8]) (by kernel_rfl) (by simp) ?_
            refine consH rfl (fun K hK => ?_) AllReadyH.nil
            go_simp
            go_at_call 34
            with_reducible refine (pat_calls hHd.2.1.r q.last.row q.last.col k (by rw [HQL.out]; exact HM1.out.2.1) HM1.out.2.2).mono ?_
            rintro _ wy ⟨v2, rfl, hv2, hb2⟩
            rw [HQL.out] at hv2
            have V2 := Hd.mk hv2
            clear hv2
            have hHd2 : (fun w' : World => Blk w' w.heap.size 38 #[.slice Af f.rows.length cf, .int .i64 (f.row : Int), .int .i64 (f.col : Int)] ∧ PtO B w' g q (.slice A p.last.rows.length c) bv' L ∧ Pf B g w w') wy := ⟨hHd.1.belowW hb2, hHd.2.1.below hb2, hHd.2.2.below hb2⟩
            have V1' := Hd.mk (V1.out.below hb2)
            clear V1
            clear hb2 hHd
            have hHd := hHd2
            clear hHd2
            go_simp
            refine hK.out _ _ hHd ?_
            clear hK K
            try simp only [Act.put, List.setIfInBounds_toArray, List.set_cons_zero, List.set_cons_succ]
            refine takeH (i := 9) (v := ?v92) rfl (by kernel_rfl) (by kernel_rfl) (by kernel_rfl) (fun _ _ _ h => h) (Or.inl ⟨by rfl, ?hy92⟩) (by assumption) ?rest92
            case hy92 => (intro w hSw; (try dsimp only at hSw); obtain ⟨hB1, hP, _⟩ := hSw; have c0 := hB1.cell 0 rfl; have c1 := hB1.cell 1 rfl; have c2 := hB1.cell 2 rfl; have d0 : w.cell? ⟨g, 0, none⟩ = some (.slice A p.last.rows.length c) := hP.b.cell 0 rfl; have d1 : w.cell? ⟨g, 1, none⟩ = some (.int .i64 (q.last.row : Int)) := hP.b.cell 1 rfl; have d2 : w.cell? ⟨g, 2, none⟩ = some (.int .i64 (q.last.col : Int)) := hP.b.cell 2 rfl; have d3 := hP.b.cell 3 rfl; go_simp; first | done | (with_reducible rfl) | rfl)
            case rest92 =>
            try simp only [Act.put, List.setIfInBounds_toArray, List.set_cons_zero, List.set_cons_succ]
            refine takeH (i := 10) (v := ?v93) rfl (by kernel_rfl) (by kernel_rfl) (by kernel_rfl) (fun _ _ _ h => h) (Or.inl ⟨by rfl, ?hy93⟩) (by assumption) ?rest93
            case hy93 => (intro w hSw; (try dsimp only at hSw); obtain ⟨hB1, hP, _⟩ := hSw; have c0 := hB1.cell 0 rfl; have c1 := hB1.cell 1 rfl; have c2 := hB1.cell 2 rfl; have d0 : w.cell? ⟨g, 0, none⟩ = some (.slice A p.last.rows.length c) := hP.b.cell 0 rfl; have d1 : w.cell? ⟨g, 1, none⟩ = some (.int .i64 (q.last.row : Int)) := hP.b.cell 1 rfl; have d2 : w.cell? ⟨g, 2, none⟩ = some (.int .i64 (q.last.col : Int)) := hP.b.cell 2 rfl; have d3 := hP.b.cell 3 rfl; go_simp; first | done | (with_reducible rfl) | rfl)
            case rest93 =>
            try simp only [Act.put, List.setIfInBounds_toArray, List.set_cons_zero, List.set_cons_succ]
            refine wpAnyH_done (by kernel_rfl) ?_ _
            refine hKQ _ _ ?_
            have HBX2 := Hd.mk hHd.1
            have H2 := Hd.mk hHd.2.1
            have HF2 := Hd.mk hHd.2.2
            clear hHd
            have X := Hd.mk (pdiff_calls V1'.out.sl V2.out.sl (rowOf_len (fun x hx => (HLL.out.1 x hx).2) k) (rowOf_len HLL.out.2 k))
            go_wp2_with fail
            go_at_call 35
            with_reducible refine X.out.mono ?_
            rintro _ wz ⟨rfl, hb⟩
            have HBX3 := Hd.mk (HBX2.out.belowW hb)
            have H3 := Hd.mk (H2.out.below hb)
            have HF3 := Hd.mk (HF2.out.below hb)
            have W1 := Hd.mk (V1'.out.below hb)
            have W2 := Hd.mk (V2.out.below hb)
            clear hb X HBX2 H2 HF2 V1' V2
            have HSTEP : Hd (linesP f.rows p.last.rows (d + 1) k q = linesP f.rows p.last.rows d (k + 1) (if 0 ≤ differP (rowOf f.rows k) (rowOf p.last.rows k) then (q.to k).say (lineB (differP (rowOf f.rows k) (rowOf p.last.rows k)).toNat (rowOf f.rows k) (rowOf p.last.rows k)) else q)) := ⟨rfl⟩
            have HDL : Hd (differP (rowOf f.rows k) (rowOf p.last.rows k) < 1001) := ⟨by have h1 := differP_lt (rowOf f.rows k) (rowOf p.last.rows k); have h2 := rowOf_len (fun x hx => (HLL.out.1 x hx).2) k; have h3 := rowOf_len HLL.out.2 k; omega⟩
            generalize differP (rowOf f.rows k) (rowOf p.last.rows k) = dI at *
            by_cases h0 : 0 ≤ dI
            · obtain ⟨m, rfl⟩ : ∃ m : Nat, dI = (m : Int) := Int.eq_ofNat_of_zero_le h0
              have g0 : decide ((0 : Int) ≤ (m : Int)) = true := decide_eq_true h0
              have g1 : (m : Int) ≤ 1000 := by have := HDL.out; omega
              rw [if_pos h0] at HSTEP
              have HB4 : Hd (((q.to k).say (lineB m (rowOf f.rows k) (rowOf p.last.rows k))).b.length ≤ 1099511627776) := ⟨by
                have h1 := linesP_le f.rows p.last.rows d (k + 1) ((q.to k).say (lineB m (rowOf f.rows k) (rowOf p.last.rows k)))
                have h2 := HSTEP.out
                rw [Int.toNat_natCast] at h2
                rw [← h2, HT.out] at h1
                have h3 := HNL.out
                have h4 := Pt.to_le (linesP f.rows p.last.rows n 0 p) f.row
                have h5 := Pt.say_le ((linesP f.rows p.last.rows n 0 p).to f.row) (colB f.col)
                omega⟩
              have X := Hd.mk (line_calls H3.out k m W1.out W2.out ⟨by omega, by omega⟩ ⟨HIQ.out.1, by have := HIQ.out.2.1; omega⟩ (by have := HIQ.out.2.2; omega) (rowOf_len (fun x hx => (HLL.out.1 x hx).2) k) (rowOf_len HLL.out.2 k) (Nat.le_trans HBS.out HF3.out.size) (by have h1 := HB4.out; rw [Pt.say_b, List.length_append] at h1; exact h1))
              have HT2 : Hd (linesP f.rows p.last.rows d (k + 1) ((q.to k).say (lineB m (rowOf f.rows k) (rowOf p.last.rows k))) = linesP f.rows p.last.rows n 0 p) := ⟨by have h2 := HSTEP.out; rw [Int.toNat_natCast] at h2; rw [← h2, HT.out]⟩
              have HIQ2 : Hd (HiOK 1000 ((q.to k).say (lineB m (rowOf f.rows k) (rowOf p.last.rows k)))) := ⟨(HIQ.out.to HM1.out.2.2).say _⟩
              have HQL2 : Hd (((q.to k).say (lineB m (rowOf f.rows k) (rowOf p.last.rows k))).last = p.last) := ⟨HQL.out⟩
              clear H3 W1 W2 HSTEP HDL h0 HB4 HT HIQ HQL
              go_wp2_with fail
              go_at_call 36
              with_reducible refine X.out.mono ?_
              rintro _ wl ⟨rfl, bvl, hl, fl⟩
              have H5 := Hd.mk hl
              have HBX5 := Hd.mk (HBX3.out.pf fl (by decide) (by decide))
              have HF5 := Hd.mk (HF3.out.trans fl)
              clear hl fl X HBX3 HF3
              go_wp2
              go_roundg d
              case measure => omega
              case rel => exact ⟨k + 1, _, bvl, by simp, by omega, HT2, HIQ2, HQL2, H5, HBX5, HF5⟩
            · have g0 : decide ((0 : Int) ≤ dI) = false := decide_eq_false h0
              have g1 : ¬ (0 : Int) ≤ dI := h0
              rw [if_neg h0] at HSTEP
              have HT2 : Hd (linesP f.rows p.last.rows d (k + 1) q = linesP f.rows p.last.rows n 0 p) := ⟨by rw [← HSTEP.out, HT.out]⟩
              clear HSTEP HDL h0 HT W1 W2
              go_wp2
              go_roundg d
              case measure => omega
              case rel => exact ⟨k + 1, q, bv', by simp, by omega, HT2, HIQ, HQL, H3, HBX3, HF3⟩
end Go.Proofs.YtledplnlcjfafaaDoorL

