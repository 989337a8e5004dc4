/- Parts of the proof of the law that the last file states; declarations that nothing mentions are left out by a program. No conditions. -/
import Derived.Test.YtledplnlcjfafaaDoorLPaCq
set_option linter.unusedVariables false
set_option linter.unusedSimpArgs false
namespace Go.Proofs.YtledplnlcjfafaaDoorL
open Go Go.RowKit Go.Proofs.YtledplnlcjfafaaDoorW.PrintWords
set_option maxRecDepth 100000 in
set_option maxHeartbeats 4000000 in
theorem resize_nil {B g : Nat} {w : World} {p : Pt} {lv : Value} {L : List RR} (h : PtO B w g p lv (.slice none 0 0) L) (hB : B ≤ w.heap.size) (hi : HiOK 1000 p) (hn : p.resizeB.length ≤ 1099511627776) (hb0 : p.b = []) :
    Calls Tryd.prog 12 #[.pointer (some ⟨g, 0, none⟩)] w fun e w' => ∃ v lv' L', e = .returned v ∧ BufO B w' v p.resizeB ∧ PtO B w' g p.resize lv' (.slice none 0 0) L' ∧ Pf B g w w' := by
  have c3 := h.b.cell 3 rfl
  have H := Hd.mk h
  have HBS := Hd.mk hB
  have HI := Hd.mk hi
  cases hisp : p.is with
  | false =>
    have HE1 : Hd (p.resizeB = []) := ⟨by unfold Pt.resizeB; rw [hisp]; rfl⟩
    have HE2 : Hd (p.resize = p) := ⟨by unfold Pt.resize; rw [hisp]; rfl⟩
    have c3' : w.cell? ⟨g, 3, none⟩ = some (.bool false) := c3.trans (congrArg (fun b => some (Value.bool b)) hisp)
    clear c3 h hB hi hisp hn hb0
    go_enter Tryd.func12, Tryd.ntmps12
    go_wp2
    go_ret
    exact ⟨_, lv, L, rfl, by rw [HE1.out]; exact BufO.nil _ _, by rw [HE2.out]; exact H.out, Pf.refl _ _ _⟩
  | true =>
    have HE1 : Hd (p.resizeB = ((p.to 0).say [13, 27, 91, 74]).b) := ⟨by unfold Pt.resizeB; rw [hisp]; rfl⟩
    have HE2 : Hd (p.resize = ptNew) := ⟨by unfold Pt.resize; rw [hisp]; rfl⟩
    have c3' : w.cell? ⟨g, 3, none⟩ = some (.bool true) := c3.trans (congrArg (fun b => some (Value.bool b)) hisp)
    have hn2 : (p.to 0).b.length + 4 ≤ 1099511627776 := by rw [HE1.out, Pt.say_b, List.length_append] at hn; exact hn
    have X1 := Hd.mk (pto_calls h 0 (by omega) ⟨hi.1, by have := hi.2.1; omega⟩ (by have := hi.2.2; omega) hB (by have e : (p.to 0).b = p.b ++ toB p 0 := rfl; rw [e, List.length_append] at hn2; omega))
    have HN2 := Hd.mk hn2
    clear c3 h hB hi hisp hn hb0 hn2
    go_enter Tryd.func12, Tryd.ntmps12
    go_wp2_with fail
    go_at_call 20
    refine X1.out.mono ?_
    rintro _ w2 ⟨rfl, bv2, h2, f2⟩
    have HF2 := Hd.mk f2
    have X2 := Hd.mk (say3_calls h2 ⟨#[13]⟩ ⟨#[27, 91]⟩ ⟨#[74]⟩ (Nat.le_trans HBS.out f2.size) (by have := HN2.out; simp; omega))
    clear h2 f2 X1
    go_wp2_with fail
    go_at_call 21
    with_reducible refine X2.out.mono ?_
    rintro _ w3 ⟨rfl, bv3, h3, f3⟩
    have HF3 := Hd.mk (HF2.out.trans f3)
    have X3 := Hd.mk (anew_calls h3)
    clear h3 f3 X2 HF2
    go_wp2_with fail
    go_at_call 22
    with_reducible refine X3.out.mono ?_
    rintro _ w4 ⟨rfl, h4, f4⟩
    have HF4 := Hd.mk (HF3.out.trans f4)
    have X4 := Hd.mk (told_calls h4)
    clear h4 f4 X3 HF3
    go_wp2_with fail
    go_at_call 18
    with_reducible refine X4.out.mono ?_
    rintro _ w5 ⟨rfl, h5, f5, q5⟩
    have H5 := Hd.mk (And.intro q5 (And.intro h5 (HF4.out.trans f5)))
    clear h5 f5 q5 X4 HF4
    go_wp2
    go_ret
    exact ⟨_, _, _, rfl, by rw [HE1.out]; exact H5.out.1, by rw [HE2.out]; exact H5.out.2.1, H5.out.2.2⟩
set_option maxRecDepth 100000 in
set_option maxHeartbeats 4000000 in
theorem finish_nil {B g : Nat} {w : World} {p : Pt} {lv lvf : Value} {L Lf : List RR} {f : Fm} {P : Nat → Prop} (h : PtO B w g p lv (.slice none 0 0) L) (hf : RowsO P w lvf Lf f.rows) (hB : B ≤ w.heap.size) (hi : HiOK 1000 p) (hfr : f.row ≤ 1000 ∧ f.col ≤ 1000)
    (hl1 : ∀ x ∈ f.rows, 1 ≤ x.length ∧ x.length ≤ 1000) (hl2 : ∀ x ∈ p.last.rows, x.length ≤ 1000) (hm1 : f.rows.length ≤ 1000) (hm2 : p.last.rows.length ≤ 1000) (hn : (p.finishB f).length ≤ 1099511627776) :
    Calls Tryd.prog 13 #[.pointer (some ⟨g, 0, none⟩), .agg #[lvf, .int .i64 (f.row : Int), .int .i64 (f.col : Int)]] w fun e w' => ∃ v lv' L', e = .returned v ∧ BufO B w' v (p.finishB f) ∧ PtO B w' g (p.finish f) lv' (.slice none 0 0) L' ∧ Pf B g w w' := by
  have e1 := hf.len
  obtain ⟨Af, cf, rfl, _⟩ := Kd.Q_slice hf.q
  rw [e1] at hf ⊢
  clear e1
  have h2 := h.below ((Below.refl _ w).alloc (Nat.le_refl _) (.cells #[.slice Af f.rows.length cf, .int .i64 (f.row : Int), .int .i64 (f.col : Int)] 38))
  have f0 : Pf B g w (w.alloc (.cells #[.slice Af f.rows.length cf, .int .i64 (f.row : Int), .int .i64 (f.col : Int)] 38)) := (Pf.refl B g w).alloc _
  have HBX := Hd.mk (Blk.new w 38 #[.slice Af f.rows.length cf, .int .i64 (f.row : Int), .int .i64 (f.col : Int)])
  obtain ⟨c0, c1, c2⟩ := Blk.three HBX.out
  have HF := Hd.mk f0
  have HBS := Hd.mk hB
  have hm3 : (f.rows.length : Int) ≤ 1000 := by omega
  by_cases hz : f.rows.length = 0
  · have z0 : decide ((f.rows.length : Int) = 0) = true := decide_eq_true (by omega)
    have z1 : ((f.rows.length : Int) == 0) = true := beq_iff_eq.2 (by omega)
    have HE1 : Hd (p.finishB f = []) := ⟨by unfold Pt.finishB; rw [if_pos hz]⟩
    have HE2 : Hd (p.finish f = p) := ⟨by unfold Pt.finish; rw [if_pos hz]⟩
    have H2 := Hd.mk h2
    have z3 : (f.rows.length : Int) = 0 := by omega
    clear h h2 hf hB hi hl1 hl2 hm1 hm2 hn f0 hfr hz HBX
    go_enter Tryd.func13, Tryd.ntmps13
    go_wp2
    go_ret
    exact ⟨_, _, _, rfl, by rw [HE1.out]; exact BufO.nil _ _, by rw [HE2.out]; exact H2.out, HF.out⟩
  · have z0 : decide ((f.rows.length : Int) = 0) = false := decide_eq_false (by omega)
    have z1 : ((f.rows.length : Int) == 0) = false := beq_eq_false_iff_ne.2 (by omega)
    have z2 : ¬ (f.rows.length : Int) = 0 := by omega
    obtain ⟨m, hm⟩ : ∃ m, f.rows.length = m + 1 := ⟨f.rows.length - 1, by omega⟩
    have hsub : (f.rows.length : Int) - 1 = (m : Int) := by omega
    have HE1 : Hd (p.finishB f = (((p.draw f).to m).say [13, 10]).b) := ⟨by unfold Pt.finishB; rw [if_neg hz, hm, Nat.add_sub_cancel]⟩
    have HE2 : Hd (p.finish f = ptNew) := ⟨by unfold Pt.finish; rw [if_neg hz]⟩
    have hn2 : ((p.draw f).to m).b.length + 2 ≤ 1099511627776 := by rw [HE1.out, Pt.say_b, List.length_append] at hn; exact hn
    have HID := Hd.mk (hi.draw (f := f) hm1 hm2 hfr.1)
    have X := Hd.mk (pdraw_calls h2 (hf.pf f0) (Nat.le_trans hB f0.size) hi hfr hl1 hl2 hm1 hm2 (by have := Pt.to_le (p.draw f) m; omega))
    have HN2 := Hd.mk hn2
    have HM := Hd.mk (And.intro hm hm1)
    have hm4 : (m : Int) ≤ 1000 := by omega
    clear h h2 hf hB hi hl1 hl2 hm1 hm2 hn f0 hfr hz hn2 hm
    go_enter Tryd.func13, Tryd.ntmps13
    go_wp2_with fail
    go_at_call 17
    with_reducible refine X.out.mono ?_
    rintro _ w2 ⟨rfl, lv2, bv2, L2, h2, f2⟩
    have HF2 := Hd.mk (HF.out.trans f2)
    have HBX2 := Hd.mk (HBX.out.pf f2 (by decide) (by decide))
    have d0 := HBX2.out.cell 0 rfl
    have X2 := Hd.mk (pto_calls h2 m (by omega) ⟨HID.out.1, by have := HID.out.2.1; omega⟩ (by have := HID.out.2.2; omega) (Nat.le_trans HBS.out HF2.out.size) (by have e : ((p.draw f).to m).b = (p.draw f).b ++ toB (p.draw f) m := rfl; have h1 := HN2.out; rw [e, List.length_append] at h1; omega))
    clear h2 f2 X HF HBX c0 c1 c2
    go_wp2_with fail
    go_at_call 20
    with_reducible refine X2.out.mono ?_
    rintro _ w3 ⟨rfl, bv3, h3, f3⟩
    have HF3 := Hd.mk (HF2.out.trans f3)
    have X3 := Hd.mk (say1_calls h3 ⟨#[13, 10]⟩ (Nat.le_trans HBS.out HF3.out.size) (by have := HN2.out; simp; omega))
    clear h3 f3 X2 HF2 HBX2 d0
    go_wp2_with fail
    go_at_call 21
    with_reducible refine X3.out.mono ?_
    rintro _ w4 ⟨rfl, bv4, h4, f4⟩
    have HF4 := Hd.mk (HF3.out.trans f4)
    have X4 := Hd.mk (anew_calls h4)
    clear h4 f4 X3 HF3
    go_wp2_with fail
    go_at_call 22
    with_reducible refine X4.out.mono ?_
    rintro _ w5 ⟨rfl, h5, f5⟩
    have HF5 := Hd.mk (HF4.out.trans f5)
    have X5 := Hd.mk (told_calls h5)
    clear h5 f5 X4 HF4
    go_wp2_with fail
    go_at_call 18
    with_reducible refine X5.out.mono ?_
    rintro _ w6 ⟨rfl, h6, f6, q6⟩
    have H6 := Hd.mk (And.intro q6 (And.intro h6 (HF5.out.trans f6)))
    clear h6 f6 q6 X5 HF5
    go_wp2
    go_ret
    exact ⟨_, _, _, rfl, by rw [HE1.out]; exact H6.out.1, by rw [HE2.out]; exact H6.out.2.1, H6.out.2.2⟩
def strL (l : List UInt8) : ByteArray := ⟨l.toArray⟩
theorem strL_size (l : List UInt8) : (strL l).size = l.length := List.size_toArray ..
theorem buf_conv {B : Nat} {w : World} {v : Value} {b : List UInt8} (h : BufO B w v b) : (convert 43 9 v).run Tryd.prog w = .ok (.string (strL b)) w := by
  obtain ⟨h1, h2⟩ := h
  rcases h2 with ⟨rfl, h2⟩ | ⟨g, cap, cur, rfl, _, hg, _, _, _, ht⟩
  · have e : b = [] := List.eq_nil_of_length_eq_zero h2
    rw [e]
    exact run_convert_bytes_nil w 43 5 Tryd.underlying43 Tryd.underlying5 0 0 9 Tryd.underlying9
  · have X := Lib.run_convert_whole (P := Tryd.prog) w 43 5 9 Tryd.underlying43 Tryd.underlying5 Tryd.underlying9 g 0 (strL b) (fun i hi => ?_) cap
    · rw [strL_size] at X
      exact X
    · have hl : i < b.length := by rw [strL_size] at hi; exact hi
      have hc : cur[i]? = some (.int .u8 ((b[i]'hl).toNat : Int)) := by
        have h3 : (cur.toList.take (b.length * 1))[i]? = some (.int .u8 ((b[i]'hl).toNat : Int)) := by
          rw [ht]
          unfold bV
          rw [List.getElem?_map, List.getElem?_eq_getElem hl]
          rfl
        rw [List.getElem?_take_of_lt (by omega), Array.getElem?_toList] at h3
        exact h3
      rw [Nat.zero_add, show w.cell? ⟨g, i, none⟩ = _ from Blk.cell (show Blk w g 5 cur from hg) i hc]
      rfl
theorem BufO.lower {B B' : Nat} {w : World} {v : Value} {b : List UInt8} (h : BufO B w v b) (hb : B' ≤ B) : BufO B' w v b := by
  refine ⟨h.1, ?_⟩
  rcases h.2 with h2 | ⟨g, cap, cur, e, h3, h4⟩
  · exact .inl h2
  · exact .inr ⟨g, cap, cur, e, Nat.le_trans hb h3, h4⟩
theorem BufO.below {B : Nat} {w w' : World} {v : Value} {b : List UInt8} (h : BufO B w v b) (hb : Below w.heap.size w w') : BufO B w' v b := h.to (fun k hk => hb.block k (h.lt k hk).2)
theorem BufO.keep {B g : Nat} {w w' : World} {v : Value} {b : List UInt8} {cs : Array Value} (h : BufO B w v b) (hg : Blk w g 51 cs) (f : Pf w.heap.size g w w') : BufO B w' v b := by
  refine h.to (fun k hk => f.o.block k (h.lt k hk).2 ?_)
  have hne := h.ne hg (by decide)
  have hlt := (h.lt k hk).2
  rintro (e | e)
  · exact hne (by rw [hk, e])
  · omega
def PS (w : World) (g : Nat) (p : Pt) : Prop := p.b = [] ∧ ∃ lv L, PtO w.heap.size w g p lv (.slice none 0 0) L
section
variable {w w' : World} {g cols : Nat} {p : Pt} {P : Nat → Prop}
theorem PS.lt (h : PS w g p) : g < w.heap.size := by
  obtain ⟨_, lv, L, h⟩ := h
  exact h.b.lt
theorem PS.blk (h : PS w g p) : ∃ cs, Blk w g 51 cs := by
  obtain ⟨_, lv, L, h⟩ := h
  exact ⟨_, h.b⟩
theorem PS.of {B : Nat} {lv : Value} {L : List RR} (h : PtO B w g p lv (.slice none 0 0) L) (hb : p.b = []) (hB : B ≤ w.heap.size) : PS w g p :=
  ⟨hb, lv, L, h.rebase hb rfl (Nat.lt_of_lt_of_le h.t.1 hB)⟩
theorem PS.below (h : PS w g p) (hb : Below w.heap.size w w') : PS w' g p := by
  obtain ⟨h0, lv, L, h⟩ := h
  exact PS.of (h.below hb) h0 hb.size
theorem PS.set_ {x i : Nat} {t : TypeId} {cs : Array Value} (h : PS w g p) (hx : Blk w x t cs) (h1 : t ≠ 40) (h2 : t ≠ 42) (h3 : t ≠ 51) (hp : 2 ≠ x) (u : Value) : PS (w.setCell ⟨x, i, none⟩ u) g p := by
  obtain ⟨h0, lv, L, h⟩ := h
  have hne : g ≠ x := fun e => Blk.ne_ h.b hx (fun e => h3 e.symm) e
  have hT : Lib.TabIs Tryd.prog (w.setCell ⟨x, i, none⟩ u) "internal/strconv.uint64pow10" .u64 Lib.pow10Tab := by
    have hg2 : Tryd.prog.globalNamed "internal/strconv.uint64pow10" = some 2 := by kernel_rfl
    have hT := h.tab
    unfold Lib.TabIs World.var? at *
    rw [hg2] at hT ⊢
    simp only [Option.bind_some] at hT ⊢
    rw [Below.heap_setCell w ⟨x, i, none⟩ u _ hp]
    exact hT
  refine ⟨h0, lv, L, ⟨h.b.far hne u, by rw [h0]; exact BufO.nil _ _, h.r.set_ hx h1 h2 u, ?_, hT⟩⟩
  exact ⟨by rw [World.size_setCell]; exact h.t.1, h.t.2⟩
theorem ps_new (w : World) (htab : Lib.TabIs Tryd.prog w "internal/strconv.uint64pow10" .u64 Lib.pow10Tab) (ht : 2 < w.heap.size) :
    Calls Tryd.prog 6 #[] w fun e w' => e = .returned (.pointer (some ⟨w.heap.size, 0, none⟩)) ∧ PS w' w.heap.size ptNew ∧ Below w.heap.size w w' := by
  refine (pnew_calls w htab ht).mono ?_
  rintro _ w' ⟨rfl, h, hb⟩
  exact ⟨rfl, PS.of h rfl hb.size, hb⟩
theorem ps_draw (h : PS w g p) (hk : PtK cols p) {lvf : Value} {Lf : List RR} {f : Fm} (hf : RowsO P w lvf Lf f.rows) (fk : FK cols f) :
    Calls Tryd.prog 9 #[.pointer (some ⟨g, 0, none⟩), .agg #[lvf, .int .i64 (f.row : Int), .int .i64 (f.col : Int)]] w fun e w' => ∃ v, e = .returned v ∧ BufO w.heap.size w' v (p.draw f).b ∧ PS w' g (tellP (p.draw f)) ∧ Pf w.heap.size g w w' := by
  obtain ⟨h0, lv, L, h⟩ := h
  have hl := fk.len
  refine (draw_calls h hf (Nat.le_refl _) hk.h ⟨hl.2.2.1, hl.2.2.2.1⟩ hl.1 (fun x hx => (hk.len.1 x hx).2) hl.2.1 hk.len.2 (Nat.le_trans (hk.bytes fk) (by omega))).mono ?_
  rintro _ w' ⟨v, lv', L', rfl, hq, h, f⟩
  exact ⟨v, rfl, hq, PS.of h rfl f.size, f⟩
theorem ps_cost (h : PS w g p) (hk : PtK cols p) {lvf : Value} {Lf : List RR} {f : Fm} (hf : RowsO P w lvf Lf f.rows) (fk : FK cols f) :
    Calls Tryd.prog 10 #[.pointer (some ⟨g, 0, none⟩), .agg #[lvf, .int .i64 (f.row : Int), .int .i64 (f.col : Int)]] w fun e w' => e = .returned (.int .i64 ((p.draw f).b.length : Int)) ∧ Below w.heap.size w w' := by
  obtain ⟨h0, lv, L, h⟩ := h
  have hl := fk.len
  exact cost_calls h h0 hf (Nat.le_refl _) hk.h ⟨hl.2.2.1, hl.2.2.2.1⟩ hl.1 (fun x hx => (hk.len.1 x hx).2) hl.2.1 hk.len.2 (Nat.le_trans (hk.bytes fk) (by omega))
theorem finish_b (p : Pt) (f : Fm) (h : p.b = []) : (p.finish f).b = [] := by
  unfold Pt.finish
  split
  · exact h
  · rfl
theorem resize_b (p : Pt) (h : p.b = []) : p.resize.b = [] := by
  unfold Pt.resize
  split
  · rfl
  · exact h
theorem ps_finish (h : PS w g p) (hk : PtK cols p) {lvf : Value} {Lf : List RR} {f : Fm} (hf : RowsO P w lvf Lf f.rows) (fk : FK cols f) :
    Calls Tryd.prog 13 #[.pointer (some ⟨g, 0, none⟩), .agg #[lvf, .int .i64 (f.row : Int), .int .i64 (f.col : Int)]] w fun e w' => ∃ v, e = .returned v ∧ BufO w.heap.size w' v (p.finishB f) ∧ PS w' g (p.finish f) ∧ Pf w.heap.size g w w' := by
  obtain ⟨h0, lv, L, h⟩ := h
  have hl := fk.len
  refine (finish_nil h hf (Nat.le_refl _) hk.h ⟨hl.2.2.1, hl.2.2.2.1⟩ hl.1 (fun x hx => (hk.len.1 x hx).2) hl.2.1 hk.len.2 (Nat.le_trans (hk.bytesF fk) (by omega))).mono ?_
  rintro _ w' ⟨v, lv', L', rfl, hq, h, f⟩
  exact ⟨v, rfl, hq, PS.of h (finish_b p _ h0) f.size, f⟩
theorem ps_resize (h : PS w g p) (hk : PtK cols p) :
    Calls Tryd.prog 12 #[.pointer (some ⟨g, 0, none⟩)] w fun e w' => ∃ v, e = .returned v ∧ BufO w.heap.size w' v p.resizeB ∧ PS w' g p.resize ∧ Pf w.heap.size g w w' := by
  obtain ⟨h0, lv, L, h⟩ := h
  refine (resize_nil h (Nat.le_refl _) hk.h (Nat.le_trans hk.bytesR (by omega)) h0).mono ?_
  rintro _ w' ⟨v, lv', L', rfl, hq, h, f⟩
  exact ⟨v, rfl, hq, PS.of h (resize_b p h0) f.size, f⟩
theorem ps_last (h : PS w g p) (hk : PtK cols p) :
    Calls Tryd.prog 11 #[.pointer (some ⟨g, 0, none⟩)] w fun e w' => ∃ lv' L', e = .returned (.tuple #[.agg #[lv', .int .i64 (p.last.row : Int), .int .i64 (p.last.col : Int)], .bool p.is]) ∧ RowsO (fun k => w.heap.size ≤ k) w' lv' L' p.last.rows ∧ Below w.heap.size w w' := by
  obtain ⟨h0, lv, L, h⟩ := h
  exact last_step h hk
theorem Pf.below_ {B0 : Nat} (f : Pf w.heap.size g w w') (h1 : B0 ≤ g) (h2 : B0 ≤ w.heap.size) : Below B0 w w' := f.o.to_below (B := B0) (fun k hk => by rcases hk with e | e <;> omega) h2
end
end Go.Proofs.YtledplnlcjfafaaDoorL

