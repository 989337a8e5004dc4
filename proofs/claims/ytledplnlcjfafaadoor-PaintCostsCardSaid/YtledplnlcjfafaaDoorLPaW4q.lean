/- Parts of the proof of the law that the last file states; declarations that nothing mentions are left out by a program. No conditions. -/
import Derived.Test.YtledplnlcjfafaaDoorLPaW3q
set_option linter.unusedVariables false
set_option linter.unusedSimpArgs false
section
namespace Go.Proofs.YtledplnlcjfafaaDoorL
open Go Go.RowKit Go.Proofs.YtledplnlcjfafaaDoorW.PrintWords
theorem BufO.nil (B : Nat) (w : World) : BufO B w (.slice none 0 0) [] := World.ownsRow_nil w B _ 1
theorem PtO.told_ {B g : Nat} {w : World} {p : Pt} {lv bv : Value} {L : List RR} (h : PtO B w g p lv bv L) : PtO B (w.setCell ⟨g, 6, none⟩ (.slice none 0 0)) g { p with b := [] } lv (.slice none 0 0) L ∧ Pf B g w (w.setCell ⟨g, 6, none⟩ (.slice none 0 0)) ∧ BufO B (w.setCell ⟨g, 6, none⟩ (.slice none 0 0)) bv p.b := by
  have f2 : Pf B g w (w.setCell ⟨g, 6, none⟩ (.slice none 0 0)) := Pf.set_ h.b 6 _
  exact ⟨⟨h.b.set_ 6 _, BufO.nil _ _, h.r.pf f2, h.t, f2.tab h.t h.tab⟩, f2, h.q.to (fun k hk => Below.heap_setCell w ⟨g, 6, none⟩ _ k (fun e => h.q.ne h.b (by decide) (by rw [hk, ← show k = g from e])))⟩
def Pt.anew (p : Pt) : Pt := { ptNew with b := p.b }
theorem PtO.anew_ {B g : Nat} {w w' : World} {p : Pt} {lv bv : Value} {L : List RR} (h : PtO B w g p lv bv L) (hb : Blk w' g 51 (ptV p.anew (.slice none 0 0) bv)) (hk : ∀ i, i < w.heap.size → i ≠ g → w'.heap[i]? = w.heap[i]?) (hl : Below g w w') : PtO B w' g p.anew (.slice none 0 0) bv [] ∧ Pf B g w w' := by
  have f : Pf B g w w' := ⟨⟨hl.os, hl.tape, hl.output, hl.size, fun i hi hn => hk i hi (fun e => hn (.inl e))⟩, fun k hk2 h1 h2 => hk k hk2 (fun e => h2 (ptV p lv bv) (by rw [e]; exact h.b))⟩
  exact ⟨⟨hb, h.q.to (fun k hk2 => hk k (h.q.lt k hk2).2 (fun e => h.q.ne h.b (by decide) (by rw [hk2, ← e]))), RowsO.nil _ _, h.t, f.tab h.t h.tab⟩, f⟩
set_option maxRecDepth 100000 in
set_option maxHeartbeats 4000000 in
theorem told_calls {B g : Nat} {w : World} {p : Pt} {lv bv : Value} {L : List RR} (h : PtO B w g p lv bv L) :
    Calls Tryd.prog 18 #[.pointer (some ⟨g, 0, none⟩)] w fun e w' => e = .returned bv ∧ PtO B w' g { p with b := [] } lv (.slice none 0 0) L ∧ Pf B g w w' ∧ BufO B w' bv p.b := by
  have H := Hd.mk h
  obtain ⟨A, c, rfl⟩ := owns_slice h.q
  have c6 : w.cell? ⟨g, 6, none⟩ = some (.slice A p.b.length c) := h.b.cell 6 rfl
  have f6 := h.b.frozen 6
  clear h
  go_enter Tryd.func18, Tryd.ntmps18
  go_wp2
  go_ret
  exact ⟨rfl, H.out.told_⟩
set_option maxRecDepth 100000 in
set_option maxHeartbeats 4000000 in
theorem anew_calls {B g : Nat} {w : World} {p : Pt} {lv bv : Value} {L : List RR} (h : PtO B w g p lv bv L) :
    Calls Tryd.prog 22 #[.pointer (some ⟨g, 0, none⟩)] w fun e w' => e = .returned (.tuple #[]) ∧ PtO B w' g p.anew (.slice none 0 0) bv [] ∧ Pf B g w w' := by
  have H := Hd.mk h
  obtain ⟨A, c, rfl⟩ := owns_slice h.q
  have c6 : w.cell? ⟨g, 6, none⟩ = some (.slice A p.b.length c) := h.b.cell 6 rfl
  clear h
  go_enter Tryd.func22, Tryd.ntmps22
  go_wp2_with ((with_reducible refine gate_store (t := 51) (p := 8) rfl ?_); refine store_event rfl rfl (g := g) (cells := #[.slice none 0 0, .int .i64 0, .int .i64 0, .bool false, .int .i64 1, .int .i64 0, .slice A p.b.length c]) (by first | rfl | (go_simp; done) | (go_simp; rfl)) (by first | rfl | (go_simp; done) | (go_simp; rfl)) H.out.b infoPainter rfl (by simp [Value.oneCell']) ?_; intro ws hx hk2 hz hb)
  go_end0
  exact ⟨rfl, H.out.anew_ hx (fun i hi hne => hk2.2 i hi hne) (hb (Below.refl g w) (Nat.le_refl _))⟩
set_option maxRecDepth 100000 in
set_option maxHeartbeats 4000000 in
theorem draw_calls {B g : Nat} {w : World} {p : Pt} {lv bv lvf : Value} {L Lf : List RR} {f : Fm} {P : Nat → Prop} (h : PtO B w g p lv bv L) (hf : RowsO P w lvf Lf f.rows) (hB : B ≤ w.heap.size) (hi : HiOK 1000 p) (hfr : f.row ≤ 1000 ∧ f.col ≤ 1000)
    (hl1 : ∀ x ∈ f.rows, 1 ≤ x.length ∧ x.length ≤ 1000) (hl2 : ∀ x ∈ p.last.rows, x.length ≤ 1000) (hm1 : f.rows.length ≤ 1000) (hm2 : p.last.rows.length ≤ 1000) (hn : (p.draw f).b.length ≤ 1099511627776) :
    Calls Tryd.prog 9 #[.pointer (some ⟨g, 0, none⟩), .agg #[lvf, .int .i64 (f.row : Int), .int .i64 (f.col : Int)]] w fun e w' => ∃ v lv' L', e = .returned v ∧ BufO B w' v (p.draw f).b ∧ PtO B w' g { p.draw f with b := [] } lv' (.slice none 0 0) L' ∧ Pf B g w w' := by
  have h2 := h.below ((Below.refl _ w).alloc (Nat.le_refl _) (.cells #[lvf, .int .i64 (f.row : Int), .int .i64 (f.col : Int)] 38))
  have f0 : Pf B g w (w.alloc (.cells #[lvf, .int .i64 (f.row : Int), .int .i64 (f.col : Int)] 38)) := (Pf.refl B g w).alloc _
  have X := Hd.mk (pdraw_calls h2 (hf.pf f0) (Nat.le_trans hB f0.size) hi hfr hl1 hl2 hm1 hm2 hn)
  have HF := Hd.mk f0
  obtain ⟨c0, c1, c2⟩ := Blk.three (Blk.new w 38 #[lvf, .int .i64 (f.row : Int), .int .i64 (f.col : Int)])
  clear h h2 hf hB hi hl1 hl2 hm1 hm2 hn f0 hfr
  go_enter Tryd.func9, Tryd.ntmps9
  go_wp2_with fail
  go_at_call 17
  with_reducible refine X.out.mono ?_
  rintro _ w2 ⟨rfl, lv', bv', L', h2, f2⟩
  have XT := Hd.mk (told_calls h2)
  have HF2 := Hd.mk (HF.out.trans f2)
  clear h2 f2 X HF
  go_wp2_with fail
  go_at_call 18
  with_reducible refine XT.out.mono ?_
  rintro _ w3 ⟨rfl, h3, f3, q3⟩
  have H3 := Hd.mk (And.intro q3 (And.intro h3 (HF2.out.trans f3)))
  clear h3 f3 q3 XT HF2
  go_wp2
  go_ret
  exact ⟨_, lv', L', rfl, H3.out⟩
def Pt.resizeB (p : Pt) : List UInt8 := if p.is = true then ((p.to 0).say [13, 27, 91, 74]).b else []
def Pt.resize (p : Pt) : Pt := if p.is = true then ptNew else p
theorem linesP_hi (fr lr : List (List TC)) {M : Nat} : ∀ d k p, HiOK M p → k + d ≤ M + 1 → HiOK M (linesP fr lr d k p)
  | 0, _, p, h, _ => h
  | d + 1, k, p, h, hk => by
    unfold linesP
    refine linesP_hi fr lr d (k + 1) _ ?_ (by omega)
    split
    · exact (h.to (by omega)).say _
    · exact h
theorem HiOK.draw {M : Nat} {p : Pt} {f : Fm} (h : HiOK M p) (h1 : f.rows.length ≤ M) (h2 : p.last.rows.length ≤ M) (h3 : f.row ≤ M) : HiOK M (p.draw f) := by
  unfold Pt.draw
  split
  · exact h
  · have h4 := (linesP_hi f.rows p.last.rows (max f.rows.length p.last.rows.length) 0 p h (by omega)).to h3
    exact ⟨h4.1, h4.2.1, h4.2.2⟩
theorem HiOK.new {M : Nat} : HiOK M ptNew := ⟨Nat.le_refl _, by show 1 ≤ M + 1; omega, Nat.zero_le _⟩
def Pt.finishB (p : Pt) (f : Fm) : List UInt8 := if f.rows.length = 0 then [] else (((p.draw f).to (f.rows.length - 1)).say [13, 10]).b
def Pt.finish (p : Pt) (f : Fm) : Pt := if f.rows.length = 0 then p else ptNew
set_option maxRecDepth 100000 in
set_option maxHeartbeats 4000000 in
theorem pnew_calls (w : World) (htab : Lib.TabIs Tryd.prog w "internal/strconv.uint64pow10" .u64 Lib.pow10Tab) (ht : 2 < w.heap.size) :
    Calls Tryd.prog 6 #[] w fun e w' => e = .returned (.pointer (some ⟨w.heap.size, 0, none⟩)) ∧ PtO w.heap.size w' w.heap.size ptNew (.slice none 0 0) (.slice none 0 0) [] ∧ Below w.heap.size w w' := by
  have HB := Hd.mk (Blk.new w 51 #[.slice none 0 0, .int .i64 0, .int .i64 0, .bool false, .int .i64 1, .int .i64 0, .slice none 0 0])
  have HBL := Hd.mk ((Below.refl w.heap.size w).alloc (Nat.le_refl _) (.cells #[.slice none 0 0, .int .i64 0, .int .i64 0, .bool false, .int .i64 1, .int .i64 0, .slice none 0 0] 51))
  have HT := Hd.mk (Lib.tabIs_alloc htab (.cells #[.slice none 0 0, .int .i64 0, .int .i64 0, .bool false, .int .i64 1, .int .i64 0, .slice none 0 0] 51))
  have HL := Hd.mk ht
  clear htab ht
  go_enter Tryd.func6, Tryd.ntmps6
  go_wp2
  go_ret
  exact ⟨rfl, ⟨HB.out, BufO.nil _ _, RowsO.nil _ _, ⟨HL.out, by have := HL.out; omega⟩, HT.out⟩, HBL.out⟩
end Go.Proofs.YtledplnlcjfafaaDoorL
end
section
namespace Go.Proofs.YtledplnlcjfafaaDoorL
open Go Go.RowKit Go.Proofs.YtledplnlcjfafaaDoorW.PrintWords
set_option maxRecDepth 100000 in
set_option maxHeartbeats 4000000 in
theorem cost_calls {B g : Nat} {w : World} {p : Pt} {lv lvf : Value} {L Lf : List RR} {f : Fm} {P : Nat → Prop} (h : PtO B w g p lv (.slice none 0 0) L) (hb0 : p.b = []) (hf : RowsO P w lvf Lf f.rows) (hB : B ≤ w.heap.size) (hi : HiOK 1000 p) (hfr : f.row ≤ 1000 ∧ f.col ≤ 1000)
    (hl1 : ∀ x ∈ f.rows, 1 ≤ x.length ∧ x.length ≤ 1000) (hl2 : ∀ x ∈ p.last.rows, x.length ≤ 1000) (hm1 : f.rows.length ≤ 1000) (hm2 : p.last.rows.length ≤ 1000) (hn : (p.draw f).b.length ≤ 1099511627776) :
    Calls Tryd.prog 10 #[.pointer (some ⟨g, 0, none⟩), .agg #[lvf, .int .i64 (f.row : Int), .int .i64 (f.col : Int)]] w fun e w' => e = .returned (.int .i64 ((p.draw f).b.length : Int)) ∧ Below w.heap.size w w' := by
  have e1 := hf.len
  have e2 := h.r.len
  obtain ⟨Af, cf, rfl, _⟩ := Kd.Q_slice hf.q
  obtain ⟨A, c, rfl, _⟩ := Kd.Q_slice h.r.q
  rw [e1] at hf ⊢
  rw [e2] at h
  clear e1 e2
  have hBL : Below w.heap.size w ((w.alloc (.cells #[.slice Af f.rows.length cf, .int .i64 (f.row : Int), .int .i64 (f.col : Int)] 38)).alloc (.cells #[(.slice A p.last.rows.length c), .int .i64 (p.last.row : Int), .int .i64 (p.last.col : Int), .bool p.is, .int .i64 (p.high : Int), .int .i64 (p.row : Int), .slice none 0 0] 51)) := ((Below.refl _ w).alloc (Nat.le_refl _) _).alloc (by simp) _
  have hrn := (h.b.alloc (.cells #[.slice Af f.rows.length cf, .int .i64 (f.row : Int), .int .i64 (f.col : Int)] 38)).range
  have bn := Blk.new (w.alloc (.cells #[.slice Af f.rows.length cf, .int .i64 (f.row : Int), .int .i64 (f.col : Int)] 38)) 51 #[(.slice A p.last.rows.length c), .int .i64 (p.last.row : Int), .int .i64 (p.last.col : Int), .bool p.is, .int .i64 (p.high : Int), .int .i64 (p.row : Int), .slice none 0 0]
  rw [World.size_alloc] at bn
  have H2 : Hd (PtO w.heap.size ((w.alloc (.cells #[.slice Af f.rows.length cf, .int .i64 (f.row : Int), .int .i64 (f.col : Int)] 38)).alloc (.cells #[(.slice A p.last.rows.length c), .int .i64 (p.last.row : Int), .int .i64 (p.last.col : Int), .bool p.is, .int .i64 (p.high : Int), .int .i64 (p.row : Int), .slice none 0 0] 51)) (w.heap.size + 1) p (.slice A p.last.rows.length c) (.slice none 0 0) L) := ⟨⟨bn, by rw [hb0]; exact BufO.nil _ _, h.r.below hBL, ⟨by have := h.t.1; omega, by have := h.t.1; omega⟩, (Pf.of_below (B := B) (g := g) hBL).tab h.t h.tab⟩⟩
  have HBL := Hd.mk hBL
  have X := Hd.mk (draw_calls H2.out (hf.below hBL) (by simp; omega) hi hfr hl1 hl2 hm1 hm2 hn)
  have c3 := ((Blk.new w 38 #[.slice Af f.rows.length cf, .int .i64 (f.row : Int), .int .i64 (f.col : Int)]).alloc (.cells #[(.slice A p.last.rows.length c), .int .i64 (p.last.row : Int), .int .i64 (p.last.col : Int), .bool p.is, .int .i64 (p.high : Int), .int .i64 (p.row : Int), .slice none 0 0] 51)).three
  obtain ⟨c0, c1, c2⟩ := c3
  have HN := Hd.mk hn
  clear h hb0 hf hB hi hfr hl1 hl2 hm1 hm2 bn hBL hn
  go_enter Tryd.func10, Tryd.ntmps10
  go_wp2_with ((with_reducible refine gate_dst (N := 8) rfl ?_); refine wpList_load_mid rfl 51 (.tmp 7) rfl g 0 (by first | rfl | (go_simp; done) | (go_simp; rfl)) [.slice A p.last.rows.length c, .int .i64 (p.last.row : Int), .int .i64 (p.last.col : Int), .bool p.is, .int .i64 (p.high : Int), .int .i64 (p.row : Int), .slice none 0 0] _ hrn Tryd.underlying51 rfl infoPainter ?_)
  go_at_call 9
  with_reducible refine X.out.mono ?_
  rintro _ w2 ⟨v, lv', L', rfl, hq, h3, f3⟩
  obtain ⟨A3, c4, rfl⟩ := owns_slice hq
  have HF := Hd.mk (HBL.out.trans ((f3.o.to_below (B := w.heap.size) (fun k hk => by omega) (by simp; omega))))
  clear hq h3 f3 X HBL
  go_wp2
  go_ret
  exact ⟨rfl, HF.out⟩
end Go.Proofs.YtledplnlcjfafaaDoorL
end
