/- Parts of the proof of the law that the last file states; declarations that nothing mentions are left out by a program. No conditions. -/
import Derived.Test.YtledplnlcjfafaaDoorLPaNq
set_option linter.unusedVariables false
set_option linter.unusedSimpArgs false
namespace Go.Proofs.YtledplnlcjfafaaDoorL
open Go Go.RowKit Go.Proofs.YtledplnlcjfafaaDoorW.PrintWords
structure AK (w0 w : World) (g : Nat) (p : Pt) (l : List (Value × List UInt8)) : Prop where
  ps : PS w g p
  be : Below w0.heap.size w0 w
  gx : w0.heap.size ≤ g
  bu : ∀ q ∈ l, BufO w0.heap.size w q.1 q.2
section
variable {w0 w w' : World} {g : Nat} {p p' : Pt} {l : List (Value × List UInt8)}
theorem AK.size (h : AK w0 w g p l) : w0.heap.size ≤ w.heap.size := h.be.size
theorem AK.call (h : AK w0 w g p l) (hb : Below w.heap.size w w') : AK w0 w' g p l :=
  ⟨h.ps.below hb, h.be.trans (hb.mono h.size), h.gx, fun q hq => (h.bu q hq).below hb⟩
theorem AK.turn {v : Value} {b : List UInt8} (h : AK w0 w g p l) (hq : BufO w.heap.size w' v b) (hs : PS w' g p') (f : Pf w.heap.size g w w') : AK w0 w' g p' (l ++ [(v, b)]) := by
  obtain ⟨cs, hg⟩ := h.ps.blk
  refine ⟨hs, h.be.trans (f.below_ h.gx h.size), h.gx, fun q hm => ?_⟩
  rcases List.mem_append.1 hm with h1 | h1
  · exact (h.bu q h1).keep hg f
  · rw [List.mem_singleton.1 h1]; exact hq.lower h.size
theorem AK.set_ {x i : Nat} {t : TypeId} {cs : Array Value} (h : AK w0 w g p l) (hx : Blk w x t cs) (h1 : t ≠ 40) (h2 : t ≠ 42) (h3 : t ≠ 51) (h4 : t ≠ 5) (hx0 : w0.heap.size ≤ x) (hp : 2 < w0.heap.size) (u : Value) : AK w0 (w.setCell ⟨x, i, none⟩ u) g p l := by
  refine ⟨h.ps.set_ hx h1 h2 h3 (by omega) u, h.be.setCell (p := ⟨x, i, none⟩) hx0 u, h.gx, fun q hq => ?_⟩
  exact (h.bu q hq).to (fun k hk => Below.heap_setCell w ⟨x, i, none⟩ u k (fun e => (h.bu q hq).ne hx h4 (by rw [hk, show k = x from e])))
end
theorem Blk.seven {w : World} {g : Nat} {t : TypeId} {a b c d e f k : Value} (h : Blk w g t #[a, b, c, d, e, f, k]) : w.cell? ⟨g, 0, none⟩ = some a ∧ w.cell? ⟨g, 1, none⟩ = some b ∧ w.cell? ⟨g, 2, none⟩ = some c ∧ w.cell? ⟨g, 3, none⟩ = some d ∧ w.cell? ⟨g, 4, none⟩ = some e ∧ w.cell? ⟨g, 5, none⟩ = some f ∧ w.cell? ⟨g, 6, none⟩ = some k ∧ w.frozen? ⟨g, 5, none⟩ = false :=
  ⟨h.cell 0 rfl, h.cell 1 rfl, h.cell 2 rfl, h.cell 3 rfl, h.cell 4 rfl, h.cell 5 rfl, h.cell 6 rfl, h.frozen 5⟩
def vA : Vw := aliveV ⟨#[97, 98]⟩
def vC : Vw := aliveV ⟨#[97, 99]⟩
def aP1 : Pt := tellP (ptNew.draw (ofP vA))
def aP2 : Pt := tellP (aP1.draw (ofP vC))
theorem alive_more : aP2.resizeB = [13, 27, 91, 74] ∧ aP2.is = true ∧ aP2.resize.is = false ∧ ptNew.finishB (ofP vC) = [13, 97, 99, 13, 27, 91, 50, 67, 13, 10] := by decide +kernel
theorem bytesA : (ptNew.draw (ofP vA)).b = [13, 97, 98, 13, 27, 91, 50, 67] := alive_plain.1
theorem bytesB : (aP1.draw (ofP vC)).b = [13, 27, 91, 49, 67, 99, 13, 27, 91, 50, 67] := alive_plain.2.1
theorem colC : (ofP vC).col = 2 := alive_plain.2.2
theorem fkA : FK 8 (ofP vA) := ofP_ok vA
theorem fkC : FK 8 (ofP vC) := ofP_ok vC
theorem pk0 : PtK 8 ptNew := PtK.new 8
theorem pk1 : PtK 8 aP1 := pk0.draw fkA
theorem pk2 : PtK 8 aP2 := pk1.draw fkC
theorem again2 : tellP (aP2.draw (ofP vC)) = aP2 ∧ (aP2.draw (ofP vC)).b = [] := by
  have h := (draw_again pk1 fkC).1
  have h2 : aP2.draw (ofP vC) = aP2 := h
  rw [h2]
  exact ⟨rfl, rfl⟩
theorem last2 : aP2.last = ofP vC := (draw_again pk1 fkC).2
theorem res2 : aP2.resize = ptNew := by unfold Pt.resize; rw [alive_more.2.1]; rfl
theorem ofv_calls {w0 w : World} (hT : Lib.Utf8Tabs 0 1 w0) (hb : Below w0.heap.size w0 w) (v : Vw) (h : v = vA ∨ v = vC) : Calls Tryd.prog 8 #[.agg (vwV v)] w fun e W' => ∃ (lv : Value) (L : List RR), e = .returned (.agg #[lv, .int .i64 ((ofP v).row : Int), .int .i64 ((ofP v).col : Int)]) ∧
      RowsO (fun k => w.heap.size ≤ k) W' lv L (ofP v).rows ∧ Below w.heap.size w W' :=
  of_calls_ v (by rcases h with rfl | rfl <;> decide) (by rcases h with rfl | rfl <;> decide) (by rcases h with rfl | rfl <;> decide) (by rcases h with rfl | rfl <;> decide) w (Utf8Tabs_below hT hb)
set_option maxRecDepth 100000 in
set_option maxHeartbeats 4000000 in
theorem alive19_calls (w : World) (hT : Lib.Utf8Tabs 0 1 w) (htab : Lib.TabIs Tryd.prog w "internal/strconv.uint64pow10" .u64 Lib.pow10Tab) (ht : 2 < w.heap.size) :
    Calls Tryd.prog 5 #[] w fun e w' => e = .returned (.bool true) ∧ Below w.heap.size w w' := by
  have HT := Hd.mk hT
  have HP := Hd.mk ht
  have X0 := Hd.mk (ps_new w htab ht)
  clear hT htab ht
  go_enter Tryd.func5, Tryd.ntmps5
  go_wp2_with fail
  go_at_call 6
  with_reducible refine X0.out.mono ?_
  rintro _ w1 ⟨rfl, hs, hb⟩
  have HA0 : Hd (AK w w1 w.heap.size ptNew []) := ⟨⟨hs, hb, Nat.le_refl _, fun q hq => by cases hq⟩⟩
  clear hs hb X0
  have HG : Hd (w.heap.size ≤ w.heap.size) := ⟨Nat.le_refl _⟩
  have HX := Hd.mk (Blk.new w1 35 #[.int .i64 2, .int .i64 8, .string ⟨#[]⟩, .string ⟨#[]⟩, .string ⟨#[]⟩, .string ⟨#[97, 98]⟩, .int .i64 2])
  have HA := Hd.mk (HA0.out.call ((Below.refl _ w1).alloc (Nat.le_refl _) (.cells #[.int .i64 2, .int .i64 8, .string ⟨#[]⟩, .string ⟨#[]⟩, .string ⟨#[]⟩, .string ⟨#[97, 98]⟩, .int .i64 2] 35)))
  have HX0 : Hd (w.heap.size ≤ w1.heap.size) := ⟨HA0.out.size⟩
  obtain ⟨c0, c1, c2, c3, c4, c5, c6, d5⟩ := Blk.seven HX.out
  clear HA0 HG
  skip
  have XO := Hd.mk (ofv_calls HT.out HA.out.be vA (by first | exact .inl rfl | exact .inr rfl))
  go_wp2_with fail
  go_at_call 8
  refine XO.out.mono ?_
  rintro _ wo1 ⟨lf1, Lf1, rfl, hr, hb⟩
  have HR := Hd.mk hr
  replace HA := Hd.mk (HA.out.call hb)
  replace HX := Hd.mk (HX.out.belowW hb)
  clear hr hb XO c0 c1 c2 c3 c4 c5 c6 d5
  have X := Hd.mk (ps_draw HA.out.ps pk0 HR.out fkA)
  go_wp2_with fail
  go_at_call 9
  with_reducible refine X.out.mono ?_
  rintro _ wp1 ⟨va, rfl, hq, hs, f⟩
  change PS _ _ aP1 at hs
  rw [bytesA] at hq
  obtain ⟨Aa, ca, rfl⟩ := owns_slice hq
  replace HX := Hd.mk (HX.out.pf f (by decide) (by decide))
  replace HA := Hd.mk (HA.out.turn hq hs f)
  clear hq hs f X HR
  replace HA := Hd.mk (HA.out.set_ (i := 5) HX.out (by decide) (by decide) (by decide) (by decide) HX0.out HP.out (.string ⟨#[97, 99]⟩))
  have HX9 : Hd (Blk (wp1.setCell ⟨w1.heap.size, 5, none⟩ (.string ⟨#[97, 99]⟩)) w1.heap.size 35 #[.int .i64 2, .int .i64 8, .string ⟨#[]⟩, .string ⟨#[]⟩, .string ⟨#[]⟩, .string ⟨#[97, 99]⟩, .int .i64 2]) := ⟨HX.out.set_ 5 _⟩
  have d5 := HX.out.frozen 5
  have c5 := HX.out.cell 5 rfl
  clear HX
  have HX := HX9
  clear HX9
  obtain ⟨e0, e1, e2, e3, e4, e5, e6, e7⟩ := Blk.seven HX.out
  have XO := Hd.mk (ofv_calls HT.out HA.out.be vC (by first | exact .inl rfl | exact .inr rfl))
  go_wp2_with fail
  go_at_call 8
  refine XO.out.mono ?_
  rintro _ wo2 ⟨lf2, Lf2, rfl, hr, hb⟩
  have HR := Hd.mk hr
  replace HA := Hd.mk (HA.out.call hb)
  replace HX := Hd.mk (HX.out.belowW hb)
  clear hr hb XO c5 d5 e0 e1 e2 e3 e4 e5 e6 e7
  have X := Hd.mk ((by have h := ps_cost HA.out.ps pk1 HR.out fkC; rw [bytesB] at h; exact h))
  go_wp2_with fail
  go_at_call 10
  with_reducible refine X.out.mono ?_
  rintro _ wp2 ⟨rfl, hb⟩
  replace HX := Hd.mk (HX.out.belowW hb)
  replace HA := Hd.mk (HA.out.call hb)
  clear hb X HR
  obtain ⟨c0, c1, c2, c3, c4, c5, c6, d5⟩ := Blk.seven HX.out
  have XO := Hd.mk (ofv_calls HT.out HA.out.be vC (by first | exact .inl rfl | exact .inr rfl))
  go_wp2_with fail
  go_at_call 8
  refine XO.out.mono ?_
  rintro _ wo3 ⟨lf3, Lf3, rfl, hr, hb⟩
  have HR := Hd.mk hr
  replace HA := Hd.mk (HA.out.call hb)
  replace HX := Hd.mk (HX.out.belowW hb)
  clear hr hb XO c0 c1 c2 c3 c4 c5 c6 d5
  have X := Hd.mk (ps_draw HA.out.ps pk1 HR.out fkC)
  go_wp2_with fail
  go_at_call 9
  with_reducible refine X.out.mono ?_
  rintro _ wp3 ⟨vb, rfl, hq, hs, f⟩
  change PS _ _ aP2 at hs
  rw [bytesB] at hq
  obtain ⟨Ab, cb, rfl⟩ := owns_slice hq
  replace HX := Hd.mk (HX.out.pf f (by decide) (by decide))
  replace HA := Hd.mk (HA.out.turn hq hs f)
  clear hq hs f X HR
  obtain ⟨c0, c1, c2, c3, c4, c5, c6, d5⟩ := Blk.seven HX.out
  have XO := Hd.mk (ofv_calls HT.out HA.out.be vC (by first | exact .inl rfl | exact .inr rfl))
  go_wp2_with fail
  go_at_call 8
  refine XO.out.mono ?_
  rintro _ wo4 ⟨lf4, Lf4, rfl, hr, hb⟩
  have HR := Hd.mk hr
  replace HA := Hd.mk (HA.out.call hb)
  replace HX := Hd.mk (HX.out.belowW hb)
  clear hr hb XO c0 c1 c2 c3 c4 c5 c6 d5
  have X := Hd.mk (ps_draw (p := aP2) HA.out.ps pk2 HR.out fkC)
  go_wp2_with fail
  go_at_call 9
  with_reducible refine X.out.mono ?_
  rintro _ wp4 ⟨vc, rfl, hq, hs, f⟩
  rw [again2.2] at hq
  rw [again2.1] at hs
  obtain ⟨Ac, cc, rfl⟩ := owns_slice hq
  replace HX := Hd.mk (HX.out.pf f (by decide) (by decide))
  replace HA := Hd.mk (HA.out.turn hq hs f)
  clear hq hs f X HR
  obtain ⟨c0, c1, c2, c3, c4, c5, c6, d5⟩ := Blk.seven HX.out
  have X := Hd.mk (ps_last (p := aP2) HA.out.ps pk2)
  go_wp2_with fail
  go_at_call 11
  with_reducible refine X.out.mono ?_
  rintro _ wl5 ⟨ll5, Ll5, rfl, hr, hb⟩
  obtain ⟨Aq5, cq5, rfl, _⟩ := Kd.Q_slice hr.q
  clear hr
  replace HX := Hd.mk (HX.out.belowW hb)
  replace HA := Hd.mk (HA.out.call hb)
  clear hb X c0 c1 c2 c3 c4 c5 c6 d5
  rw [alive_more.2.1]
  have hal := (Below.refl _ wl5).alloc (Nat.le_refl _) (.cells #[.slice Aq5 Ll5.length cq5, .int .i64 (aP2.last.row : Int), .int .i64 (aP2.last.col : Int)] 38)
  replace HX := Hd.mk (HX.out.belowW hal)
  replace HA := Hd.mk (HA.out.call hal)
  have H7 := Hd.mk (Blk.new wl5 38 #[.slice Aq5 Ll5.length cq5, .int .i64 (aP2.last.row : Int), .int .i64 (aP2.last.col : Int)])
  clear hal
  have X := Hd.mk (ps_resize (p := aP2) HA.out.ps pk2)
  go_wp2_with fail
  go_at_call 12
  with_reducible refine X.out.mono ?_
  rintro _ wr ⟨vd, rfl, hq, hs, f⟩
  rw [alive_more.1] at hq
  rw [res2] at hs
  obtain ⟨Ad, cd, rfl⟩ := owns_slice hq
  replace H7 := Hd.mk (H7.out.pf f (by decide) (by decide))
  replace HX := Hd.mk (HX.out.pf f (by decide) (by decide))
  replace HA := Hd.mk (HA.out.turn hq hs f)
  clear hq hs f X
  have X := Hd.mk (ps_last (p := ptNew) HA.out.ps pk0)
  go_wp2_with fail
  go_at_call 11
  with_reducible refine X.out.mono ?_
  rintro _ wl6 ⟨ll6, Ll6, rfl, hr, hb⟩
  obtain ⟨Aq6, cq6, rfl, _⟩ := Kd.Q_slice hr.q
  clear hr
  replace HX := Hd.mk (HX.out.belowW hb)
  replace HA := Hd.mk (HA.out.call hb)
  replace H7 := Hd.mk (H7.out.belowW hb)
  clear hb X
  have hal := (Below.refl _ wl6).alloc (Nat.le_refl _) (.cells #[.slice Aq6 Ll6.length cq6, .int .i64 (ptNew.last.row : Int), .int .i64 (ptNew.last.col : Int)] 38)
  replace HX := Hd.mk (HX.out.belowW hal)
  replace HA := Hd.mk (HA.out.call hal)
  replace H7 := Hd.mk (H7.out.belowW hal)
  clear hal
  obtain ⟨c0, c1, c2, c3, c4, c5, c6, d5⟩ := Blk.seven HX.out
  have XO := Hd.mk (ofv_calls HT.out HA.out.be vC (by first | exact .inl rfl | exact .inr rfl))
  go_wp2_with fail
  go_at_call 8
  refine XO.out.mono ?_
  rintro _ wo7 ⟨lf7, Lf7, rfl, hr, hb⟩
  have HR := Hd.mk hr
  replace HA := Hd.mk (HA.out.call hb)
  replace HX := Hd.mk (HX.out.belowW hb); replace H7 := Hd.mk (H7.out.belowW hb)
  clear hr hb XO c0 c1 c2 c3 c4 c5 c6 d5
  have X := Hd.mk (ps_finish (p := ptNew) HA.out.ps pk0 HR.out fkC)
  go_wp2_with fail
  go_at_call 13
  with_reducible refine X.out.mono ?_
  rintro _ wp7 ⟨ve, rfl, hq, hs, f⟩
  rw [alive_more.2.2.2] at hq
  obtain ⟨Ae, ce, rfl⟩ := owns_slice hq
  replace H7 := Hd.mk (H7.out.pf f (by decide) (by decide))
  replace HX := Hd.mk (HX.out.pf f (by decide) (by decide))
  replace HA := Hd.mk (HA.out.turn hq hs f)
  clear hq hs f X HR
  have hca : (convert 43 9 (.slice Aa 8 ca)).run Tryd.prog wp7 = .ok (.string ⟨#[13, 97, 98, 13, 27, 91, 50, 67]⟩) wp7 := buf_conv (HA.out.bu (.slice Aa 8 ca, [13, 97, 98, 13, 27, 91, 50, 67]) (by simp))
  have hcb : (convert 43 9 (.slice Ab 11 cb)).run Tryd.prog wp7 = .ok (.string ⟨#[13, 27, 91, 49, 67, 99, 13, 27, 91, 50, 67]⟩) wp7 := buf_conv (HA.out.bu (.slice Ab 11 cb, [13, 27, 91, 49, 67, 99, 13, 27, 91, 50, 67]) (by simp))
  have hcd : (convert 43 9 (.slice Ad 4 cd)).run Tryd.prog wp7 = .ok (.string ⟨#[13, 27, 91, 74]⟩) wp7 := buf_conv (HA.out.bu (.slice Ad 4 cd, [13, 27, 91, 74]) (by simp))
  have hce : (convert 43 9 (.slice Ae 10 ce)).run Tryd.prog wp7 = .ok (.string ⟨#[13, 97, 99, 13, 27, 91, 50, 67, 13, 10]⟩) wp7 := buf_conv (HA.out.bu (.slice Ae 10 ce, [13, 97, 99, 13, 27, 91, 50, 67, 13, 10]) (by simp))
  have h72 : wp7.cell? ⟨wl5.heap.size, 2, none⟩ = some (.int .i64 2) := (H7.out.cell 2 rfl).trans (by rw [last2, colC]; rfl)
  clear HX H7
  go_wp2
  go_ret
  exact ⟨rfl, HA.out.be⟩
end Go.Proofs.YtledplnlcjfafaaDoorL

