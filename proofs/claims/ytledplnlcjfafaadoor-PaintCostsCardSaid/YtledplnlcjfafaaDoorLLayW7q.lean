/- Parts of the proof of the law that the last file states; declarations that nothing mentions are left out by a program. No conditions. -/
import Derived.Test.YtledplnlcjfafaaDoorLLayW6q
set_option linter.unusedVariables false
set_option linter.unusedSimpArgs false
namespace Go.Proofs.YtledplnlcjfafaaDoorL
open Go Go.RowKit Go.Proofs.YtledplnlcjfafaaDoorW.PrintWords
theorem infoFrame3 : (Tryd.prog.info? 38).map (·.size) = some 3 := by kernel_rfl
theorem RowsO.mid {P : Nat → Prop} {w : World} {ad : Addr} {n c lo m : Nat} {L : List RR} {l : List (List TC)} (h : RowsO P w (.slice (some ad) n c) L l) (h1 : lo ≤ l.length) (h2 : m ≤ (l.drop lo).length) (h3 : c ≠ lo) : RowsO P w (.slice (some (ad.add lo)) m (c - lo)) ((L.drop lo).take m) ((l.drop lo).take m) := by
  have e1 := h.drop_ h1
  rw [if_neg h3] at e1
  have e2 := RowsO.take_ e1 h2
  rw [show rrK.sz = 1 from rfl, Nat.mul_one] at e2
  exact e2
set_option maxRecDepth 100000 in
set_option maxHeartbeats 4000000 in
theorem of_calls_ (v : Vw) (hl : v.left.size ≤ 4294967296) (hr : v.right.size ≤ 4294967296) (hg : v.ghost.size ≤ 4294967296) (ht : v.text.size ≤ 4294967296) (w : World) (hT : Lib.Utf8Tabs 0 1 w) :
    Calls Tryd.prog 8 #[.agg (vwV v)] w fun e W' => ∃ (lv : Value) (L : List RR), e = .returned (.agg #[lv, .int .i64 ((ofP v).row : Int), .int .i64 ((ofP v).col : Int)]) ∧
      RowsO (fun k => w.heap.size ≤ k) W' lv L (ofP v).rows ∧ Below w.heap.size w W' := by
  have X := Hd.mk (fun (W : World) (hb : Below w.heap.size w W) => drawn_calls v hl hr hg ht W (Utf8Tabs_below hT hb))
  have hc := cutN_le v.cols (n := 120) (by omega)
  have hrw := cutN_le v.rows (n := 60) (by omega)
  have HDK := Hd.mk (drawnP_ok (cutN v.cols 120) hc.1 hc.2 v)
  have HNW : Hd ((newT v.rows v.cols).cols = cutN v.cols 120 ∧ (newT v.rows v.cols).l.length = cutN v.rows 60) := ⟨⟨rfl, List.length_replicate ..⟩⟩
  have HOF : Hd (ofP v = ⟨((drawnP (cutN v.cols 120) v).s.l.drop ((drawnP (cutN v.cols 120) v).row + 1 - cutN v.rows 60)).take (min (drawnP (cutN v.cols 120) v).s.l.length ((drawnP (cutN v.cols 120) v).row + 1 - cutN v.rows 60 + cutN v.rows 60) - ((drawnP (cutN v.cols 120) v).row + 1 - cutN v.rows 60)), (drawnP (cutN v.cols 120) v).row - ((drawnP (cutN v.cols 120) v).row + 1 - cutN v.rows 60), (drawnP (cutN v.cols 120) v).col⟩) := ⟨rfl⟩
  obtain ⟨p0, hp0⟩ : ∃ p, ofP v = p := ⟨_, rfl⟩
  rw [hp0] at HOF
  rw [hp0]
  clear hp0 hl hr hg ht hT
  unfold vwV at X
  unfold vwV
  generalize drawnP (cutN v.cols 120) v = d at *
  generalize cutN v.cols 120 = cols at *
  generalize hrr : cutN v.rows 60 = rows at *
  have V0 := (Blk.new w 35 #[.int .i64 v.rows, .int .i64 v.cols, .string v.left, .string v.right, .string v.ghost, .string v.text, .int .i64 v.at_]).alloc (.cells #[.slice none 0 0, .int .i64 0, .int .i64 0] 38)
  have F0 := Blk.new (w.alloc (.cells #[.int .i64 v.rows, .int .i64 v.cols, .string v.left, .string v.right, .string v.ghost, .string v.text, .int .i64 v.at_] 35)) 38 #[.slice none 0 0, .int .i64 0, .int .i64 0]
  rw [World.size_alloc] at F0
  have hB : Below w.heap.size w ((w.alloc (.cells #[.int .i64 v.rows, .int .i64 v.cols, .string v.left, .string v.right, .string v.ghost, .string v.text, .int .i64 v.at_] 35)).alloc (.cells #[.slice none 0 0, .int .i64 0, .int .i64 0] 38)) := ((Below.refl _ w).alloc (Nat.le_refl _) _).alloc (by simp) _
  go_enter Tryd.func8, Tryd.ntmps8
  go_wp2_with fail
  go_at_call 14
  with_reducible refine (X.out _ hB).mono ?_
  rintro _ w1 ⟨lv, L, rfl, hrows, hb1⟩
  have V1 := V0.to (hb1.block _ V0.lt)
  have F1 := F0.to (hb1.block _ F0.lt)
  have HB1 := Hd.mk (hB.trans (hb1.mono hB.size))
  have HR1 := Hd.mk (hrows.mono (P' := fun k => w.heap.size ≤ k ∧ k ≠ w.heap.size + 1) (fun k hk => by have h2 : w.heap.size + 1 + 1 ≤ k := (by simpa using hk); exact ⟨by omega, by omega⟩))
  clear V0 F0 hB X hb1 hrows
  have v0 : w1.cell? ⟨w.heap.size, 0, none⟩ = some (.int .i64 v.rows) := V1.cell 0 rfl
  have v1 : w1.cell? ⟨w.heap.size, 1, none⟩ = some (.int .i64 v.cols) := V1.cell 1 rfl
  go_wp2_with fail
  go_at_call 15
  with_reducible refine (new_calls v.rows v.cols _).mono ?_
  rintro _ w2 ⟨T, rfl, hTm, hb2⟩
  have F2 := F1.to (hb2.block _ F1.lt)
  have HB2 := Hd.mk (HB1.out.trans (hb2.mono HB1.out.size))
  have HR2 := Hd.mk (HR1.out.below hb2)
  clear F1 HB1 HR1 hb2 v0 v1 V1
  go_wp2_with fail
  go_at_call 16
  with_reducible refine (size_calls hTm).mono ?_
  rintro _ w3 ⟨rfl, hb3⟩
  have F3 := F2.to (hb3.block _ F2.lt)
  have HB3 := Hd.mk (HB2.out.trans (hb3.mono HB2.out.size))
  have HR3 := Hd.mk (HR2.out.below hb3)
  clear F2 HB2 HR2 hb3 hTm
  rw [HNW.out.2]
  clear HNW
  obtain ⟨m1, m2, m3, m4, m5, m6⟩ := HDK.out
  obtain ⟨c, ad, r0, rfl, _⟩ := HR3.out.look (i := 0) (by omega)
  obtain ⟨top, htop⟩ : ∃ t, d.row + 1 - rows = t := ⟨_, rfl⟩
  obtain ⟨n, hn⟩ : ∃ n, d.s.l.length = n := ⟨_, rfl⟩
  obtain ⟨hi, hhi⟩ : ∃ h, min n (top + rows) = h := ⟨_, rfl⟩
  rw [htop, hn, hhi] at HOF
  have hcn : n ≤ c := by have := (Kd.Q_reads' HR3.out.q).2.1; omega
  have q1 : max ((d.row : Int) - (rows : Int) + 1) 0 = (top : Int) := by omega
  have q2 : min (n : Int) ((top : Int) + (rows : Int)) = (hi : Int) := by omega
  have q3 : (top : Int) ≤ (hi : Int) := by omega
  have q4 : (hi : Int) ≤ (c : Int) := by omega
  have q5 : ¬ c = top := by omega
  have q6 : (0 : Int) ≤ (top : Int) := Int.natCast_nonneg _
  have q7 : (d.row : Int) - (top : Int) = ((d.row - top : Nat) : Int) := by omega
  have q8 : (d.row : Int) ≤ 3000 := by omega
  have q9 : (rows : Int) ≤ 60 := by omega
  have q10 : top ≤ hi := by omega
  have q11 : hi ≤ c := by omega
  have HM := Hd.mk (HR3.out.mid (lo := top) (m := hi - top) (by omega) (by rw [List.length_drop]; omega) q5)
  rw [hn]
  have HNN := Hd.mk hn
  have HTP := Hd.mk htop
  clear hn htop hhi hrr m1 m2
  go_wp2_with ((with_reducible refine gate_store (t := 38) (p := 2) rfl ?_); refine store_event rfl rfl (g := w.heap.size + 1) (cells := #[.slice (some (ad.add top)) (hi - top) (c - top), .int .i64 ((d.row - top : Nat) : Int), .int .i64 (d.col : Int)]) (by first | rfl | (go_simp; done) | (go_simp; rfl)) (by first | rfl | (go_simp; done) | (go_simp; rfl)) F3 infoFrame3 rfl (by simp [Value.oneCell']) ?_; intro ws hx hk hz hb)
  have hW : Below w.heap.size w ws := hb HB3.out (by omega)
  have hR := (HM.out.move (w' := ws) (fun k hp hl => hk.2 k hl hp.2)).mono (P' := fun k => w.heap.size ≤ k) (fun k hk => hk.1)
  exact ret_row (cs := #[.slice (some (ad.add top)) (hi - top) (c - top), .int .i64 ((d.row - top : Nat) : Int), .int .i64 (d.col : Int)]) rfl rfl Tryd.underlying38 infoFrame3 rfl hx rfl ⟨_, _, by rw [HOF.out], by rw [HOF.out]; exact hR, hW⟩
end Go.Proofs.YtledplnlcjfafaaDoorL

