/- Parts of the proof of the law that the last file states; declarations that nothing mentions are left out by a program. No conditions. -/
import Derived.Lib.SlBytesConst
import Derived.Test.YtgifpkjcggnhgaaGreatDoorLTermFq
import Derived.Test.YtgifpkjcggnhgaaGreatDoorLTermAlq
set_option linter.unusedVariables false
set_option linter.unusedSimpArgs false
namespace Go.Proofs.YtgifpkjcggnhgaaGreatDoorL
open Go Go.RowKit Go.Proofs.YtgifpkjcggnhgaaGreatDoorW.PrintWords
structure St (w0 w : World) (F : Nat → Prop) (T : Nat) (s : Tm) : Prop where
  ta : TA F w T s
  own : ∀ k, F k → w0.heap.size ≤ k
  bl : Below w0.heap.size w0 w
section
variable {F G : Nat → Prop} {w0 w w' : World} {T T' M : Nat} {s s' : Tm}
theorem St.outT (h : St w0 w F T s) (hT : TabsT w0) : OutT F := ⟨fun x => by have := h.own _ x; have := hT.lt.1; omega, fun x => by have := h.own _ x; have := hT.lt.2; omega⟩
theorem St.to (h : St w0 w F T s) (hb : Below w.heap.size w w') : St w0 w' F T s := ⟨h.ta.below hb, h.own, h.bl.trans (hb.mono h.bl.size)⟩
theorem St.alloc (h : St w0 w F T s) (o : Obj) : St w0 (w.alloc o) F T s := h.to ((Below.refl _ w).alloc (Nat.le_refl _) o)
theorem St.told (h : St w0 w F T s) (ht : Told F w T s' w') : ∃ F', St w0 w' F' T s' ∧ (∀ k, F' k → F k ∨ w.heap.size ≤ k) ∧ Only F w w' := by
  obtain ⟨F', h1, h2, h3⟩ := ht
  exact ⟨F', ⟨h1, fun k hk => (h2 k hk).elim (h.own k) (fun hs => Nat.le_trans h.bl.size hs), h.bl.trans (h3.to_below h.own h.bl.size)⟩, h2, h3⟩
theorem St.other (h : St w0 w G T' s') (ho : Only F w w') (hd : ∀ k, G k → ¬ F k) (hb : Below w0.heap.size w0 w') : St w0 w' G T' s' := ⟨h.ta.only ho hd, h.own, hb⟩
theorem St.new {F' : Nat → Prop} (hb0 : Below w0.heap.size w0 w) (h : TA F' w' T s) (hk : ∀ k, F' k → w.heap.size ≤ k) (hb : Below w.heap.size w w') : St w0 w' F' T s := ⟨h, fun k hF => Nat.le_trans hb0.size (hk k hF), hb0.trans (hb.mono hb0.size)⟩
end
theorem RowAt.only {F : Nat → Prop} {w w' : World} {r : RR} {l : List TC} (h : RowAt w r l) (ho : Only F w w') (hg : ¬ F r.g) : RowAt w' r l := h.to (ho.block _ h.lt hg)
theorem RowAt.below {w w' : World} {r : RR} {l : List TC} (h : RowAt w r l) (hb : Below w.heap.size w w') : RowAt w' r l := h.to (hb.block _ h.lt)
theorem getD_get {α : Type} {l : List α} {k : Nat} {d : α} (h : k < l.length) : l[k] = l.getD k d := by rw [List.getD_eq_getElem?_getD, List.getElem?_eq_getElem h]; rfl
theorem eqCell (d : Nat) (w : World) (x0 y0 : ByteArray) (x1 y1 : Int) (x2 y2 : Bool) :
    (Op.equalIn (d + 2) 32 (.agg #[.string x0, .int .i64 x1, .bool x2]) (.agg #[.string y0, .int .i64 y1, .bool y2])).run Tryz.prog w = .ok (x0.toList == y0.toList && (x1 == y1 && (x2 == y2))) w := by
  refine eqA_of Tryz.underlying32 (by kernel_rfl) ?_
  refine eqf_cons (by rfl) (by go_simp; rfl) (by go_simp; rfl) (by go_simp) ?_
  refine eqf_cons (by rfl) (by go_simp; rfl) (by go_simp; rfl) (by go_simp) ?_
  exact eqf_last (by rfl) (by go_simp; rfl) (by go_simp; rfl) (by go_simp)
attribute [local go_sem high] eqCell
theorem row_at {P : Nat → Prop} {w : World} {T M : Nat} {s : Tm} (h : TermAt P w T s) (hok : OKT M s) {k : Nat} (hk : k < s.l.length) :
    Calls Tryz.prog 14 #[.pointer (some ⟨T, 0, none⟩), .int .i64 (k : Int)] w fun e w' => ∃ r : RR, e = .returned r.v ∧ r.n = s.cols ∧ w.heap.size ≤ r.g ∧ RowAt w' r (s.l.getD k []) ∧ Below w.heap.size w w' := by
  rw [← getD_get hk]
  exact row_calls h hok hk
theorem gone_at {P : Nat → Prop} {w : World} {T M : Nat} {s : Tm} (h : TermAt P w T s) (hok : OKT M s) (hM : M ≤ 1000000) {k j : Nat} (hj : j < s.gone.length) (hk : k = j + (s.off - s.gone.length)) :
    Calls Tryz.prog 22 #[.pointer (some ⟨T, 0, none⟩), .int .i64 (k : Int)] w fun e w' => ∃ r : RR, e = .returned r.v ∧ r.n = (s.gone.getD j []).length ∧ w.heap.size ≤ r.g ∧ RowAt w' r (s.gone.getD j []) ∧ Below w.heap.size w w' := by
  rw [← getD_get hj]
  exact gone_calls h hok hM hj hk
set_option maxRecDepth 100000 in
set_option maxHeartbeats 4000000 in
theorem alive_calls (w : World) (hT : TabsT w) : Calls Tryz.prog 11 #[] w fun e w' => e = .returned (.bool true) ∧ Below w.heap.size w w' := by
  have HT := Hd.mk hT
  have K1 : Hd (TK 4 al0) := ⟨TK.new 2 3⟩
  have X0 := Hd.mk (new_ta 2 3 w)
  rw [show newT 2 3 = al0 from rfl] at X0
  have hcv := fun W C n c => Lib.run_convert_bytes_const (P := Tryz.prog) W 34 5 C n c Tryz.underlying34 Tryz.underlying5
  clear hT
  go_enter Tryz.func11, Tryz.ntmps11
  go_wp2_with fail
  go_at_call 16
  with_reducible refine X0.out.mono ?_
  rintro _ w1 ⟨T, rfl, ⟨F1, hta, hF⟩, hb⟩
  have H1 := Hd.mk (St.new (Below.refl _ w) hta hF hb)
  clear hta hF hb X0
  go_wp2_with fail
  have XF := Hd.mk (feed_lit (n := 7) (c := 7) (l := [97, 98, 27, 91, 50, 109, 99]) H1.out.ta K1.out rfl (by decide) (HT.out.below H1.out.bl) (H1.out.outT HT.out) (7, 8))
  rw [show (List.map (fun b : UInt8 => Value.int .u8 (b.toNat : Int)) [97, 98, 27, 91, 50, 109, 99]).toArray = #[.int .u8 97, .int .u8 98, .int .u8 27, .int .u8 91, .int .u8 50, .int .u8 109, .int .u8 99] from rfl] at XF
  go_wp2_with fail
  go_at_call 17
  with_reducible refine XF.out.mono ?_
  rintro _ w2 ⟨rfl, ht⟩
  obtain ⟨F2, S2, hsub, hon⟩ := St.told (H1.out.alloc _) ht
  have H2 := Hd.mk S2
  have SUB2 := Hd.mk hsub
  have ON2 := Hd.mk hon
  have K2 := Hd.mk (K1.out.feed [97, 98, 27, 91, 50, 109, 99])
  clear ht S2 hsub hon XF
  rw [show al0.feed [97, 98, 27, 91, 50, 109, 99] = al1 from rfl] at H2 K2
  clear H1 K1 SUB2 ON2
  have XF := Hd.mk (full_calls H2.out.ta.t)
  rw [al1_full] at XF
  go_wp2_with fail
  go_at_call 15
  with_reducible refine XF.out.mono ?_
  rintro _ w3 ⟨rfl, hb⟩
  have H3 := Hd.mk (H2.out.to hb)
  have K3 := K2
  clear hb XF H2 K2
  go_wp2_with fail
  have XF := Hd.mk (feed_lit (n := 1) (c := 1) (l := [100]) H3.out.ta K3.out rfl (by decide) (HT.out.below H3.out.bl) (H3.out.outT HT.out) (1, 2))
  rw [show (List.map (fun b : UInt8 => Value.int .u8 (b.toNat : Int)) [100]).toArray = #[.int .u8 100] from rfl] at XF
  go_wp2_with fail
  go_at_call 17
  with_reducible refine XF.out.mono ?_
  rintro _ w4 ⟨rfl, ht⟩
  obtain ⟨F4, S4, hsub, hon⟩ := St.told (H3.out.alloc _) ht
  have H4 := Hd.mk S4
  have SUB4 := Hd.mk hsub
  have ON4 := Hd.mk hon
  have K4 := Hd.mk (K3.out.feed [100])
  clear ht S4 hsub hon XF
  rw [show al1.feed [100] = al2 from rfl] at H4 K4
  clear H3 K3 SUB4 ON4
  go_wp2_with fail
  have XC := Hd.mk (cursor_calls H4.out.ta.t)
  rw [al2_cur.1, al2_cur.2.1] at XC
  go_wp2_with fail
  go_at_call 13
  with_reducible refine XC.out.mono ?_
  rintro _ w5 ⟨rfl, hb⟩
  have H5 := Hd.mk (H4.out.to hb)
  clear hb XC H4
  go_wp2_with fail
  have XR := Hd.mk (row_at H5.out.ta.t K4.out.ok (k := 0) (by rw [al2_cur.2.2.1]; decide))
  rw [show ((0 : Nat) : Int) = 0 from rfl, al2_row, show al2.cols = 3 from rfl] at XR
  go_wp2_with fail
  go_at_call 14
  with_reducible refine XR.out.mono ?_
  rintro _ w6 ⟨r, rfl, hrn, hrg, hr, hb⟩
  have H6 := Hd.mk (H5.out.to hb)
  have HR6 := Hd.mk hr
  have HRG := Hd.mk (show ¬ F4 r.g from fun hk => by have := H5.out.ta.lt _ hk; omega)
  have HRN := Hd.mk hrn
  clear hb XR H5 hr hrg
  unfold RR.v
  rw [hrn]
  go_wp2_with fail
  have XC := Hd.mk (copy_ta H6.out.ta K4.out)
  go_wp2_with fail
  go_at_call 18
  with_reducible refine XC.out.mono ?_
  rintro _ w7 ⟨C, rfl, ⟨FC, hta, hF⟩, hb⟩
  have HC7 := Hd.mk (St.new H6.out.bl hta hF hb)
  have HD7 : Hd (∀ k, FC k → ¬ F4 k) := ⟨fun k hk hk2 => by have := hF k hk; have := H6.out.ta.lt _ hk2; omega⟩
  have HRC : Hd (¬ FC r.g) := ⟨fun hk => by have := hF _ hk; have := HR6.out.lt; omega⟩
  have H7 := Hd.mk (H6.out.to hb)
  have HR7 := Hd.mk (HR6.out.below hb)
  clear hta hF hb XC H6 HR6
  go_wp2_with fail
  skip
  have XF := Hd.mk (feed_lit (n := 8) (c := 8) (l := [10, 13, 27, 91, 65, 27, 91, 75]) H7.out.ta K4.out rfl (by decide) (HT.out.below H7.out.bl) (H7.out.outT HT.out) (8, 9))
  rw [show (List.map (fun b : UInt8 => Value.int .u8 (b.toNat : Int)) [10, 13, 27, 91, 65, 27, 91, 75]).toArray = #[.int .u8 10, .int .u8 13, .int .u8 27, .int .u8 91, .int .u8 65, .int .u8 27, .int .u8 91, .int .u8 75] from rfl] at XF
  go_wp2_with fail
  go_at_call 17
  with_reducible refine XF.out.mono ?_
  rintro _ w8 ⟨rfl, ht⟩
  obtain ⟨F8, S8, hsub, hon⟩ := St.told (H7.out.alloc _) ht
  have H8 := Hd.mk S8
  have SUB8 := Hd.mk hsub
  have ON8 := Hd.mk hon
  have K8 := Hd.mk (K4.out.feed [10, 13, 27, 91, 65, 27, 91, 75])
  clear ht S8 hsub hon XF
  rw [show al2.feed [10, 13, 27, 91, 65, 27, 91, 75] = al3 from rfl] at H8 K8
  have HC8 := Hd.mk (St.other (HC7.out.alloc _) ON8.out (fun k hk => HD7.out k hk) H8.out.bl)
  have HD8 : Hd (∀ k, FC k → ¬ F8 k) := ⟨fun k hk hk2 => by rcases SUB8.out k hk2 with h | h; exact HD7.out k hk h; have := (HC7.out.alloc (.cells #[.int .u8 10, .int .u8 13, .int .u8 27, .int .u8 91, .int .u8 65, .int .u8 27, .int .u8 91, .int .u8 75] 5 (8, 9))).ta.lt _ hk; omega⟩
  have HR8 := Hd.mk ((HR7.out.below ((Below.refl w7.heap.size w7).alloc (Nat.le_refl _) _)).only ON8.out HRG.out)
  have HRG8 : Hd (¬ F8 r.g) := ⟨fun hk => by rcases SUB8.out _ hk with h | h; exact HRG.out h; have := HR7.out.lt; rw [World.size_alloc] at h; omega⟩
  clear H7 HC7 HD7 HR7 HRG SUB8 ON8 K4
  have XS := Hd.mk (size_calls H8.out.ta.t)
  rw [al3_size.1, al3_size.2.1] at XS
  go_wp2_with fail
  go_at_call 12
  with_reducible refine XS.out.mono ?_
  rintro _ w9 ⟨rfl, hb⟩
  have H9 := Hd.mk (H8.out.to hb)
  have HC9 := Hd.mk (HC8.out.to hb)
  have HR9 := Hd.mk (HR8.out.below hb)
  clear hb XS H8 HC8 HR8
  go_wp2_with fail
  have XG := Hd.mk (gone_at H9.out.ta.t K8.out.ok (by decide) (k := 0) (j := 0) (by rw [al3_size.2.2.2]; decide) (by rw [al3_size.2.2.2, al3_size.2.2.1]))
  rw [show ((0 : Nat) : Int) = 0 from rfl, al3_row] at XG
  go_wp2_with fail
  go_at_call 22
  with_reducible refine XG.out.mono ?_
  rintro _ w10 ⟨q, rfl, hqn, hqg, hq, hb⟩
  have H10 := Hd.mk (H9.out.to hb)
  have HC10 := Hd.mk (HC9.out.to hb)
  have HR10 := Hd.mk (HR9.out.below hb)
  have HQ10 := Hd.mk hq
  have HQG := Hd.mk (show ¬ F8 q.g from fun hk => by have := H9.out.ta.lt _ hk; omega)
  have HQC := Hd.mk (show ¬ FC q.g from fun hk => by have := HC9.out.ta.lt _ hk; omega)
  have hqn3 : q.n = 3 := hqn
  clear hb XG H9 HC9 HR9 hq hqg hqn
  unfold RR.v
  rw [hqn3]
  go_wp2_with fail
  have XR := Hd.mk (resize_ta H10.out.ta K8.out (by decide) 1 1)
  rw [show al3.resize 1 1 = al4 from rfl] at XR
  go_wp2_with fail
  go_at_call 24
  with_reducible refine XR.out.mono ?_
  rintro _ w11 ⟨rfl, ht⟩
  obtain ⟨F11, S11, hsub, hon⟩ := St.told H10.out ht
  have H11 := Hd.mk S11
  have HC11 := Hd.mk (St.other HC10.out hon HD8.out S11.bl)
  have HR11 := Hd.mk (HR10.out.only hon HRG8.out)
  have HQ11 := Hd.mk (HQ10.out.only hon HQG.out)
  have K11 := Hd.mk (K8.out.resize 1 1)
  rw [show al3.resize 1 1 = al4 from rfl] at K11
  clear ht S11 hsub hon XR H10 HC10 HR10 HQ10 K8 HD8 HRG8 HQG
  have hx1 := (HR11.out.three (k := 1) (by decide))
  have hx2 := (HR11.out.three (k := 2) (by decide))
  have hy0 := (HQ11.out.three (k := 0) (by decide)).1
  rw [show (1 * 3) = 3 from rfl, show getC alRow 1 = ⟨⟨#[98]⟩, 1, false⟩ from rfl] at hx1
  rw [show (2 * 3) = 6 from rfl, show getC alRow 2 = ⟨⟨#[99]⟩, 1, true⟩ from rfl] at hx2
  rw [show (0 * 3) = 0 from rfl, show getC alRow 0 = ⟨⟨#[97]⟩, 1, false⟩ from rfl] at hy0
  obtain ⟨hx1, hx1b, hx1c⟩ := hx1
  obtain ⟨hx2, hx2b, hx2c⟩ := hx2
  dsimp only at hx1 hx1b hx1c hx2 hx2b hx2c hy0
  go_wp2_with fail
  have XO := Hd.mk (off_calls H11.out.ta.t)
  rw [al4_rows.2.2.1] at XO
  go_wp2_with fail
  go_at_call 21
  with_reducible refine XO.out.mono ?_
  rintro _ w12 ⟨rfl, hb⟩
  have H12 := Hd.mk (H11.out.to hb)
  have HC12 := Hd.mk (HC11.out.to hb)
  have hy0b := cell_move hy0 (hb.block _ (Lib.lt_of_cell hy0))
  clear hb XO H11 HC11 hy0 HR11 HQ11 hx1 hx1b hx1c hx2 hx2b hx2c
  go_wp2_with fail
  have XO := Hd.mk (off_calls HC12.out.ta.t)
  rw [al2_cur.2.2.2] at XO
  go_wp2_with fail
  go_at_call 21
  with_reducible refine XO.out.mono ?_
  rintro _ w13 ⟨rfl, hb⟩
  have H13 := Hd.mk (H12.out.to hb)
  clear hb XO H12 HC12 hy0b
  go_wp2_with fail
  have XB := Hd.mk (blankc_calls w13)
  rw [show (cV blankC).toArray = #[.string ⟨#[32]⟩, .int .i64 1, .bool false] from rfl] at XB
  go_wp2_with fail
  go_at_call 25
  with_reducible refine XB.out.mono ?_
  rintro _ w14 ⟨rfl, hb⟩
  have H14 := Hd.mk (H13.out.to hb)
  clear hb XB H13
  go_wp2_with fail
  have XR := Hd.mk (row_at H14.out.ta.t K11.out.ok (k := 0) (by rw [al4_rows.1]; decide))
  rw [show ((0 : Nat) : Int) = 0 from rfl, al4_rows.2.2.2] at XR
  go_wp2_with fail
  go_at_call 14
  with_reducible refine XR.out.mono ?_
  rintro _ w15 ⟨rr, rfl, hrrn, hrrg, hrr, hb⟩
  have H15 := Hd.mk (H14.out.to hb)
  clear hb XR H14 hrr hrrg
  unfold RR.v
  rw [hrrn]
  go_wp2_with fail
  go_ret
  exact ⟨rfl, H15.out.bl⟩
end Go.Proofs.YtgifpkjcggnhgaaGreatDoorL

