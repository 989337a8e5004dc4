/- Parts of the proof of the law that the last file states; declarations that nothing mentions are left out by a program. No conditions. -/
import Derived.Deep.CutRange
import Derived.Test.YtledplnlcjfafaaDoorLLayH3q
set_option linter.unusedVariables false
set_option linter.unusedSimpArgs false
namespace Go.Proofs.YtledplnlcjfafaaDoorL
open Go Go.RowKit Go.Proofs.YtledplnlcjfafaaDoorW.PrintWords
attribute [local go_sem] Oper.semAt_some
theorem leaves_marks {F : Fence} {n : Nat} {P : Program} {fn : Func} {tmps : Array Value} {R : Ending → World → Prop} : ∀ (Ds : List Nat) (W : World), Ds.Nodup → (∀ D ∈ Ds, W.heap[D]? = some (.deferred (some []))) → (∀ W', Only (fun k => k ∈ Ds) W W' → LeavesIn F n P fn tmps R [] .returning W') → LeavesInM F n P fn tmps R (Ds.map fun D => { target := .collected D, args := #[] }) .returning W
  | [], W, _, _, h => h W (Only.refl _ W)
  | D :: Ds, W, hn, hd, h => by
    rw [List.nodup_cons] at hn
    have hD := hd D List.mem_cons_self
    refine ⟨by simp, .inl ⟨_, _, rfl, run_takeDeferred hD, ?_⟩⟩
    have hg := grownBy_putObj' W D (.deferred none)
    refine leaves_marks Ds _ hn.2 (fun E hE => (hg.block E (Array.getElem?_eq_some_iff.1 (hd E (List.mem_cons_of_mem _ hE))).1 (fun e => by injection e with e; exact hn.1 (e ▸ hE))).trans (hd E (List.mem_cons_of_mem _ hE))) (fun W' ho => h W' ?_)
    exact ((Only.refl (fun k => k ∈ D :: Ds) W).grown hg (fun k e => by injection e with e; exact .inl (e ▸ List.mem_cons_self))).trans ho (fun k _ hk => List.mem_cons_of_mem _ hk)
theorem results4 {fn : Func} (h : fn.results = #[.tmp 2, .cell 3 3, .cell 4 3, .tmp 5]) {tmps : Array Value} {w : World} {x y : Value} {a b : Nat} {n m : Int} (h2 : tmps[2]?.getD undef = x) (h3 : tmps[3]?.getD undef = .pointer (some ⟨a, 0, none⟩)) (h4 : tmps[4]?.getD undef = .pointer (some ⟨b, 0, none⟩)) (h5 : tmps[5]?.getD undef = y)
    (c3 : w.cell? ⟨a, 0, none⟩ = some (.int .i64 n)) (c4 : w.cell? ⟨b, 0, none⟩ = some (.int .i64 m)) : (results fn tmps).run Tryd.prog w = .ok (.tuple #[x, .int .i64 n, .int .i64 m, y]) w := by
  simp [results, h, h2, h3, h4, h5, asAddr, go_sem, run_underlying Tryd.underlying3, c3, c4, Result.andThen]
def promptS (q : Sh × Nat) (c : ByteArray) : Sh × Nat := (q.1.lay 0 q.2 ((cellsC q.1.cols c false).take (q.1.cols - q.2)), q.2 + ((cellsC q.1.cols c false).take (q.1.cols - q.2)).length)
def promptT (s : Sh) (x : Nat) (l : List (Nat × ByteArray)) : Sh × Nat := l.foldl (fun q c => promptS q c.2) (s, x)
structure PK (q : Sh × Nat) : Prop where
  rows : ∀ r ∈ q.1.l, r.length = q.1.cols
  n : 1 ≤ q.1.l.length
  x : q.2 ≤ q.1.cols
theorem PK.next {q : Sh × Nat} (h : PK q) (c : ByteArray) : PK (promptS q c) ∧ (promptS q c).1.cols = q.1.cols ∧ (promptS q c).1.l.length = q.1.l.length := by
  have hl : ((cellsC q.1.cols c false).take (q.1.cols - q.2)).length ≤ q.1.cols - q.2 := List.length_take_le _ _
  have hx := h.x
  refine ⟨⟨fun r hr => ?_, by show 1 ≤ (q.1.lay 0 q.2 _).l.length; rw [(lay_len _ _ _ _).1]; exact h.n, by show q.2 + _ ≤ q.1.cols; omega⟩, rfl, (lay_len _ _ _ _).1⟩
  show r.length = q.1.cols
  rcases mem_modify hr with h1 | ⟨y, h1, rfl⟩
  · exact h.rows r h1
  · rw [overR_len (by rw [h.rows y h1]; omega)]
    exact h.rows y h1
theorem PK.all : ∀ (l : List (Nat × ByteArray)) (q : Sh × Nat), PK q → PK (l.foldl (fun q c => promptS q c.2) q) ∧ (l.foldl (fun q c => promptS q c.2) q).1.cols = q.1.cols ∧ (l.foldl (fun q c => promptS q c.2) q).1.l.length = q.1.l.length
  | [], q, h => ⟨h, rfl, rfl⟩
  | x :: l, q, h => by
    have h1 := h.next x.2
    have h2 := PK.all l _ h1.1
    rw [List.foldl_cons]
    exact ⟨h2.1, h2.2.1.trans h1.2.1, h2.2.2.trans h1.2.2⟩
theorem promptG_cons (s : Sh) (x : Nat) (c : Nat × ByteArray) (l : List (Nat × ByteArray)) : promptG s x (c :: l) = promptG (s.lay 0 x (cellsC s.cols c.2 false)) (x + (cellsC s.cols c.2 false).length) l := by rw [promptG]
theorem promptT_eq : ∀ (l : List (Nat × ByteArray)) (s : Sh) (x : Nat), 1 ≤ s.cols → x + sumG l ≤ s.cols → (promptT s x l).1 = promptG s x l
  | [], s, x, _, _ => rfl
  | c :: l, s, x, h, hx => by
    have e : sumG (c :: l) = wideC c.2 + sumG l := rfl
    have hl := cellsC_le s.cols c.2 false h
    have ht : (cellsC s.cols c.2 false).take (s.cols - x) = cellsC s.cols c.2 false := List.take_of_length_le (by omega)
    have e2 : promptT s x (c :: l) = promptT (s.lay 0 x (cellsC s.cols c.2 false)) (x + (cellsC s.cols c.2 false).length) l := by
      unfold promptT
      rw [List.foldl_cons]
      show List.foldl _ (s.lay 0 x ((cellsC s.cols c.2 false).take (s.cols - x)), x + ((cellsC s.cols c.2 false).take (s.cols - x)).length) l = _
      rw [ht]
    rw [e2, promptG_cons]
    exact promptT_eq l _ _ h (by show x + _ + sumG l ≤ s.cols; omega)
theorem promptT_snoc (s : Sh) (x : Nat) (l : List (Nat × ByteArray)) (c : Nat × ByteArray) : promptT s x (l ++ [c]) = promptS (promptT s x l) c.2 := List.foldl_append ..
theorem RowAt.over0 {w : World} {r : RR} {l : List TC} (h : RowAt w r l) {at_ p : Nat} {y : List TC} (hp : p = if r.c = at_ then 0 else at_ * 3) (hy : at_ + y.length ≤ l.length) : ∃ w', (storeCells ⟨r.g, p, none⟩ (rowV y)).run Tryd.prog w = .ok () w' ∧ RowAt w' r (overR l at_ y) ∧ Only (· = r.g) w w' ∧ w'.heap.size = w.heap.size := by
  by_cases h0 : y = []
  · subst h0
    refine ⟨w, rfl, ?_, Only.refl _ w, rfl⟩
    have : overR l at_ [] = l := by unfold overR; simp
    rw [this]
    exact h
  · have h1 : 0 < y.length := List.length_pos_iff.2 h0
    have hc := h.2.1
    have hn := h.1
    rw [if_neg (by omega)] at hp
    subst hp
    obtain ⟨w', a, b, c, d, _⟩ := h.over (n := at_) (x := y) hy
    exact ⟨w', a, b, c, d⟩
set_option maxRecDepth 100000 in
set_option maxHeartbeats 4000000 in
theorem drawn_calls (v : Vw) (hl : v.left.size ≤ 4294967296) (hr : v.right.size ≤ 4294967296) (hg : v.ghost.size ≤ 4294967296) (ht : v.text.size ≤ 4294967296) (w : World) (hT : Lib.Utf8Tabs 0 1 w) :
    Calls Tryd.prog 14 #[.agg (vwV v)] w fun e W' => ∃ (lv : Value) (L : List RR), e = .returned (.tuple #[lv, .int .i64 ((drawnP (cutN v.cols 120) v).row : Int), .int .i64 ((drawnP (cutN v.cols 120) v).col : Int), .bool (drawnP (cutN v.cols 120) v).right]) ∧
      RowsO (fun k => w.heap.size ≤ k) W' lv L (drawnP (cutN v.cols 120) v).s.l ∧ Below w.heap.size w W' := by
  have hc0 := cutN_le v.cols (n := 120) (by omega)
  have HP := Hd.mk (fun (s : ByteArray) (hs : s.size ≤ 4294967296) (W : World) (hb : Below w.heap.size w W) => lplain_calls s hs W (Utf8Tabs_below hT hb))
  have HL := Hd.mk hl
  have HR := Hd.mk hr
  have HG := Hd.mk hg
  have HTX := Hd.mk ht
  clear hl hr hg ht hT
  obtain ⟨dr, hdr⟩ : ∃ d, drawnP (cutN v.cols 120) v = d := ⟨_, rfl⟩
  have HD := Hd.mk hdr
  rw [hdr]
  clear hdr
  have HNW : Hd ((newT v.rows v.cols).cols = cutN v.cols 120 ∧ (newT v.rows v.cols).l.length = cutN v.rows 60) := ⟨⟨rfl, List.length_replicate ..⟩⟩
  refine (callsIn_wide (n := 5)).1 ?_
  refine callsIn_of_wp_marks Tryd.func14 rfl trivial ?_ rfl
  simp only [Tryd.ntmps14, List.size_toArray, List.length_cons, List.length_nil, Nat.reduceAdd, Nat.reduceSub, Array.replicate_succ, Array.replicate_zero, List.push_toArray, List.append_toArray, List.nil_append, List.cons_append]
  refine wpIn_wide.2 ?_
  unfold vwV
  have B0 := Blk.new w 35 (vwV v)
  have B1 := Blk.new (w.alloc (.cells (vwV v) 35)) 3 #[.int .i64 0]
  have B2 := Blk.new ((w.alloc (.cells (vwV v) 35)).alloc (.cells #[.int .i64 0] 3)) 3 #[.int .i64 0]
  rw [World.size_alloc] at B1 B2
  rw [World.size_alloc] at B2
  have hB : Below w.heap.size w (((w.alloc (.cells (vwV v) 35)).alloc (.cells #[.int .i64 0] 3)).alloc (.cells #[.int .i64 0] 3)) := (((Below.refl _ w).alloc (Nat.le_refl _) _).alloc (by simp) _).alloc (by simp; omega) _
  have V0 := (B0.alloc (.cells #[.int .i64 0] 3)).alloc (.cells #[.int .i64 0] 3)
  have R0 := B1.alloc (.cells #[.int .i64 0] 3)
  have C0 := B2
  clear B0 B1 B2
  unfold vwV at V0 R0 C0 hB
  have v0 := V0.cell 0 rfl
  have v1 := V0.cell 1 rfl
  simp only [List.getElem_toArray, List.getElem_cons_zero, List.getElem_cons_succ] at v0 v1
  go_wp2_with fail
  go_at_call 15
  with_reducible refine (new_calls v.rows v.cols _).mono ?_
  rintro _ w1 ⟨T, rfl, hTm, hb1⟩
  have hB1 := hB.trans (hb1.mono hB.size)
  have V1 := V0.to (hb1.block _ V0.lt)
  have R1 := R0.to (hb1.block _ R0.lt)
  have C1 := C0.to (hb1.block _ C0.lt)
  clear V0 R0 C0 v0 v1 hb1 hB
  go_wp2_with fail
  go_at_call 16
  with_reducible refine (size_calls hTm).mono ?_
  rintro _ w2 ⟨rfl, hb2⟩
  have hB2 := hB1.trans (hb2.mono hB1.size)
  have V2 := V1.to (hb2.block _ V1.lt)
  have R2 := R1.to (hb2.block _ R1.lt)
  have C2 := C1.to (hb2.block _ C1.lt)
  clear V1 R1 C1 hTm hb2 hB1
  rw [HNW.out.1, HNW.out.2]
  generalize hcc : cutN v.cols 120 = cols at *
  generalize cutN v.rows 60 = rows at *
  generalize hb0 : w.heap.size = b0 at *
  have hz0 : b0 ≤ w2.heap.size := by have := hB2.size; omega
  have D0 : DI w ((w2.alloc (.cells #[.int .i64 (cols : Int), .slice none 0 0, .int .i64 0] 63)).alloc (.cells #[.pointer (some ⟨w2.heap.size, 0, none⟩)] 61)) b0 w2.heap.size (w2.heap.size + 1) v { cols := cols, l := [], col := 0 } (.slice none 0 0) [] 0 0 [] := by
    have A0 := (Blk.new w2 63 #[.int .i64 (cols : Int), .slice none 0 0, .int .i64 0]).alloc (.cells #[.pointer (some ⟨w2.heap.size, 0, none⟩)] 61)
    have A1 := Blk.new (w2.alloc (.cells #[.int .i64 (cols : Int), .slice none 0 0, .int .i64 0] 63)) 61 #[.pointer (some ⟨w2.heap.size, 0, none⟩)]
    rw [World.size_alloc] at A1
    have hbb : Below w2.heap.size w2 ((w2.alloc (.cells #[.int .i64 (cols : Int), .slice none 0 0, .int .i64 0] 63)).alloc (.cells #[.pointer (some ⟨w2.heap.size, 0, none⟩)] 61)) := ((Below.refl _ w2).alloc (Nat.le_refl _) _).alloc (by simp) _
    exact ⟨V2.to (hbb.block _ V2.lt), R2.to (hbb.block _ R2.lt), C2.to (hbb.block _ C2.lt), A1, ⟨A0, .inl rfl, RowsO.nil _ _⟩, (fun k hk => by
      rcases hk with e | e | ⟨r, hr, _⟩
      · rw [e]; exact hz0
      · cases e
      · cases hr), hB2.trans (hbb.mono hz0), (fun D hD => by cases hD), hb0⟩
  clear V2 R2 C2 hB2
  go_wp2_with fail
  go_at_call 23
  generalize hg2 : w2.heap.size = g at *
  generalize (w2.alloc (.cells #[.int .i64 (cols : Int), .slice none 0 0, .int .i64 0] 63)).alloc (.cells #[.pointer (some ⟨g, 0, none⟩)] 61) = w3 at *
  with_reducible refine (srow_x D0.x hc0.1 hc0.2 (Nat.zero_le _)).mono ?_
  rintro _ w4 ⟨rfl, lv, L, hx, hf, ho⟩
  have D1 := Hd.mk (D0.sheet hx hf ho)
  have hg1 : b0 ≤ g := hz0
  clear D0 hx hf ho hz0 hg2
  have HK1 : Hd (SK (({ cols := cols, l := [], col := 0 } : Sh).fresh) ∧ (({ cols := cols, l := [], col := 0 } : Sh).fresh).l.length = 1 ∧ (({ cols := cols, l := [], col := 0 } : Sh).fresh).cols = cols) := ⟨SK.fresh hc0.1 hc0.2 (fun r hr => by cases hr), rfl, rfl⟩
  generalize hs0 : (({ cols := cols, l := [], col := 0 } : Sh).fresh) = s0 at *
  generalize w2.heap.size + 1 = bs at *
  go_upto_region 4 with fail
  go_cut [9, 10] from 22 to 167 (fun v9 v10 wx => v9 = .string (plainT v.left) ∧ v10 = .string (plainT v.text) ∧ Hd (DI w wx b0 g (g + 1) v s0 lv L 0 0 []))
  case first =>
    rename_i KQ hKQ
    refine wp_mono ?_ noP_le
    refine regionH (fun w' : World => w'.cell? ⟨b0, 2, none⟩ = some (.string v.left) ∧ w'.cell? ⟨b0, 5, none⟩ = some (.string v.text)) (by kernel_rfl) (fun wd hb => ?_)
    replace D1 := Hd.mk (D1.out.below hb)
    clear hb
    have hHd : (fun w' : World => w'.cell? ⟨b0, 2, none⟩ = some (.string v.left) ∧ w'.cell? ⟨b0, 5, none⟩ = some (.string v.text)) wd := ⟨D1.out.vb.cell 2 rfl, D1.out.vb.cell 5 rfl⟩
    refine takeH (i := 0) (v := ?v1) rfl (by kernel_rfl) (by kernel_rfl) (by kernel_rfl) (fun _ _ _ h => h) (Or.inl ⟨by rfl, ?hy1⟩) (by assumption) ?rest1
    case hy1 => (intro w hSw; (try dsimp only at hSw); go_simp; try (with_reducible rfl))
    case rest1 =>
    try simp only [Act.put, List.setIfInBounds_toArray, List.set_cons_zero, List.set_cons_succ]
    refine takeH (i := 1) (v := ?v2) rfl (by kernel_rfl) (by kernel_rfl) (by kernel_rfl) (fun _ _ _ h => h) (Or.inl ⟨by rfl, ?hy2⟩) (by assumption) ?rest2
    case hy2 => (intro w hSw; (try dsimp only at hSw); go_simp; try (with_reducible rfl))
    case rest2 =>
    try simp only [Act.put, List.setIfInBounds_toArray, List.set_cons_zero, List.set_cons_succ]
    refine takeH (i := 3) (v := ?v3) rfl (by kernel_rfl) (by kernel_rfl) (by kernel_rfl) (fun _ _ _ h => h) (Or.inl ⟨by rfl, ?hy3⟩) (by assumption) ?rest3
    case hy3 => (intro w hSw; (try dsimp only at hSw); go_simp; try (with_reducible rfl))
    case rest3 =>
    try simp only [Act.put, List.setIfInBounds_toArray, List.set_cons_zero, List.set_cons_succ]
    refine takeH (i := 4) (v := ?v4) rfl (by kernel_rfl) (by kernel_rfl) (by kernel_rfl) (fun _ _ _ h => h) (Or.inl ⟨by rfl, ?hy4⟩) (by assumption) ?rest4
    case hy4 => (intro w hSw; (try dsimp only at hSw); go_simp; try (with_reducible rfl))
    case rest4 =>
    try simp only [Act.put, List.setIfInBounds_toArray, List.set_cons_zero, List.set_cons_succ]
    refine wpAnyH_ready (rs := [2]) (by kernel_rfl) (by simp) ?_
    refine consH rfl (fun K hK => ?_) AllReadyH.nil
    go_simp
    go_at_call 24
    with_reducible refine (HP.out v.left HL.out _ D1.out.b).mono ?_
    rintro _ wa ⟨rfl, hb⟩
    replace D1 := Hd.mk (D1.out.below hb)
    clear hb hHd
    have hHd : (fun w' : World => w'.cell? ⟨b0, 2, none⟩ = some (.string v.left) ∧ w'.cell? ⟨b0, 5, none⟩ = some (.string v.text)) wa := ⟨D1.out.vb.cell 2 rfl, D1.out.vb.cell 5 rfl⟩
    go_simp
    refine hK.out _ _ hHd ?_
    clear hK K
    try simp only [Act.put, List.setIfInBounds_toArray, List.set_cons_zero, List.set_cons_succ]
    refine wpAnyH_ready (rs := [5]) (by kernel_rfl) (by simp) ?_
    refine consH rfl (fun K hK => ?_) AllReadyH.nil
    go_simp
    go_at_call 24
    with_reducible refine (HP.out v.text HTX.out _ D1.out.b).mono ?_
    rintro _ wb ⟨rfl, hb⟩
    replace D1 := Hd.mk (D1.out.below hb)
    clear hb hHd
    have hHd : (fun w' : World => w'.cell? ⟨b0, 2, none⟩ = some (.string v.left) ∧ w'.cell? ⟨b0, 5, none⟩ = some (.string v.text)) wb := ⟨D1.out.vb.cell 2 rfl, D1.out.vb.cell 5 rfl⟩
    go_simp
    refine hK.out _ _ hHd ?_
    clear hK K
    try simp only [Act.put, List.setIfInBounds_toArray, List.set_cons_zero, List.set_cons_succ]
    refine takeH (i := 6) (v := ?v5) rfl (by kernel_rfl) (by kernel_rfl) (by kernel_rfl) (fun _ _ _ h => h) (Or.inl ⟨by rfl, ?hy5⟩) (by assumption) ?rest5
    case hy5 => (intro w hSw; (try dsimp only at hSw); go_simp; try (with_reducible rfl))
    case rest5 =>
    try simp only [Act.put, List.setIfInBounds_toArray, List.set_cons_zero, List.set_cons_succ]
    refine takeH (i := 7) (v := ?v6) rfl (by kernel_rfl) (by kernel_rfl) (by kernel_rfl) (fun _ _ _ h => h) (Or.inl ⟨by rfl, ?hy6⟩) (by assumption) ?rest6
    case hy6 => (intro w hSw; (try dsimp only at hSw); go_simp; try (with_reducible rfl))
    case rest6 =>
    try simp only [Act.put, List.setIfInBounds_toArray, List.set_cons_zero, List.set_cons_succ]
    refine wpAnyH_done (by kernel_rfl) ?_ _
    refine hKQ _ _ ?_
    go_meet
    case rel => exact ⟨rfl, rfl, D1⟩
  case rest =>
  obtain ⟨rfl, rfl, D1⟩ := hcut
  have hlt1 := plainT_le v.left
  generalize hlf : plainT v.left = lf at *
  have HLF := Hd.mk hlf
  clear hlf
  have hck := eachL_ck hlt1
  have hlen := eachL_len lf
  go_wp2_with fail
  go_at_call 25
  refine ((callsIn_wide (n := 5)).1 (each_in _ lf _)).mono ?_
  rintro e w' ⟨rfl, rfl⟩
  go_wp2_with fail
  rename_i KF hKF
  have bN := Boxed.new wc 9 (.string lf)
  have hbn := below_alloc (Below.refl _ wc) (.cells #[.string lf] 9)
  replace D1 := Hd.mk (D1.out.below hbn)
  obtain ⟨Bn, hBn⟩ : ∃ b, wc.heap.size = b := ⟨_, rfl⟩
  have hsz : (wc.alloc (.cells #[.string lf] 9)).heap.size = Bn + 1 ∧ b0 ≤ Bn := ⟨by rw [← hBn]; simp, by have := D1.out.sz; have h2 := hbn.size; have := D1.out.rb.lt; rw [World.size_alloc] at *; omega⟩
  rw [hBn] at bN ⊢
  clear hbn
  generalize wc.alloc (.cells #[.string lf] 9) = w6 at *
  have hput : ∀ (pre : List (Clu lf)), pre.length < (eachL lf).length → SK (s0.puts (valC lf pre)) ∧ (s0.puts (valC lf pre)).l.length ≤ 10000 := fun pre hp => by
    have h1 := SK.puts (valC lf pre) s0 HK1.out.1 (valC_ck hck pre)
    have h2 := HK1.out.2.1
    rw [valC_len] at h1
    exact ⟨h1.1, by have := h1.2.2; omega⟩
  refine (wpIn_wide (n := 5)).1 ?_
  refine wpIn_rangeFunc_ownF rfl (by decide) (gf := 43) (lb := #[.pointer (some ⟨Bn, 0, none⟩)]) rfl trivial (enters_of Tryd.func43 (by kernel_rfl) rfl)
    (each_mem 4 (by decide) Bn lf (by omega) w6 (by omega) bN.cell) KpE.t (KpE.b (by omega)) (Below.refl _ _) (fun _ => rfl)
    (fun pre W => ∃ lv L, DI w W b0 g (g + 1) v (s0.puts (valC lf pre)) lv L 0 0 [] ∧ Boxed W Bn 9 (.string lf))
    (fun _ _ _ => False)
    (fun pre A B row_ hs hg hr => by
      obtain ⟨lv, L, h1, h2⟩ := hs
      exact ⟨lv, L, h1.grown hg hr (by omega) (fun D hD => by cases hD), Blk.grown_ h2 hg (fun r e => (hr r e).2)⟩)
    (fun _ _ _ _ _ hs _ _ => hs)
    ⟨lv, L, D1.out, bN⟩
    (fun x => { tmps := #[.agg #[.int .i64 v.rows, .int .i64 v.cols, .string v.left, .string v.right, .string v.ghost, .string v.text, .int .i64 v.at_], .pointer (some ⟨b0, 0, none⟩), .slice none 0 0, .pointer (some ⟨b0 + 1, 0, none⟩), .pointer (some ⟨b0 + 1 + 1, 0, none⟩), .bool false, .int .i64 (rows : Int), .int .i64 (cols : Int), .pointer (some ⟨g + 1, 0, none⟩), .string lf, .string (plainT v.text), undef, .string x.1.2, undef, undef, undef, undef, undef, undef, undef, undef, undef, u22, u23, u24, u25, u26, u27, u28, u29, u30, u31, u32, u33, u34, u35, u36, u37, u38, u39, u40, u41, u42, .string lf, .func (.func 43) #[] #[.pointer (some ⟨Bn, 0, none⟩)], .int .i64 x.1.1, .string x.1.2, u47, u48, u49, u50, u51, u52, u53, u54, u55, u56, u57, u58, u59, u60, u61, u62, u63, u64, u65, u66, u67, u68, u69, u70, u71, u72, u73, u74, u75, u76, u77, u78, u79, u80, u81, u82, u83, u84, u85, u86, u87, u88, u89, u90, u91, u92, u93, u94, u95, u96, u97, u98, u99, u100, u101, u102, u103, u104, u105, u106, u107, u108, u109, u110, u111, u112, u113, u114, u115, u116, u117, u118, u119, u120, u121, u122, u123, u124, u125, u126, u127, u128, u129, u130, u131, u132, u133, u134, u135, u136, u137, u138, u139, u140, u141, u142, u143, u144, u145, u146, u147, u148, u149, u150, u151, u152, u153, u154, u155, u156, u157, u158, u159, u160, u161, u162, u163, u164, u165, u166, u167], defers := [] }) ?assign ?body ?done ?stop
  case assign =>
    intro l x W K hK
    dsimp only [encC, encE]
    gi_wp2
    exact hK
  case body =>
    rintro l pre x W ⟨lv, L, hD, hN⟩ hlt
    have hx := hck x.1 x.2
    obtain ⟨k1, k2⟩ := hput pre hlt
    have hcall := sput_x hD.x k1 k2 x.1.2 hx
    have hs8 := hD.sb.cell 0 rfl
    simp only [List.getElem_toArray, List.getElem_cons_zero] at hs8
    have hpe : s0.puts (valC lf (pre ++ [x])) = (s0.puts (valC lf pre)).put x.1.2 := by rw [valC_snoc]; exact List.foldl_append ..
    gi_wp2_with (refine ⟨trivial, ?_⟩; gi_at_call 26; refine CallsIn.mono (calls_round hcall) ?_; rintro _ W2 ⟨rfl, lv2, L2, hx2, hf2, ho2⟩)
    have hko := hD.others ho2
    have hN2 : Boxed W2 Bn 9 (.string lf) := hD.keepB ho2 hN (by decide) (by decide) (by decide)
    exact ⟨hko, ⟨Eq.trans hN2 (show W.heap[Bn]? = _ from hN).symm, hko.walks⟩, lv2, L2, by rw [hpe]; exact hD.sheet hx2 hf2 ho2, hN2⟩
  case stop =>
    rintro D c pre W _ _ h _
    exact h.elim
  case done =>
  rintro D ys W hD0 hys ⟨lv, L, hD, hN⟩ hK
  have D1 := Hd.mk (hD.more (show b0 ≤ D by omega) hK)
  rw [hys] at D1
  have HK2 := Hd.mk (SK.puts (eachL lf) s0 HK1.out.1 hck)
  refine hKF _ _ ?_
  clear hKF KF hD hN hput bN hsz hBn
  have hlt := plainT_le v.text
  generalize htx : plainT v.text = tx at *
  have HTT := Hd.mk htx
  clear htx
  have hck2 := eachL_ck hlt
  have hlen2 := eachL_len tx
  have hb3 : b0 + 1 + 1 < W.heap.size := D1.out.cb.lt
  dsimp only
  go_upto_region 8 with fail
  go_cut [13] from 22 to 167 (fun v13 wx => ∃ ba : Nat, v13 = .pointer (some ⟨ba, 0, none⟩) ∧ b0 + 1 + 1 < ba ∧ Hd (Blk wx ba 3 #[.int .i64 (backL tx v.at_ : Int)]) ∧ Hd (DI w wx b0 g (g + 1) v (s0.puts (eachL lf)) lv L 0 0 [D]))
  case first =>
    have a6 : W.cell? ⟨b0, 6, none⟩ = some (.int .i64 v.at_) := D1.out.vb.cell 6 rfl
    go_wp2_with fail
    go_at_call 27
    with_reducible refine (lback_calls tx (by omega) v.at_ W).mono ?_
    rintro _ W2 ⟨rfl, hb⟩
    replace D1 := Hd.mk (D1.out.below hb)
    have hsz2 := hb.size
    clear hb a6
    have hal := below_alloc (Below.refl _ W2) (.cells #[.int .i64 (backL tx v.at_ : Int)] 3)
    have A0 := Hd.mk (Blk.new W2 3 #[.int .i64 (backL tx v.at_ : Int)])
    replace D1 := Hd.mk (D1.out.below hal)
    clear hal
    go_wp2_with fail
    go_meet
    case rel => exact ⟨_, rfl, by omega, A0, D1⟩
  case rest =>
  clear D1 hb3 hK
  obtain ⟨ba, rfl, hba, A0, D1⟩ := hcut
  generalize hatn : backL tx v.at_ = atn at *
  go_wp2_with fail
  go_at_call 25
  refine ((callsIn_wide (n := 5)).1 (each_in _ tx _)).mono ?_
  rintro e w' ⟨rfl, rfl⟩
  go_wp2_with fail
  rename_i KF hKF
  have bN := Boxed.new wc 9 (.string tx)
  have hbn := below_alloc (Below.refl _ wc) (.cells #[.string tx] 9)
  have hba3 := A0.out.lt
  replace D1 := Hd.mk (D1.out.below hbn)
  replace A0 := Hd.mk (A0.out.to (hbn.block _ hba3))
  obtain ⟨Bn, hBn⟩ : ∃ b, wc.heap.size = b := ⟨_, rfl⟩
  have hsz : (wc.alloc (.cells #[.string tx] 9)).heap.size = Bn + 1 ∧ ba < Bn := ⟨by rw [← hBn]; simp, by rw [← hBn]; exact hba3⟩
  rw [hBn] at bN ⊢
  clear hbn hba3
  generalize wc.alloc (.cells #[.string tx] 9) = w7 at *
  have HK3 : Hd (SK (s0.puts (eachL lf)) ∧ (s0.puts (eachL lf)).cols = cols ∧ (s0.puts (eachL lf)).l.length ≤ 1 + 1201) := ⟨HK2.out.1, HK2.out.2.1.trans HK1.out.2.2, by have h1 := HK2.out.2.2; have h2 := HK1.out.2.1; omega⟩
  clear HK2
  generalize hs1 : s0.puts (eachL lf) = s1 at *
  have hput : ∀ (pre : List (Clu tx)), pre.length < (eachL tx).length → SK (Sh.text atn s1 (0, 0) (valC tx pre)).1 ∧ (Sh.text atn s1 (0, 0) (valC tx pre)).1.l.length ≤ 10000 := fun pre hp => by
    have h1 := SK.text atn (valC tx pre) s1 (0, 0) HK3.out.1 ⟨HK3.out.1.n, HK3.out.1.c1⟩ (valC_ck hck2 pre)
    rw [valC_len] at h1
    exact ⟨h1.1, by have := h1.2.2.1; have := HK3.out.2.2; omega⟩
  have hD1 : b0 ≤ D ∧ D < Bn + 1 := ⟨(D1.out.d D (by simp)).1, by have := (Array.getElem?_eq_some_iff.1 (D1.out.d D (by simp)).2).1; omega⟩
  refine (wpIn_wide (n := 5)).1 ?_
  refine wpIn_rangeFunc_ownF rfl (by decide) (gf := 43) (lb := #[.pointer (some ⟨Bn, 0, none⟩)]) rfl trivial (enters_of Tryd.func43 (by kernel_rfl) rfl)
    (each_mem 4 (by decide) Bn tx (by omega) w7 (by omega) bN.cell) KpE.t (KpE.b (by omega)) (Below.refl _ _) (fun _ => rfl)
    (fun pre W => ∃ lv L, DI w W b0 g (g + 1) v (Sh.text atn s1 (0, 0) (valC tx pre)).1 lv L (Sh.text atn s1 (0, 0) (valC tx pre)).2.1 (Sh.text atn s1 (0, 0) (valC tx pre)).2.2 [D] ∧ Blk W ba 3 #[.int .i64 (atn : Int)] ∧ Boxed W Bn 9 (.string tx))
    (fun _ _ _ => False)
    (fun pre A B row_ hs hg hr => by
      obtain ⟨lv, L, h1, h2, h3⟩ := hs
      exact ⟨lv, L, h1.grown hg hr (by omega) (fun E hE => by rw [List.mem_singleton.1 hE]; omega), Blk.grown_ h2 hg (fun r e => (hr r e).2), Blk.grown_ h3 hg (fun r e => (hr r e).2)⟩)
    (fun _ _ _ _ _ hs _ _ => hs)
    ⟨lv, L, D1.out, A0.out, bN⟩
    (fun x => { tmps := #[.agg #[.int .i64 v.rows, .int .i64 v.cols, .string v.left, .string v.right, .string v.ghost, .string v.text, .int .i64 v.at_], .pointer (some ⟨b0, 0, none⟩), .slice none 0 0, .pointer (some ⟨b0 + 1, 0, none⟩), .pointer (some ⟨b0 + 1 + 1, 0, none⟩), .bool false, .int .i64 (rows : Int), .int .i64 (cols : Int), .pointer (some ⟨g + 1, 0, none⟩), .string lf, .string tx, undef, undef, .pointer (some ⟨ba, 0, none⟩), .int .i64 x.1.1, .string x.1.2, undef, undef, undef, undef, undef, undef, u22, u23, u24, u25, u26, u27, u28, u29, u30, u31, u32, u33, u34, u35, u36, u37, u38, u39, u40, u41, u42, u43, u44, u45, u46, u47, u48, u49, u50, u51, u52, u53, .string tx, .func (.func 43) #[] #[.pointer (some ⟨Bn, 0, none⟩)], .int .i64 x.1.1, .string x.1.2, u58, u59, u60, u61, u62, u63, u64, u65, u66, u67, u68, u69, u70, u71, u72, u73, u74, u75, u76, u77, u78, u79, u80, u81, u82, u83, u84, u85, u86, u87, u88, u89, u90, u91, u92, u93, u94, u95, u96, u97, u98, u99, u100, u101, u102, u103, u104, u105, u106, u107, u108, u109, u110, u111, u112, u113, u114, u115, u116, u117, u118, u119, u120, u121, u122, u123, u124, u125, u126, u127, u128, u129, u130, u131, u132, u133, u134, u135, u136, u137, u138, u139, u140, u141, u142, u143, u144, u145, u146, u147, u148, u149, u150, u151, u152, u153, u154, u155, u156, u157, u158, u159, u160, u161, u162, u163, u164, u165, u166, u167], defers := [] }) ?assign ?body ?done ?stop
  case assign =>
    intro l x W K hK
    dsimp only [encC, encE]
    gi_wp2
    exact hK
  case stop =>
    rintro D c pre W _ _ h _
    exact h.elim
  case body =>
    rintro l pre x W ⟨lv, L, hD, hA, hN⟩ hlt
    have hx := hck2 x.1 x.2
    obtain ⟨k1, k2⟩ := hput pre hlt
    have hcall := sput_x hD.x k1 k2 x.1.2 hx
    have hs8 := hD.sb.cell 0 rfl
    simp only [List.getElem_toArray, List.getElem_cons_zero] at hs8
    have hpe : Sh.text atn s1 (0, 0) (valC tx (pre ++ [x])) = ((Sh.text atn s1 (0, 0) (valC tx pre)).1.put x.1.2, if x.1.1 = atn then (Sh.text atn s1 (0, 0) (valC tx pre)).1.at_ x.1.2 else (Sh.text atn s1 (0, 0) (valC tx pre)).2) := by rw [valC_snoc]; exact List.foldl_append ..
    generalize Sh.text atn s1 (0, 0) (valC tx pre) = q at *
    generalize hap : q.1.at_ x.1.2 = ap at *
    have hdd : ∀ W2, Only (exF g lv L) W W2 → KeepsOthers W W2 ∧ Boxed W2 Bn 9 (.string tx) := fun W2 ho2 => ⟨hD.others ho2, hD.keepB ho2 hN (by decide) (by decide) (by decide)⟩
    by_cases hx1 : x.1.1 = atn
    · have q1 : ((x.1.1 : Int) == (atn : Int)) = true := by simp [hx1]
      rw [if_pos hx1] at hpe
      gi_wp2_with (refine ⟨trivial, ?_⟩; gi_at_call 26; refine CallsIn.mono (calls_round hcall) ?_; rintro _ W2 ⟨rfl, lv2, L2, hx2, hf2, ho2⟩; have hD2 := Hd.mk (hD.sheet hx2 hf2 ho2); have hA2 := Hd.mk (hD.keepB ho2 hA (by decide) (by decide) (by decide)); have a65 : W2.cell? ⟨ba, 0, none⟩ = some (.int .i64 (atn : Int)) := hA2.out.cell 0 rfl; have r1 : W2.cell? ⟨b0 + 1, 0, none⟩ = some (.int .i64 (q.2.1 : Int)) := hD2.out.rb.cell 0 rfl; have r2 := hD2.out.rb.frozen 0; have r3 : W2.cell? ⟨b0 + 1 + 1, 0, none⟩ = some (.int .i64 (q.2.2 : Int)) := hD2.out.cb.cell 0 rfl; have r4 := hD2.out.cb.frozen 0)
      obtain ⟨hko, hN2⟩ := hdd W2 ho2
      have hD3 := (hD2.out.setr ap.1).setc ap.2
      have hk3 : KeepsOthers W2 ((W2.setCell ⟨b0 + 1, 0, none⟩ (.int .i64 (ap.1 : Int))).setCell ⟨b0 + 1 + 1, 0, none⟩ (.int .i64 (ap.2 : Int))) := (boxed_put (show Boxed W2 (b0 + 1) 3 _ from hD2.out.rb) _).2.1.trans (boxed_put (show Boxed _ (b0 + 1 + 1) 3 _ from (hD2.out.setr ap.1).cb) _).2.1
      have hN3 : Boxed ((W2.setCell ⟨b0 + 1, 0, none⟩ (.int .i64 (ap.1 : Int))).setCell ⟨b0 + 1 + 1, 0, none⟩ (.int .i64 (ap.2 : Int))) Bn 9 (.string tx) := (Blk.far hN2 (p := ⟨b0 + 1, 0, none⟩) (show Bn ≠ b0 + 1 by omega) _).far (p := ⟨b0 + 1 + 1, 0, none⟩) (show Bn ≠ b0 + 1 + 1 by omega) _
      have hA3 := (hA2.out.far (p := ⟨b0 + 1, 0, none⟩) (show ba ≠ b0 + 1 by omega) (.int .i64 (ap.1 : Int))).far (p := ⟨b0 + 1 + 1, 0, none⟩) (show ba ≠ b0 + 1 + 1 by omega) (.int .i64 (ap.2 : Int))
      exact ⟨hko.trans hk3, ⟨Eq.trans hN3 (show W.heap[Bn]? = _ from hN).symm, (hko.trans hk3).walks⟩, lv2, L2, by rw [hpe]; exact hD3, hA3, hN3⟩
    · have q1 : ((x.1.1 : Int) == (atn : Int)) = false := by simp; omega
      rw [if_neg hx1] at hpe
      gi_wp2_with (refine ⟨trivial, ?_⟩; gi_at_call 26; refine CallsIn.mono (calls_round hcall) ?_; rintro _ W2 ⟨rfl, lv2, L2, hx2, hf2, ho2⟩; have hD2 := Hd.mk (hD.sheet hx2 hf2 ho2); have hA2 := Hd.mk (hD.keepB ho2 hA (by decide) (by decide) (by decide)); have a65 : W2.cell? ⟨ba, 0, none⟩ = some (.int .i64 (atn : Int)) := hA2.out.cell 0 rfl; have r1 : W2.cell? ⟨b0 + 1, 0, none⟩ = some (.int .i64 (q.2.1 : Int)) := hD2.out.rb.cell 0 rfl; have r2 := hD2.out.rb.frozen 0; have r3 : W2.cell? ⟨b0 + 1 + 1, 0, none⟩ = some (.int .i64 (q.2.2 : Int)) := hD2.out.cb.cell 0 rfl; have r4 := hD2.out.cb.frozen 0)
      obtain ⟨hko, hN2⟩ := hdd W2 ho2
      exact ⟨hko, ⟨Eq.trans hN2 (show W.heap[Bn]? = _ from hN).symm, hko.walks⟩, lv2, L2, by rw [hpe]; exact hD2.out, hA2.out, hN2⟩
  case done =>
  rintro D2 ys W hD0 hys ⟨lv, L, hD, hA, hN⟩ hK
  have D1 := Hd.mk (hD.more (show b0 ≤ D2 by omega) hK)
  rw [hys] at D1
  have HKT := Hd.mk (SK.text atn (eachL tx) s1 (0, 0) HK3.out.1 ⟨HK3.out.1.n, HK3.out.1.c1⟩ hck2)
  have HK4 : Hd (SK (Sh.text atn s1 (0, 0) (eachL tx)).1 ∧ (Sh.text atn s1 (0, 0) (eachL tx)).1.cols = cols ∧ (Sh.text atn s1 (0, 0) (eachL tx)).1.l.length ≤ 2500) := ⟨HKT.out.1, HKT.out.2.1.trans HK3.out.2.1, by have h1 := HKT.out.2.2.1; have h2 := HK3.out.2.2; omega⟩
  have A2 := Hd.mk hA
  have hDD : D ≠ D2 := by omega
  clear HKT
  refine hKF _ _ ?_
  dsimp only
  clear hKF KF hD hN hput bN hsz hBn hK hA hys A0
  generalize hq : Sh.text atn s1 (0, 0) (eachL tx) = q at *
  obtain ⟨q, qr, qc⟩ := q
  dsimp only at *
  have hqc := HK4.out.2.1
  have s8 : W.cell? ⟨g + 1, 0, none⟩ = some (.pointer (some ⟨g, 0, none⟩)) := D1.out.sb.cell 0 rfl
  have g0 : W.cell? ⟨g, 0, none⟩ = some (.int .i64 (q.cols : Int)) := D1.out.x.b.cell 0 rfl
  have a73 : W.cell? ⟨ba, 0, none⟩ = some (.int .i64 (atn : Int)) := A2.out.cell 0 rfl
  go_upto_if 76 with fail
  go_cut [] from 76 to 107 (fun wx => ∃ (s' : Sh) (lv : Value) (L : List RR) (row col : Nat), Hd ((s', row, col) = if atn = tx.size then drawEnd q (plainT v.ghost) else (q, qr, qc)) ∧ Hd (DI w wx b0 g (g + 1) v s' lv L row col [D2, D]))
  case first =>
    by_cases hat : atn = tx.size
    · have q1 : ((atn : Int) == (tx.size : Int)) = true := by simp [hat]
      have HAT := Hd.mk hat
      clear hat
      have g2 : W.cell? ⟨g, 2, none⟩ = some (.int .i64 (q.col : Int)) := D1.out.x.b.cell 2 rfl
      go_upto_region 17 with fail
      go_quiet (fail)
      have hbq := pw_below_drewN (Below.refl W.heap.size W) nq
      replace D1 := Hd.mk (D1.out.below hbq)
      clear hbq s8 g0 a73 g2
      generalize W.drewN nq = W at *
      go_upto_if 85 with fail
      go_cut [] from 76 to 87 (fun wx => ∃ (lv : Value) (L : List RR), Hd (DI w wx b0 g (g + 1) v (if q.cols ≤ q.col then q.fresh else q) lv L qr qc [D2, D]))
      case first =>
        have s8 : W.cell? ⟨g + 1, 0, none⟩ = some (.pointer (some ⟨g, 0, none⟩)) := D1.out.sb.cell 0 rfl
        by_cases hcl : q.cols ≤ q.col
        · have q2 : decide ((q.cols : Int) ≤ (q.col : Int)) = true := decide_eq_true (by omega)
          have q3 : decide (q.cols ≤ q.col) = true := decide_eq_true hcl
          go_wp2_with fail
          go_at_call 23
          with_reducible refine (srow_x D1.out.x HK4.out.1.c1 HK4.out.1.c2 (by have := HK4.out.2.2; omega)).mono ?_
          rintro _ w4 ⟨rfl, lv2, L2, hx, hf, ho⟩
          have D3 := Hd.mk (D1.out.sheet hx hf ho)
          clear hx hf ho s8
          go_wp2_with fail
          go_meet
          case rel => exact ⟨lv2, L2, by rw [if_pos hcl]; exact D3⟩
        · have q2 : decide ((q.cols : Int) ≤ (q.col : Int)) = false := decide_eq_false (by omega)
          have q3 : decide (q.cols ≤ q.col) = false := decide_eq_false hcl
          go_wp2_with fail
          go_meet
          case rel => exact ⟨lv, L, by rw [if_neg hcl]; exact D1⟩
      case rest =>
      clear D1
      obtain ⟨lv, L, D1⟩ := hcut
      have HS1 : Hd (SK (if q.cols ≤ q.col then q.fresh else q) ∧ (if q.cols ≤ q.col then q.fresh else q).col < (if q.cols ≤ q.col then q.fresh else q).cols ∧ (if q.cols ≤ q.col then q.fresh else q).cols = cols ∧ (if q.cols ≤ q.col then q.fresh else q).l.length ≤ 2501) := ⟨by
        split
        · exact ⟨SK.fresh HK4.out.1.c1 HK4.out.1.c2 HK4.out.1.rows, HK4.out.1.c1, hqc, by have h := HK4.out.2.2; unfold Sh.fresh; simp; exact h⟩
        · exact ⟨HK4.out.1, by omega, hqc, by have := HK4.out.2.2; omega⟩⟩
      have HDE : Hd (drawEnd q (plainT v.ghost) = ({ ((if q.cols ≤ q.col then q.fresh else q).ghost (plainT v.ghost) ((if q.cols ≤ q.col then q.fresh else q).l.length - 1) (if q.cols ≤ q.col then q.fresh else q).col).1 with col := ((if q.cols ≤ q.col then q.fresh else q).ghost (plainT v.ghost) ((if q.cols ≤ q.col then q.fresh else q).l.length - 1) (if q.cols ≤ q.col then q.fresh else q).col).2 }, (if q.cols ≤ q.col then q.fresh else q).l.length - 1, (if q.cols ≤ q.col then q.fresh else q).col)) := ⟨rfl⟩
      generalize (if q.cols ≤ q.col then q.fresh else q) = p at *
      have hpn := HS1.out.1.n
      obtain ⟨m, hm⟩ : ∃ m, p.l.length = m + 1 := ⟨p.l.length - 1, by omega⟩
      have hm1 : p.l.length - 1 = m := by omega
      rw [hm1] at HDE
      have hm9 : (m : Int) ≤ 10000 := by have := HS1.out.2.2.2; omega
      have hm0 : (0 : Int) ≤ (m : Int) := Int.natCast_nonneg _
      have hplen := Hd.mk D1.out.x.r.len
      obtain ⟨Ap, cp, rfl, _⟩ := Kd.Q_slice D1.out.x.r.q
      rw [hplen.out, hm] at D1
      go_upto_region 19 with fail
      rename_i KQ hKQ
      refine wp_mono ?_ noP_le
      refine regionH (fun w' : World => w'.cell? ⟨g + 1, 0, none⟩ = some (.pointer (some ⟨g, 0, none⟩)) ∧ w'.cell? ⟨g, 1, none⟩ = some (.slice Ap (m + 1) cp) ∧ w'.cell? ⟨g, 2, none⟩ = some (.int .i64 (p.col : Int))) (by kernel_rfl) (fun wd hb => ?_)
      replace D1 := Hd.mk (D1.out.below hb)
      clear hb
      have hHd : (fun w' : World => w'.cell? ⟨g + 1, 0, none⟩ = some (.pointer (some ⟨g, 0, none⟩)) ∧ w'.cell? ⟨g, 1, none⟩ = some (.slice Ap (m + 1) cp) ∧ w'.cell? ⟨g, 2, none⟩ = some (.int .i64 (p.col : Int))) wd := ⟨D1.out.sb.cell 0 rfl, D1.out.x.b.cell 1 rfl, D1.out.x.b.cell 2 rfl⟩
      refine takeH (i := 0) (v := ?v7) rfl (by kernel_rfl) (by kernel_rfl) (by kernel_rfl) (fun _ _ _ h => h) (Or.inl ⟨by rfl, ?hy7⟩) (by assumption) ?rest7
      case hy7 => (intro w hSw; (try dsimp only at hSw); go_simp; try (with_reducible rfl))
      case rest7 =>
      try simp only [Act.put, List.setIfInBounds_toArray, List.set_cons_zero, List.set_cons_succ]
      refine takeH (i := 1) (v := ?v8) rfl (by kernel_rfl) (by kernel_rfl) (by kernel_rfl) (fun _ _ _ h => h) (Or.inl ⟨by rfl, ?hy8⟩) (by assumption) ?rest8
      case hy8 => (intro w hSw; (try dsimp only at hSw); go_simp; try (with_reducible rfl))
      case rest8 =>
      try simp only [Act.put, List.setIfInBounds_toArray, List.set_cons_zero, List.set_cons_succ]
      refine takeH (i := 2) (v := ?v9) rfl (by kernel_rfl) (by kernel_rfl) (by kernel_rfl) (fun _ _ _ h => h) (Or.inl ⟨by rfl, ?hy9⟩) (by assumption) ?rest9
      case hy9 => (intro w hSw; (try dsimp only at hSw); go_simp; try (with_reducible rfl))
      case rest9 =>
      try simp only [Act.put, List.setIfInBounds_toArray, List.set_cons_zero, List.set_cons_succ]
      refine takeH (i := 3) (v := ?v10) rfl (by kernel_rfl) (by kernel_rfl) (by kernel_rfl) (fun _ _ _ h => h) (Or.inl ⟨by rfl, ?hy10⟩) (by assumption) ?rest10
      case hy10 => (intro w hSw; (try dsimp only at hSw); go_simp; try (with_reducible rfl))
      case rest10 =>
      try simp only [Act.put, List.setIfInBounds_toArray, List.set_cons_zero, List.set_cons_succ]
      refine takeH (i := 4) (v := ?v11) rfl (by kernel_rfl) (by kernel_rfl) (by kernel_rfl) (fun _ _ _ h => h) (Or.inl ⟨by rfl, ?hy11⟩) (by assumption) ?rest11
      case hy11 => (intro w hSw; (try dsimp only at hSw); go_simp; try (with_reducible rfl))
      case rest11 =>
      try simp only [Act.put, List.setIfInBounds_toArray, List.set_cons_zero, List.set_cons_succ]
      refine takeH (i := 5) (v := .int .i64 (m : Int)) rfl (by kernel_rfl) (by kernel_rfl) (by kernel_rfl) (fun _ _ _ h => h) (Or.inl ⟨by rfl, ?hy12⟩) (by assumption) ?rest12
      case hy12 => (intro w hSw; (try dsimp only at hSw); clear hSw; go_simp; try (rw [IntKind.wrap_i64]; omega))
      case rest12 =>
      try simp only [Act.put, List.setIfInBounds_toArray, List.set_cons_zero, List.set_cons_succ]
      refine takeH (i := 6) (v := ?v13) rfl (by kernel_rfl) (by kernel_rfl) (by kernel_rfl) (fun _ _ _ h => h) (Or.inl ⟨by rfl, ?hy13⟩) (by assumption) ?rest13
      case hy13 => (intro w hSw; (try dsimp only at hSw); go_simp; try (with_reducible rfl))
      case rest13 =>
      try simp only [Act.put, List.setIfInBounds_toArray, List.set_cons_zero, List.set_cons_succ]
      refine takeH (i := 7) (v := ?v14) rfl (by kernel_rfl) (by kernel_rfl) (by kernel_rfl) (fun _ _ _ h => h) (Or.inl ⟨by rfl, ?hy14⟩) (by assumption) ?rest14
      case hy14 => (intro w hSw; (try dsimp only at hSw); go_simp; try (with_reducible rfl))
      case rest14 =>
      try simp only [Act.put, List.setIfInBounds_toArray, List.set_cons_zero, List.set_cons_succ]
      refine takeH (i := 8) (v := ?v15) rfl (by kernel_rfl) (by kernel_rfl) (by kernel_rfl) (fun _ _ _ h => h) (Or.inl ⟨by rfl, ?hy15⟩) (by assumption) ?rest15
      case hy15 => (intro w hSw; (try dsimp only at hSw); go_simp; try (with_reducible rfl))
      case rest15 =>
      try simp only [Act.put, List.setIfInBounds_toArray, List.set_cons_zero, List.set_cons_succ]
      refine takeH (i := 9) (v := ?v16) rfl (by kernel_rfl) (by kernel_rfl) (by kernel_rfl) (fun _ _ _ h => h) (Or.inl ⟨by rfl, ?hy16⟩) (by assumption) ?rest16
      case hy16 => (intro w hSw; (try dsimp only at hSw); go_simp; try (with_reducible rfl))
      case rest16 =>
      try simp only [Act.put, List.setIfInBounds_toArray, List.set_cons_zero, List.set_cons_succ]
      refine wpAnyH_ready (rs := [10]) (by kernel_rfl) (by simp) ?_
      refine consH rfl (fun K hK => ?_) AllReadyH.nil
      rw [if_pos (by first | rfl | (go_simp; done) | (go_simp; rfl))]
      refine cell_step rfl rfl (g := b0 + 1) (i := 0) (v := .int .i64 (m : Int)) (by first | rfl | (go_simp; done) | (go_simp; rfl)) (by first | rfl | (go_simp; done) | (go_simp; rfl)) (D1.out.rb.cell 0 rfl) (D1.out.rb.frozen 0) infoInt1 rfl ?_
      replace D1 := Hd.mk (D1.out.setr m)
      clear hHd
      have hHd : (fun w' : World => w'.cell? ⟨g + 1, 0, none⟩ = some (.pointer (some ⟨g, 0, none⟩)) ∧ w'.cell? ⟨g, 1, none⟩ = some (.slice Ap (m + 1) cp) ∧ w'.cell? ⟨g, 2, none⟩ = some (.int .i64 (p.col : Int))) _ := ⟨D1.out.sb.cell 0 rfl, D1.out.x.b.cell 1 rfl, D1.out.x.b.cell 2 rfl⟩
      refine hK.out _ _ hHd ?_
      clear hK K
      try simp only [Act.put, List.setIfInBounds_toArray, List.set_cons_zero, List.set_cons_succ]
      refine wpAnyH_ready (rs := [11]) (by kernel_rfl) (by simp) ?_
      refine consH rfl (fun K hK => ?_) AllReadyH.nil
      rw [if_pos (by first | rfl | (go_simp; done) | (go_simp; rfl))]
      refine cell_step rfl rfl (g := b0 + 1 + 1) (i := 0) (v := .int .i64 (p.col : Int)) (by first | rfl | (go_simp; done) | (go_simp; rfl)) (by first | rfl | (go_simp; done) | (go_simp; rfl)) (D1.out.cb.cell 0 rfl) (D1.out.cb.frozen 0) infoInt1 rfl ?_
      replace D1 := Hd.mk (D1.out.setc p.col)
      clear hHd
      have hHd : (fun w' : World => w'.cell? ⟨g + 1, 0, none⟩ = some (.pointer (some ⟨g, 0, none⟩)) ∧ w'.cell? ⟨g, 1, none⟩ = some (.slice Ap (m + 1) cp) ∧ w'.cell? ⟨g, 2, none⟩ = some (.int .i64 (p.col : Int))) _ := ⟨D1.out.sb.cell 0 rfl, D1.out.x.b.cell 1 rfl, D1.out.x.b.cell 2 rfl⟩
      refine hK.out _ _ hHd ?_
      clear hK K
      try simp only [Act.put, List.setIfInBounds_toArray, List.set_cons_zero, List.set_cons_succ]
      refine wpAnyH_done (by kernel_rfl) ?_ _
      refine hKQ _ _ ?_
      clear hHd
      generalize ((wd.setCell ⟨b0 + 1, 0, none⟩ (.int .i64 (m : Int))).setCell ⟨b0 + 1 + 1, 0, none⟩ (.int .i64 (p.col : Int))) = w9 at *
      go_upto_region 20 with fail
      refine wp_mono ?_ noP_le
      refine regionH (fun w' : World => w'.cell? ⟨g + 1, 0, none⟩ = some (.pointer (some ⟨g, 0, none⟩)) ∧ w'.cell? ⟨b0, 4, none⟩ = some (.string v.ghost) ∧ w'.cell? ⟨b0 + 1, 0, none⟩ = some (.int .i64 (m : Int)) ∧ w'.cell? ⟨b0 + 1 + 1, 0, none⟩ = some (.int .i64 (p.col : Int))) (by kernel_rfl) (fun wd hb => ?_)
      replace D1 := Hd.mk (D1.out.below hb)
      clear hb
      have hHd : (fun w' : World => w'.cell? ⟨g + 1, 0, none⟩ = some (.pointer (some ⟨g, 0, none⟩)) ∧ w'.cell? ⟨b0, 4, none⟩ = some (.string v.ghost) ∧ w'.cell? ⟨b0 + 1, 0, none⟩ = some (.int .i64 (m : Int)) ∧ w'.cell? ⟨b0 + 1 + 1, 0, none⟩ = some (.int .i64 (p.col : Int))) wd := ⟨D1.out.sb.cell 0 rfl, D1.out.vb.cell 4 rfl, D1.out.rb.cell 0 rfl, D1.out.cb.cell 0 rfl⟩
      refine takeH (i := 0) (v := ?v17) rfl (by kernel_rfl) (by kernel_rfl) (by kernel_rfl) (fun _ _ _ h => h) (Or.inl ⟨by rfl, ?hy17⟩) (by assumption) ?rest17
      case hy17 => (intro w hSw; (try dsimp only at hSw); go_simp; try (with_reducible rfl))
      case rest17 =>
      try simp only [Act.put, List.setIfInBounds_toArray, List.set_cons_zero, List.set_cons_succ]
      refine takeH (i := 1) (v := ?v18) rfl (by kernel_rfl) (by kernel_rfl) (by kernel_rfl) (fun _ _ _ h => h) (Or.inl ⟨by rfl, ?hy18⟩) (by assumption) ?rest18
      case hy18 => (intro w hSw; (try dsimp only at hSw); go_simp; try (with_reducible rfl))
      case rest18 =>
      try simp only [Act.put, List.setIfInBounds_toArray, List.set_cons_zero, List.set_cons_succ]
      refine takeH (i := 2) (v := ?v19) rfl (by kernel_rfl) (by kernel_rfl) (by kernel_rfl) (fun _ _ _ h => h) (Or.inl ⟨by rfl, ?hy19⟩) (by assumption) ?rest19
      case hy19 => (intro w hSw; (try dsimp only at hSw); go_simp; try (with_reducible rfl))
      case rest19 =>
      try simp only [Act.put, List.setIfInBounds_toArray, List.set_cons_zero, List.set_cons_succ]
      refine takeH (i := 3) (v := ?v20) rfl (by kernel_rfl) (by kernel_rfl) (by kernel_rfl) (fun _ _ _ h => h) (Or.inl ⟨by rfl, ?hy20⟩) (by assumption) ?rest20
      case hy20 => (intro w hSw; (try dsimp only at hSw); go_simp; try (with_reducible rfl))
      case rest20 =>
      try simp only [Act.put, List.setIfInBounds_toArray, List.set_cons_zero, List.set_cons_succ]
      refine takeH (i := 5) (v := ?v21) rfl (by kernel_rfl) (by kernel_rfl) (by kernel_rfl) (fun _ _ _ h => h) (Or.inl ⟨by rfl, ?hy21⟩) (by assumption) ?rest21
      case hy21 => (intro w hSw; (try dsimp only at hSw); go_simp; try (with_reducible rfl))
      case rest21 =>
      try simp only [Act.put, List.setIfInBounds_toArray, List.set_cons_zero, List.set_cons_succ]
      refine takeH (i := 6) (v := ?v22) rfl (by kernel_rfl) (by kernel_rfl) (by kernel_rfl) (fun _ _ _ h => h) (Or.inl ⟨by rfl, ?hy22⟩) (by assumption) ?rest22
      case hy22 => (intro w hSw; (try dsimp only at hSw); go_simp; try (with_reducible rfl))
      case rest22 =>
      try simp only [Act.put, List.setIfInBounds_toArray, List.set_cons_zero, List.set_cons_succ]
      refine wpAnyH_ready (rs := [4]) (by kernel_rfl) (by simp) ?_
      refine consH rfl (fun K hK => ?_) AllReadyH.nil
      go_simp
      go_at_call 24
      with_reducible refine (HP.out v.ghost HG.out _ D1.out.b).mono ?_
      rintro _ wa ⟨rfl, hb⟩
      replace D1 := Hd.mk (D1.out.below hb)
      clear hb hHd
      have hHd : (fun w' : World => w'.cell? ⟨g + 1, 0, none⟩ = some (.pointer (some ⟨g, 0, none⟩)) ∧ w'.cell? ⟨b0, 4, none⟩ = some (.string v.ghost) ∧ w'.cell? ⟨b0 + 1, 0, none⟩ = some (.int .i64 (m : Int)) ∧ w'.cell? ⟨b0 + 1 + 1, 0, none⟩ = some (.int .i64 (p.col : Int))) wa := ⟨D1.out.sb.cell 0 rfl, D1.out.vb.cell 4 rfl, D1.out.rb.cell 0 rfl, D1.out.cb.cell 0 rfl⟩
      go_simp
      refine hK.out _ _ hHd ?_
      clear hK K
      try simp only [Act.put, List.setIfInBounds_toArray, List.set_cons_zero, List.set_cons_succ]
      refine wpAnyH_ready (rs := [7]) (by kernel_rfl) (by simp) ?_
      refine consH rfl (fun K hK => ?_) AllReadyH.nil
      go_simp
      go_at_call 28
      have hGK : GK p m p.col := ⟨HS1.out.1.c1, HS1.out.1.c2, HS1.out.1.rows, by omega, by have h := HS1.out.1.last; rw [hm1] at h; exact h⟩
      with_reducible refine (ghost_calls D1.out.x m p.col hGK HS1.out.2.1 (by have := HS1.out.2.2.2; omega) (plainT v.ghost) (plainT_le _)).mono ?_
      rintro _ wb ⟨rfl, hx, ho⟩
      replace D1 := Hd.mk (D1.out.sheet hx (fun k hk => .inl hk) ho)
      clear hx ho hHd hGK
      have hHd : (fun w' : World => w'.cell? ⟨g + 1, 0, none⟩ = some (.pointer (some ⟨g, 0, none⟩)) ∧ w'.cell? ⟨b0, 4, none⟩ = some (.string v.ghost) ∧ w'.cell? ⟨b0 + 1, 0, none⟩ = some (.int .i64 (m : Int)) ∧ w'.cell? ⟨b0 + 1 + 1, 0, none⟩ = some (.int .i64 (p.col : Int))) wb := ⟨D1.out.sb.cell 0 rfl, D1.out.vb.cell 4 rfl, D1.out.rb.cell 0 rfl, D1.out.cb.cell 0 rfl⟩
      go_simp
      refine hK.out _ _ hHd ?_
      clear hK K
      try simp only [Act.put, List.setIfInBounds_toArray, List.set_cons_zero, List.set_cons_succ]
      refine takeH (i := 8) (v := ?v23) rfl (by kernel_rfl) (by kernel_rfl) (by kernel_rfl) (fun _ _ _ h => h) (Or.inl ⟨by rfl, ?hy23⟩) (by assumption) ?rest23
      case hy23 => (intro w hSw; (try dsimp only at hSw); go_simp; try (with_reducible rfl))
      case rest23 =>
      try simp only [Act.put, List.setIfInBounds_toArray, List.set_cons_zero, List.set_cons_succ]
      refine takeH (i := 9) (v := ?v24) rfl (by kernel_rfl) (by kernel_rfl) (by kernel_rfl) (fun _ _ _ h => h) (Or.inl ⟨by rfl, ?hy24⟩) (by assumption) ?rest24
      case hy24 => (intro w hSw; (try dsimp only at hSw); go_simp; try (with_reducible rfl))
      case rest24 =>
      try simp only [Act.put, List.setIfInBounds_toArray, List.set_cons_zero, List.set_cons_succ]
      refine wpAnyH_ready (rs := [10]) (by kernel_rfl) (by simp) ?_
      refine consH rfl (fun K hK => ?_) AllReadyH.nil
      rw [if_pos (by first | rfl | (go_simp; done) | (go_simp; rfl))]
      refine cell_step rfl rfl (g := g) (i := 2) (v := .int .i64 ((p.ghost (plainT v.ghost) m p.col).2 : Int)) (by first | rfl | (go_simp; done) | (go_simp; rfl)) (by first | rfl | (go_simp; done) | (go_simp; rfl)) (D1.out.x.b.cell 2 rfl) (D1.out.x.b.frozen 2) infoInt1 rfl ?_
      replace D1 := Hd.mk (D1.out.col_ (p.ghost (plainT v.ghost) m p.col).2)
      clear hHd
      have hHd : (fun w' : World => w'.cell? ⟨g + 1, 0, none⟩ = some (.pointer (some ⟨g, 0, none⟩)) ∧ w'.cell? ⟨b0, 4, none⟩ = some (.string v.ghost) ∧ w'.cell? ⟨b0 + 1, 0, none⟩ = some (.int .i64 (m : Int)) ∧ w'.cell? ⟨b0 + 1 + 1, 0, none⟩ = some (.int .i64 (p.col : Int))) _ := ⟨D1.out.sb.cell 0 rfl, D1.out.vb.cell 4 rfl, D1.out.rb.cell 0 rfl, D1.out.cb.cell 0 rfl⟩
      refine hK.out _ _ hHd ?_
      clear hK K
      try simp only [Act.put, List.setIfInBounds_toArray, List.set_cons_zero, List.set_cons_succ]
      refine wpAnyH_done (by kernel_rfl) ?_ _
      dsimp only [noP]
      clear hHd
      generalize wb.setCell ⟨g, 2, none⟩ (.int .i64 ((p.ghost (plainT v.ghost) m p.col).2 : Int)) = w10 at *
      go_wp2_with fail
      go_meet
      case rel => exact ⟨_, _, L, m, p.col, ⟨by rw [if_pos HAT.out, HDE.out]⟩, D1⟩
    · have q1 : ((atn : Int) == (tx.size : Int)) = false := by simp; omega
      go_wp2_with fail
      go_meet
      case rel => exact ⟨q, lv, L, qr, qc, ⟨by rw [if_neg hat]⟩, D1⟩
  case rest =>
  clear D1
  obtain ⟨s', lv, L, row, col, HM, D1⟩ := hcut
  have HMID : Hd (drawMid cols v = (s', row, col)) := ⟨by
    have e : drawMid cols v = if backL (plainT v.text) v.at_ = (plainT v.text).size then drawEnd (Sh.text (backL (plainT v.text) v.at_) (Sh.puts (({ cols := cols, l := [], col := 0 } : Sh).fresh) (eachL (plainT v.left))) (0, 0) (eachL (plainT v.text))).1 (plainT v.ghost) else Sh.text (backL (plainT v.text) v.at_) (Sh.puts (({ cols := cols, l := [], col := 0 } : Sh).fresh) (eachL (plainT v.left))) (0, 0) (eachL (plainT v.text)) := rfl
    rw [HLF.out, HTT.out, hs0, hs1, hatn, hq] at e
    exact e.trans HM.out.symm⟩
  have HMO := Hd.mk (drawMid_ok cols hc0.1 hc0.2 v)
  rw [HMID.out] at HMO
  have HDR : Hd (dr = ⟨if hasR cols v s' = true then promptG s' (cols - sumW (plainT v.right)) (eachL (plainT v.right)) else s', row, col, hasR cols v s'⟩) := ⟨by
    rw [← HD.out]
    have e : drawnP cols v = ⟨if hasR cols v (drawMid cols v).1 = true then promptG (drawMid cols v).1 (cols - sumW (plainT v.right)) (eachL (plainT v.right)) else (drawMid cols v).1, (drawMid cols v).2.1, (drawMid cols v).2.2, hasR cols v (drawMid cols v).1⟩ := rfl
    rw [HMID.out] at e
    exact e⟩
  try clear HM
  try clear HMID
  try clear hq
  try clear hs1
  try clear hs0
  try clear HK4
  try clear HK3
  try clear HK1
  try clear A2
  try clear hck
  try clear hck2
  try clear hlen
  try clear hlen2
  try clear hlt
  try clear hlt1
  try clear hsz
  try clear hD1
  try clear HD
  try clear hqc
  try clear a73
  try clear g0
  try clear s8
  try clear HLF
  try clear HTT
  try clear HNW
  try clear hatn
  have hplen := Hd.mk D1.out.x.r.len
  obtain ⟨Ap, cp, rfl, _⟩ := Kd.Q_slice D1.out.x.r.q
  rw [hplen.out] at D1
  have s8 : wc.cell? ⟨g + 1, 0, none⟩ = some (.pointer (some ⟨g, 0, none⟩)) := D1.out.sb.cell 0 rfl
  have g1 : wc.cell? ⟨g, 1, none⟩ = some (.slice Ap s'.l.length cp) := D1.out.x.b.cell 1 rfl
  go_upto_if 113 with fail
  clear s8 g1
  go_cut [18] from 108 to 117 (fun v18 wx => v18 = .int .i64 (firstC cols v s' : Int) ∧ Hd (DI w wx b0 g (g + 1) v s' (.slice Ap s'.l.length cp) L row col [D2, D]))
  case first =>
    have s8 : wc.cell? ⟨g + 1, 0, none⟩ = some (.pointer (some ⟨g, 0, none⟩)) := D1.out.sb.cell 0 rfl
    have g2 : wc.cell? ⟨g, 2, none⟩ = some (.int .i64 (s'.col : Int)) := D1.out.x.b.cell 2 rfl
    by_cases h1 : s'.l.length = 1
    · have q1 : ((s'.l.length : Int) == 1) = true := by simp [h1]
      have HH1 := Hd.mk h1
      clear h1
      go_wp2_with fail
      go_meet
      case rel => exact ⟨by unfold firstC; rw [if_pos HH1.out], D1⟩
    · have q1 : ((s'.l.length : Int) == 1) = false := by simp; omega
      go_wp2_with fail
      go_meet
      case rel => exact ⟨by unfold firstC; rw [if_neg h1], D1⟩
  case rest =>
  clear D1
  obtain ⟨rfl, D1⟩ := hcut
  have hpr := plainT_le v.right
  have HRS : Hd (hasR cols v s' = (decide ((plainT v.right).size ≠ 0) && decide (firstC cols v s' + 1 + sumW (plainT v.right) ≤ cols))) := ⟨rfl⟩
  have a3 : wc.cell? ⟨b0, 3, none⟩ = some (.string v.right) := D1.out.vb.cell 3 rfl
  go_wp2_with fail
  go_at_call 24
  with_reducible refine (HP.out v.right HR.out _ D1.out.b).mono ?_
  rintro _ w11 ⟨rfl, hb⟩
  replace D1 := Hd.mk (D1.out.below hb)
  clear hb a3
  generalize plainT v.right = pr at *
  go_upto_region 24 with fail
  have hfc : firstC cols v s' ≤ cols := by unfold firstC; split; exact HMO.out.2.2.2.2.2.1; exact Nat.le_refl _
  go_cut [5] from 121 to 134 (fun v5 wx => v5 = .bool (hasR cols v s') ∧ Hd (DI w wx b0 g (g + 1) v s' (.slice Ap s'.l.length cp) L row col [D2, D]))
  case first =>
    generalize hR0 : hasR cols v s' = rr at *
    generalize firstC cols v s' = fc at *
    refine wp_mono ?_ noP_le
    refine regionH (fun w' : World => w'.cell? ⟨g + 1, 0, none⟩ = some (.pointer (some ⟨g, 0, none⟩)) ∧ w'.cell? ⟨g, 0, none⟩ = some (.int .i64 (cols : Int))) (by kernel_rfl) (fun wd hb => ?_)
    replace D1 := Hd.mk (D1.out.below hb)
    clear hb
    have hHd : (fun w' : World => w'.cell? ⟨g + 1, 0, none⟩ = some (.pointer (some ⟨g, 0, none⟩)) ∧ w'.cell? ⟨g, 0, none⟩ = some (.int .i64 (cols : Int))) wd := ⟨D1.out.sb.cell 0 rfl, by rw [← HMO.out.2.1]; exact D1.out.x.b.cell 0 rfl⟩
    by_cases hp0 : pr.size = 0
    · have hpe : pr = ⟨#[]⟩ := by
        rcases pr with ⟨a⟩
        have : a.size = 0 := hp0
        rw [Array.size_eq_zero_iff.1 this]
      subst hpe
      have hrr : rr = false := by rw [HRS.out]; rfl
      clear hR0 HRS
      subst hrr
      refine takeH (i := 0) (v := ?v25) rfl (by kernel_rfl) (by kernel_rfl) (by kernel_rfl) (fun _ _ _ h => h) (Or.inl ⟨by rfl, ?hy25⟩) (by assumption) ?rest25
      case hy25 => (intro w hSw; (try dsimp only at hSw); go_simp; try (with_reducible rfl))
      case rest25 =>
      try simp only [Act.put, List.setIfInBounds_toArray, List.set_cons_zero, List.set_cons_succ]
      refine takeH (i := 1) (v := .bool false) rfl (by kernel_rfl) (by kernel_rfl) (by kernel_rfl) (fun _ _ _ h => h) (Or.inl ⟨by rfl, ?hy26⟩) (by assumption) ?rest26
      case hy26 => (intro w hSw; (try dsimp only at hSw); go_simp; try (with_reducible rfl))
      case rest26 =>
      try simp only [Act.put, List.setIfInBounds_toArray, List.set_cons_zero, List.set_cons_succ]
      refine takeH (i := 2) (v := ?v27) rfl (by kernel_rfl) (by kernel_rfl) (by kernel_rfl) (fun _ _ _ h => h) (Or.inl ⟨by rfl, ?hy27⟩) (by assumption) ?rest27
      case hy27 => (intro w hSw; (try dsimp only at hSw); go_simp; try (with_reducible rfl))
      case rest27 =>
      try simp only [Act.put, List.setIfInBounds_toArray, List.set_cons_zero, List.set_cons_succ]
      refine takeH (i := 3) (v := undef) rfl (by kernel_rfl) (by kernel_rfl) (by kernel_rfl) (fun _ _ _ h => h) (Or.inr ⟨by rfl, by rfl⟩) (by assumption) ?rest28
      case rest28 =>
      try simp only [Act.put, List.setIfInBounds_toArray, List.set_cons_zero, List.set_cons_succ]
      refine takeH (i := 4) (v := undef) rfl (by kernel_rfl) (by kernel_rfl) (by kernel_rfl) (fun _ _ _ h => h) (Or.inr ⟨by rfl, by rfl⟩) (by assumption) ?rest29
      case rest29 =>
      try simp only [Act.put, List.setIfInBounds_toArray, List.set_cons_zero, List.set_cons_succ]
      refine takeH (i := 5) (v := undef) rfl (by kernel_rfl) (by kernel_rfl) (by kernel_rfl) (fun _ _ _ h => h) (Or.inr ⟨by rfl, by rfl⟩) (by assumption) ?rest30
      case rest30 =>
      try simp only [Act.put, List.setIfInBounds_toArray, List.set_cons_zero, List.set_cons_succ]
      refine takeH (i := 6) (v := undef) rfl (by kernel_rfl) (by kernel_rfl) (by kernel_rfl) (fun _ _ _ h => h) (Or.inr ⟨by rfl, by rfl⟩) (by assumption) ?rest31
      case rest31 =>
      try simp only [Act.put, List.setIfInBounds_toArray, List.set_cons_zero, List.set_cons_succ]
      refine takeH (i := 7) (v := undef) rfl (by kernel_rfl) (by kernel_rfl) (by kernel_rfl) (fun _ _ _ h => h) (Or.inr ⟨by rfl, by rfl⟩) (by assumption) ?rest32
      case rest32 =>
      try simp only [Act.put, List.setIfInBounds_toArray, List.set_cons_zero, List.set_cons_succ]
      refine takeH (i := 8) (v := undef) rfl (by kernel_rfl) (by kernel_rfl) (by kernel_rfl) (fun _ _ _ h => h) (Or.inr ⟨by rfl, by rfl⟩) (by assumption) ?rest33
      case rest33 =>
      try simp only [Act.put, List.setIfInBounds_toArray, List.set_cons_zero, List.set_cons_succ]
      refine takeH (i := 9) (v := undef) rfl (by kernel_rfl) (by kernel_rfl) (by kernel_rfl) (fun _ _ _ h => h) (Or.inr ⟨by rfl, by rfl⟩) (by assumption) ?rest34
      case rest34 =>
      try simp only [Act.put, List.setIfInBounds_toArray, List.set_cons_zero, List.set_cons_succ]
      refine takeH (i := 10) (v := undef) rfl (by kernel_rfl) (by kernel_rfl) (by kernel_rfl) (fun _ _ _ h => h) (Or.inr ⟨by rfl, by rfl⟩) (by assumption) ?rest35
      case rest35 =>
      try simp only [Act.put, List.setIfInBounds_toArray, List.set_cons_zero, List.set_cons_succ]
      refine takeH (i := 11) (v := undef) rfl (by kernel_rfl) (by kernel_rfl) (by kernel_rfl) (fun _ _ _ h => h) (Or.inr ⟨by rfl, by rfl⟩) (by assumption) ?rest36
      case rest36 =>
      try simp only [Act.put, List.setIfInBounds_toArray, List.set_cons_zero, List.set_cons_succ]
      refine takeH (i := 12) (v := undef) rfl (by kernel_rfl) (by kernel_rfl) (by kernel_rfl) (fun _ _ _ h => h) (Or.inr ⟨by rfl, by rfl⟩) (by assumption) ?rest37
      case rest37 =>
      try simp only [Act.put, List.setIfInBounds_toArray, List.set_cons_zero, List.set_cons_succ]
      refine takeH (i := 13) (v := ?v38) rfl (by kernel_rfl) (by kernel_rfl) (by kernel_rfl) (fun _ _ _ h => h) (Or.inl ⟨by rfl, ?hy38⟩) (by assumption) ?rest38
      case hy38 => (intro w hSw; (try dsimp only at hSw); go_simp; try (with_reducible rfl))
      case rest38 =>
      try simp only [Act.put, List.setIfInBounds_toArray, List.set_cons_zero, List.set_cons_succ]
      refine takeH (i := 14) (v := ?v39) rfl (by kernel_rfl) (by kernel_rfl) (by kernel_rfl) (fun _ _ _ h => h) (Or.inl ⟨by rfl, ?hy39⟩) (by assumption) ?rest39
      case hy39 => (intro w hSw; (try dsimp only at hSw); go_simp; try (with_reducible rfl))
      case rest39 =>
      try simp only [Act.put, List.setIfInBounds_toArray, List.set_cons_zero, List.set_cons_succ]
      refine wpAnyH_done (by kernel_rfl) ?_ _
      dsimp only [noP]
      go_wp2_with fail
      go_meet
      case rel => exact ⟨rfl, D1⟩
    · have hq3 : ¬ pr = ⟨#[]⟩ := fun e => hp0 (by rw [e]; rfl)
      have hq1 : ¬ pr.toList = [] := fun e => hp0 (by rw [Lib.toList_data] at e; rw [Lib.size_eq, e]; rfl)
      have hq2 : pr.toList.isEmpty = false := by simpa using hq1
      have hq4 : decide (pr = (⟨#[]⟩ : ByteArray)) = false := decide_eq_false hq3
      have hsl := sumG_le (eachL pr)
      have hel := eachL_len pr
      have hsw : sumW pr ≤ 2402 := by unfold sumW; omega
      have hrr : rr = decide ((fc : Int) + 1 + (sumW pr : Int) ≤ (cols : Int)) := by
        rw [HRS.out, decide_eq_true (show pr.size ≠ 0 from hp0), Bool.true_and]
        exact decide_eq_decide.2 (by omega)
      clear hR0 HRS
      subst hrr
      refine takeH (i := 0) (v := ?v40) rfl (by kernel_rfl) (by kernel_rfl) (by kernel_rfl) (fun _ _ _ h => h) (Or.inl ⟨by rfl, ?hy40⟩) (by assumption) ?rest40
      case hy40 => (intro w hSw; (try dsimp only at hSw); go_simp; try (with_reducible rfl))
      case rest40 =>
      try simp only [Act.put, List.setIfInBounds_toArray, List.set_cons_zero, List.set_cons_succ]
      refine takeH (i := 1) (v := .bool true) rfl (by kernel_rfl) (by kernel_rfl) (by kernel_rfl) (fun _ _ _ h => h) (Or.inl ⟨by rfl, ?hy41⟩) (by assumption) ?rest41
      case hy41 => (intro w hSw; (try dsimp only at hSw); go_simp; try (with_reducible rfl))
      case rest41 =>
      try simp only [Act.put, List.setIfInBounds_toArray, List.set_cons_zero, List.set_cons_succ]
      refine takeH (i := 2) (v := ?v42) rfl (by kernel_rfl) (by kernel_rfl) (by kernel_rfl) (fun _ _ _ h => h) (Or.inl ⟨by rfl, ?hy42⟩) (by assumption) ?rest42
      case hy42 => (intro w hSw; (try dsimp only at hSw); go_simp; try (with_reducible rfl))
      case rest42 =>
      try simp only [Act.put, List.setIfInBounds_toArray, List.set_cons_zero, List.set_cons_succ]
      refine takeH (i := 3) (v := ?v43) rfl (by kernel_rfl) (by kernel_rfl) (by kernel_rfl) (fun _ _ _ h => h) (Or.inl ⟨by rfl, ?hy43⟩) (by assumption) ?rest43
      case hy43 => (intro w hSw; (try dsimp only at hSw); go_simp; try (with_reducible rfl))
      case rest43 =>
      try simp only [Act.put, List.setIfInBounds_toArray, List.set_cons_zero, List.set_cons_succ]
      refine takeH (i := 4) (v := .int .i64 ((fc : Int) + 1)) rfl (by kernel_rfl) (by kernel_rfl) (by kernel_rfl) (fun _ _ _ h => h) (Or.inl ⟨by rfl, ?hy44⟩) (by assumption) ?rest44
      case hy44 => (intro w hSw; (try dsimp only at hSw); clear hSw; go_simp; try (rw [IntKind.wrap_i64]; omega))
      case rest44 =>
      try simp only [Act.put, List.setIfInBounds_toArray, List.set_cons_zero, List.set_cons_succ]
      refine takeH (i := 5) (v := ?v45) rfl (by kernel_rfl) (by kernel_rfl) (by kernel_rfl) (fun _ _ _ h => h) (Or.inl ⟨by rfl, ?hy45⟩) (by assumption) ?rest45
      case hy45 => (intro w hSw; (try dsimp only at hSw); go_simp; try (with_reducible rfl))
      case rest45 =>
      try simp only [Act.put, List.setIfInBounds_toArray, List.set_cons_zero, List.set_cons_succ]
      refine takeH (i := 8) (v := ?v46) rfl (by kernel_rfl) (by kernel_rfl) (by kernel_rfl) (fun _ _ _ h => h) (Or.inl ⟨by rfl, ?hy46⟩) (by assumption) ?rest46
      case hy46 => (intro w hSw; (try dsimp only at hSw); go_simp; try (with_reducible rfl))
      case rest46 =>
      try simp only [Act.put, List.setIfInBounds_toArray, List.set_cons_zero, List.set_cons_succ]
      refine takeH (i := 9) (v := ?v47) rfl (by kernel_rfl) (by kernel_rfl) (by kernel_rfl) (fun _ _ _ h => h) (Or.inl ⟨by rfl, ?hy47⟩) (by assumption) ?rest47
      case hy47 => (intro w hSw; (try dsimp only at hSw); go_simp; try (with_reducible rfl))
      case rest47 =>
      try simp only [Act.put, List.setIfInBounds_toArray, List.set_cons_zero, List.set_cons_succ]
      refine takeH (i := 10) (v := ?v48) rfl (by kernel_rfl) (by kernel_rfl) (by kernel_rfl) (fun _ _ _ h => h) (Or.inl ⟨by rfl, ?hy48⟩) (by assumption) ?rest48
      case hy48 => (intro w hSw; (try dsimp only at hSw); go_simp; try (with_reducible rfl))
      case rest48 =>
      try simp only [Act.put, List.setIfInBounds_toArray, List.set_cons_zero, List.set_cons_succ]
      refine takeH (i := 11) (v := ?v49) rfl (by kernel_rfl) (by kernel_rfl) (by kernel_rfl) (fun _ _ _ h => h) (Or.inl ⟨by rfl, ?hy49⟩) (by assumption) ?rest49
      case hy49 => (intro w hSw; (try dsimp only at hSw); go_simp; try (with_reducible rfl))
      case rest49 =>
      try simp only [Act.put, List.setIfInBounds_toArray, List.set_cons_zero, List.set_cons_succ]
      refine wpAnyH_ready (rs := [6]) (by kernel_rfl) (by simp) ?_
      refine consH rfl (fun K hK => ?_) AllReadyH.nil
      go_simp
      go_at_call 29
      with_reducible refine (sum_calls pr hpr wd).mono ?_
      rintro _ w12 ⟨rfl, hb⟩
      replace D1 := Hd.mk (D1.out.below hb)
      clear hb hHd
      have hHd : (fun w' : World => w'.cell? ⟨g + 1, 0, none⟩ = some (.pointer (some ⟨g, 0, none⟩)) ∧ w'.cell? ⟨g, 0, none⟩ = some (.int .i64 (cols : Int))) w12 := ⟨D1.out.sb.cell 0 rfl, by rw [← HMO.out.2.1]; exact D1.out.x.b.cell 0 rfl⟩
      go_simp
      refine hK.out _ _ hHd ?_
      clear hK K
      try simp only [Act.put, List.setIfInBounds_toArray, List.set_cons_zero, List.set_cons_succ]
      refine takeH (i := 7) (v := .int .i64 ((fc : Int) + 1 + (sumW pr : Int))) rfl (by kernel_rfl) (by kernel_rfl) (by kernel_rfl) (fun _ _ _ h => h) (Or.inl ⟨by rfl, ?hy50⟩) (by assumption) ?rest50
      case hy50 => (intro w hSw; (try dsimp only at hSw); clear hSw; go_simp; try (rw [IntKind.wrap_i64]; omega))
      case rest50 =>
      try simp only [Act.put, List.setIfInBounds_toArray, List.set_cons_zero, List.set_cons_succ]
      refine takeH (i := 12) (v := ?v51) rfl (by kernel_rfl) (by kernel_rfl) (by kernel_rfl) (fun _ _ _ h => h) (Or.inl ⟨by rfl, ?hy51⟩) (by assumption) ?rest51
      case hy51 => (intro w hSw; (try dsimp only at hSw); go_simp; try (with_reducible rfl))
      case rest51 =>
      try simp only [Act.put, List.setIfInBounds_toArray, List.set_cons_zero, List.set_cons_succ]
      refine takeH (i := 13) (v := ?v52) rfl (by kernel_rfl) (by kernel_rfl) (by kernel_rfl) (fun _ _ _ h => h) (Or.inl ⟨by rfl, ?hy52⟩) (by assumption) ?rest52
      case hy52 => (intro w hSw; (try dsimp only at hSw); go_simp; try (with_reducible rfl))
      case rest52 =>
      try simp only [Act.put, List.setIfInBounds_toArray, List.set_cons_zero, List.set_cons_succ]
      refine takeH (i := 14) (v := ?v53) rfl (by kernel_rfl) (by kernel_rfl) (by kernel_rfl) (fun _ _ _ h => h) (Or.inl ⟨by rfl, ?hy53⟩) (by assumption) ?rest53
      case hy53 => (intro w hSw; (try dsimp only at hSw); go_simp; try (with_reducible rfl))
      case rest53 =>
      try simp only [Act.put, List.setIfInBounds_toArray, List.set_cons_zero, List.set_cons_succ]
      refine wpAnyH_done (by kernel_rfl) ?_ _
      dsimp only [noP]
      clear hq4 hq3 hsl hsw
      go_wp2_with fail
      go_meet
      case rel => exact ⟨rfl, D1⟩
  case rest =>
  clear D1
  obtain ⟨rfl, D1⟩ := hcut
  go_upto_if 135 with fail
  rename_i KF hKF
  have htail : ∀ (W : World) (s2 : Sh) (lv2 : Value) (L2 : List RR) (Ds : List Nat) (y20 y21 y22 y23 y24 y25 y26 y27 y28 y29 y30 y31 y32 y33 y34 y35 y36 y37 y38 y39 y40 y41 y42 y43 y44 y45 y46 y47 y48 y49 y50 y51 y52 y53 y54 y55 y56 y57 y58 y59 y60 y61 y62 y63 y64 y65 y66 y67 y68 y69 y70 y71 y72 y73 y74 y75 y76 y77 y78 y79 y80 y81 y82 y83 y84 y85 y86 y87 y88 y89 y90 y91 y92 y93 y94 y95 y96 y97 y98 y99 y100 y101 y102 y103 y104 y105 y106 y107 y108 y109 y110 y111 y112 y113 y114 y115 y116 y117 y118 y119 y120 y121 y122 y123 y124 y125 y126 y127 y128 y129 y130 y131 y132 y133 y134 y135 y136 y137 y138 y139 y140 y141 y142 y143 y144 y145 y146 y147 y148 y149 y150 y151 y152 y153 y154 y155 y156 y157 y158 y159 y160 y161 y162 y163 y164 y165 y166 y167 : Value), Hd (DI w W b0 g (g + 1) v s2 lv2 L2 row col Ds) → s2 = dr.s → Ds.Nodup → KF { tmps := #[.agg #[.int .i64 v.rows, .int .i64 v.cols, .string v.left, .string v.right, .string v.ghost, .string v.text, .int .i64 v.at_], .pointer (some ⟨b0, 0, none⟩), .slice none 0 0, .pointer (some ⟨b0 + 1, 0, none⟩), .pointer (some ⟨b0 + 1 + 1, 0, none⟩), .bool (hasR cols v s'), .int .i64 (rows : Int), .int .i64 (cols : Int), .pointer (some ⟨g + 1, 0, none⟩), .string lf, .string tx, undef, undef, .pointer (some ⟨ba, 0, none⟩), undef, undef, undef, undef, .int .i64 (firstC cols v s' : Int), .string pr, y20, y21, y22, y23, y24, y25, y26, y27, y28, y29, y30, y31, y32, y33, y34, y35, y36, y37, y38, y39, y40, y41, y42, y43, y44, y45, y46, y47, y48, y49, y50, y51, y52, y53, y54, y55, y56, y57, y58, y59, y60, y61, y62, y63, y64, y65, y66, y67, y68, y69, y70, y71, y72, y73, y74, y75, y76, y77, y78, y79, y80, y81, y82, y83, y84, y85, y86, y87, y88, y89, y90, y91, y92, y93, y94, y95, y96, y97, y98, y99, y100, y101, y102, y103, y104, y105, y106, y107, y108, y109, y110, y111, y112, y113, y114, y115, y116, y117, y118, y119, y120, y121, y122, y123, y124, y125, y126, y127, y128, y129, y130, y131, y132, y133, y134, y135, y136, y137, y138, y139, y140, y141, y142, y143, y144, y145, y146, y147, y148, y149, y150, y151, y152, y153, y154, y155, y156, y157, y158, y159, y160, y161, y162, y163, y164, y165, y166, y167], defers := Ds.map fun D => { target := .collected D, args := #[] } } W := by
    intro W s2 lv2 L2 Ds y20 y21 y22 y23 y24 y25 y26 y27 y28 y29 y30 y31 y32 y33 y34 y35 y36 y37 y38 y39 y40 y41 y42 y43 y44 y45 y46 y47 y48 y49 y50 y51 y52 y53 y54 y55 y56 y57 y58 y59 y60 y61 y62 y63 y64 y65 y66 y67 y68 y69 y70 y71 y72 y73 y74 y75 y76 y77 y78 y79 y80 y81 y82 y83 y84 y85 y86 y87 y88 y89 y90 y91 y92 y93 y94 y95 y96 y97 y98 y99 y100 y101 y102 y103 y104 y105 y106 y107 y108 y109 y110 y111 y112 y113 y114 y115 y116 y117 y118 y119 y120 y121 y122 y123 y124 y125 y126 y127 y128 y129 y130 y131 y132 y133 y134 y135 y136 y137 y138 y139 y140 y141 y142 y143 y144 y145 y146 y147 y148 y149 y150 y151 y152 y153 y154 y155 y156 y157 y158 y159 y160 y161 y162 y163 y164 y165 y166 y167 D1 hs2 hnd
    refine hKF _ _ ?_
    dsimp only
    go_upto_region 30 with fail
    rename_i KQ hKQ
    refine wp_mono ?_ noP_le
    refine regionH (fun w' : World => w'.cell? ⟨g + 1, 0, none⟩ = some (.pointer (some ⟨g, 0, none⟩)) ∧ w'.cell? ⟨g, 1, none⟩ = some lv2 ∧ w'.cell? ⟨b0 + 1, 0, none⟩ = some (.int .i64 (row : Int)) ∧ w'.cell? ⟨b0 + 1 + 1, 0, none⟩ = some (.int .i64 (col : Int))) (by kernel_rfl) (fun wd hb => ?_)
    replace D1 := Hd.mk (D1.out.below hb)
    clear hb
    have hHd : (fun w' : World => w'.cell? ⟨g + 1, 0, none⟩ = some (.pointer (some ⟨g, 0, none⟩)) ∧ w'.cell? ⟨g, 1, none⟩ = some lv2 ∧ w'.cell? ⟨b0 + 1, 0, none⟩ = some (.int .i64 (row : Int)) ∧ w'.cell? ⟨b0 + 1 + 1, 0, none⟩ = some (.int .i64 (col : Int))) wd := ⟨D1.out.sb.cell 0 rfl, D1.out.x.b.cell 1 rfl, D1.out.rb.cell 0 rfl, D1.out.cb.cell 0 rfl⟩
    refine takeH (i := 0) (v := ?v54) rfl (by kernel_rfl) (by kernel_rfl) (by kernel_rfl) (fun _ _ _ h => h) (Or.inl ⟨by rfl, ?hy54⟩) (by assumption) ?rest54
    case hy54 => (intro w hSw; (try dsimp only at hSw); go_simp; try (with_reducible rfl))
    case rest54 =>
    try simp only [Act.put, List.setIfInBounds_toArray, List.set_cons_zero, List.set_cons_succ]
    refine takeH (i := 1) (v := ?v55) rfl (by kernel_rfl) (by kernel_rfl) (by kernel_rfl) (fun _ _ _ h => h) (Or.inl ⟨by rfl, ?hy55⟩) (by assumption) ?rest55
    case hy55 => (intro w hSw; (try dsimp only at hSw); go_simp; try (with_reducible rfl))
    case rest55 =>
    try simp only [Act.put, List.setIfInBounds_toArray, List.set_cons_zero, List.set_cons_succ]
    refine takeH (i := 2) (v := ?v56) rfl (by kernel_rfl) (by kernel_rfl) (by kernel_rfl) (fun _ _ _ h => h) (Or.inl ⟨by rfl, ?hy56⟩) (by assumption) ?rest56
    case hy56 => (intro w hSw; (try dsimp only at hSw); go_simp; try (with_reducible rfl))
    case rest56 =>
    try simp only [Act.put, List.setIfInBounds_toArray, List.set_cons_zero, List.set_cons_succ]
    refine takeH (i := 3) (v := ?v57) rfl (by kernel_rfl) (by kernel_rfl) (by kernel_rfl) (fun _ _ _ h => h) (Or.inl ⟨by rfl, ?hy57⟩) (by assumption) ?rest57
    case hy57 => (intro w hSw; (try dsimp only at hSw); go_simp; try (with_reducible rfl))
    case rest57 =>
    try simp only [Act.put, List.setIfInBounds_toArray, List.set_cons_zero, List.set_cons_succ]
    refine takeH (i := 4) (v := ?v58) rfl (by kernel_rfl) (by kernel_rfl) (by kernel_rfl) (fun _ _ _ h => h) (Or.inl ⟨by rfl, ?hy58⟩) (by assumption) ?rest58
    case hy58 => (intro w hSw; (try dsimp only at hSw); go_simp; try (with_reducible rfl))
    case rest58 =>
    try simp only [Act.put, List.setIfInBounds_toArray, List.set_cons_zero, List.set_cons_succ]
    refine takeH (i := 5) (v := ?v59) rfl (by kernel_rfl) (by kernel_rfl) (by kernel_rfl) (fun _ _ _ h => h) (Or.inl ⟨by rfl, ?hy59⟩) (by assumption) ?rest59
    case hy59 => (intro w hSw; (try dsimp only at hSw); go_simp; try (with_reducible rfl))
    case rest59 =>
    try simp only [Act.put, List.setIfInBounds_toArray, List.set_cons_zero, List.set_cons_succ]
    refine takeH (i := 6) (v := ?v60) rfl (by kernel_rfl) (by kernel_rfl) (by kernel_rfl) (fun _ _ _ h => h) (Or.inl ⟨by rfl, ?hy60⟩) (by assumption) ?rest60
    case hy60 => (intro w hSw; (try dsimp only at hSw); go_simp; try (with_reducible rfl))
    case rest60 =>
    try simp only [Act.put, List.setIfInBounds_toArray, List.set_cons_zero, List.set_cons_succ]
    refine takeH (i := 7) (v := ?v61) rfl (by kernel_rfl) (by kernel_rfl) (by kernel_rfl) (fun _ _ _ h => h) (Or.inl ⟨by rfl, ?hy61⟩) (by assumption) ?rest61
    case hy61 => (intro w hSw; (try dsimp only at hSw); go_simp; try (with_reducible rfl))
    case rest61 =>
    try simp only [Act.put, List.setIfInBounds_toArray, List.set_cons_zero, List.set_cons_succ]
    refine wpAnyH_ready (rs := [8]) (by kernel_rfl) (by simp) ?_
    refine consH rfl (fun K hK => ?_) AllReadyH.nil
    rw [if_pos (by first | rfl | (go_simp; done) | (go_simp; rfl))]
    refine cell_step rfl rfl (g := b0 + 1) (i := 0) (v := .int .i64 (row : Int)) (by first | rfl | (go_simp; done) | (go_simp; rfl)) (by first | rfl | (go_simp; done) | (go_simp; rfl)) (D1.out.rb.cell 0 rfl) (D1.out.rb.frozen 0) infoInt1 rfl ?_
    replace D1 := Hd.mk (D1.out.setr row)
    clear hHd
    have hHd : (fun w' : World => w'.cell? ⟨g + 1, 0, none⟩ = some (.pointer (some ⟨g, 0, none⟩)) ∧ w'.cell? ⟨g, 1, none⟩ = some lv2 ∧ w'.cell? ⟨b0 + 1, 0, none⟩ = some (.int .i64 (row : Int)) ∧ w'.cell? ⟨b0 + 1 + 1, 0, none⟩ = some (.int .i64 (col : Int))) _ := ⟨D1.out.sb.cell 0 rfl, D1.out.x.b.cell 1 rfl, D1.out.rb.cell 0 rfl, D1.out.cb.cell 0 rfl⟩
    refine hK.out _ _ hHd ?_
    clear hK K
    try simp only [Act.put, List.setIfInBounds_toArray, List.set_cons_zero, List.set_cons_succ]
    refine wpAnyH_ready (rs := [9]) (by kernel_rfl) (by simp) ?_
    refine consH rfl (fun K hK => ?_) AllReadyH.nil
    rw [if_pos (by first | rfl | (go_simp; done) | (go_simp; rfl))]
    refine cell_step rfl rfl (g := b0 + 1 + 1) (i := 0) (v := .int .i64 (col : Int)) (by first | rfl | (go_simp; done) | (go_simp; rfl)) (by first | rfl | (go_simp; done) | (go_simp; rfl)) (D1.out.cb.cell 0 rfl) (D1.out.cb.frozen 0) infoInt1 rfl ?_
    replace D1 := Hd.mk (D1.out.setc col)
    clear hHd
    have hHd : (fun w' : World => w'.cell? ⟨g + 1, 0, none⟩ = some (.pointer (some ⟨g, 0, none⟩)) ∧ w'.cell? ⟨g, 1, none⟩ = some lv2 ∧ w'.cell? ⟨b0 + 1, 0, none⟩ = some (.int .i64 (row : Int)) ∧ w'.cell? ⟨b0 + 1 + 1, 0, none⟩ = some (.int .i64 (col : Int))) _ := ⟨D1.out.sb.cell 0 rfl, D1.out.x.b.cell 1 rfl, D1.out.rb.cell 0 rfl, D1.out.cb.cell 0 rfl⟩
    refine hK.out _ _ hHd ?_
    clear hK K
    try simp only [Act.put, List.setIfInBounds_toArray, List.set_cons_zero, List.set_cons_succ]
    refine takeH (i := 10) (v := ?v62) rfl (by kernel_rfl) (by kernel_rfl) (by kernel_rfl) (fun _ _ _ h => h) (Or.inl ⟨by rfl, ?hy62⟩) (by assumption) ?rest62
    case hy62 => (intro w hSw; (try dsimp only at hSw); go_simp; try (with_reducible rfl))
    case rest62 =>
    try simp only [Act.put, List.setIfInBounds_toArray, List.set_cons_zero, List.set_cons_succ]
    refine wpAnyH_done (by kernel_rfl) ?_ _
    refine hKQ _ _ ?_
    clear hHd
    generalize ((wd.setCell ⟨b0 + 1, 0, none⟩ (.int .i64 (row : Int))).setCell ⟨b0 + 1 + 1, 0, none⟩ (.int .i64 (col : Int))) = w20 at *
    go_wp2
    have hnc : ∀ (b : Nat) (t : TypeId) (cs : Array Value), Blk w20 b t cs → b ∉ Ds := fun b t cs hb hm => by
      have h1 := (D1.out.d b hm).2
      unfold Blk at hb
      rw [hb] at h1
      cases h1
    refine leaves_marks Ds w20 hnd (fun D hD => (D1.out.d D hD).2) (fun W' ho => ?_)
    refine ⟨_, results4 rfl rfl rfl rfl rfl ((D1.out.rb.to (ho.block _ D1.out.rb.lt (hnc _ _ _ D1.out.rb))).cell 0 rfl) ((D1.out.cb.to (ho.block _ D1.out.cb.lt (hnc _ _ _ D1.out.cb))).cell 0 rfl), ?_⟩
    refine ⟨lv2, L2, by rw [HDR.out]; rfl, ?_, ?_⟩
    · rw [← hs2, hb0]
      exact (RowsO.move D1.out.x.r (fun k hk hl => ho.block k hl (fun hm => by
        obtain ⟨cs, t, hc, _⟩ := D1.out.x.cells hk
        rw [(D1.out.d k hm).2] at hc
        cases hc))).mono (fun k hk => D1.out.f k hk)
    · rw [hb0]
      exact D1.out.b.trans (ho.to_below (fun k hk => (D1.out.d k hk).1) D1.out.sz)
  clear hKF
  cases hR : hasR cols v s' with
  | false =>
    rw [hR] at htail HDR
    go_wp2_with fail
    exact htail wc s' _ L [D2, D] _ _ _ _ _ _ _ _ _ _ _ _ _ _ _ _ _ _ _ _ _ _ _ _ _ _ _ _ _ _ _ _ _ _ _ _ _ _ _ _ _ _ _ _ _ _ _ _ _ _ _ _ _ _ _ _ _ _ _ _ _ _ _ _ _ _ _ _ _ _ _ _ _ _ _ _ _ _ _ _ _ _ _ _ _ _ _ _ _ _ _ _ _ _ _ _ _ _ _ _ _ _ _ _ _ _ _ _ _ _ _ _ _ _ _ _ _ _ _ _ _ _ _ _ _ _ _ _ _ _ _ _ _ _ _ _ _ _ _ _ _ _ _ _ _ _ _ _ D1 (by rw [HDR.out]; rfl) (by simp; exact fun e => hDD e.symm)
  | true =>
    rw [hR] at htail HDR HRS
    have hRB := HRS.out.symm
    rw [Bool.and_eq_true, decide_eq_true_eq, decide_eq_true_eq] at hRB
    have hsw : sumW pr ≤ cols := by omega
    obtain ⟨x0, hx0⟩ : ∃ x, cols - sumW pr = x := ⟨_, rfl⟩
    go_upto_region 26 with fail
    go_cut [20] from 22 to 167 (fun v20 wx => ∃ bx : Nat, v20 = .pointer (some ⟨bx, 0, none⟩) ∧ b0 + 1 + 1 < bx ∧ Hd (Blk wx bx 3 #[.int .i64 (x0 : Int)]) ∧ Hd (DI w wx b0 g (g + 1) v s' (.slice Ap s'.l.length cp) L row col [D2, D]))
    case first =>
      refine wp_mono ?_ noP_le
      refine regionH (fun w' : World => w'.cell? ⟨g + 1, 0, none⟩ = some (.pointer (some ⟨g, 0, none⟩)) ∧ w'.cell? ⟨g, 0, none⟩ = some (.int .i64 (cols : Int))) (by kernel_rfl) (fun wd hb => ?_)
      replace D1 := Hd.mk (D1.out.below hb)
      clear hb
      have hHd : (fun w' : World => w'.cell? ⟨g + 1, 0, none⟩ = some (.pointer (some ⟨g, 0, none⟩)) ∧ w'.cell? ⟨g, 0, none⟩ = some (.int .i64 (cols : Int))) wd := ⟨D1.out.sb.cell 0 rfl, by rw [← HMO.out.2.1]; exact D1.out.x.b.cell 0 rfl⟩
      have k1 : (cols : Int) - (sumW pr : Int) = (x0 : Int) := by omega
      have k2 : (x0 : Int) ≤ 120 := by omega
      refine takeH (i := 0) (v := ?v63) rfl (by kernel_rfl) (by kernel_rfl) (by kernel_rfl) (fun _ _ _ h => h) (Or.inl ⟨by rfl, ?hy63⟩) (by assumption) ?rest63
      case hy63 => (intro w hSw; (try dsimp only at hSw); go_simp; try (with_reducible rfl))
      case rest63 =>
      try simp only [Act.put, List.setIfInBounds_toArray, List.set_cons_zero, List.set_cons_succ]
      refine takeH (i := 1) (v := ?v64) rfl (by kernel_rfl) (by kernel_rfl) (by kernel_rfl) (fun _ _ _ h => h) (Or.inl ⟨by rfl, ?hy64⟩) (by assumption) ?rest64
      case hy64 => (intro w hSw; (try dsimp only at hSw); go_simp; try (with_reducible rfl))
      case rest64 =>
      try simp only [Act.put, List.setIfInBounds_toArray, List.set_cons_zero, List.set_cons_succ]
      refine takeH (i := 2) (v := ?v65) rfl (by kernel_rfl) (by kernel_rfl) (by kernel_rfl) (fun _ _ _ h => h) (Or.inl ⟨by rfl, ?hy65⟩) (by assumption) ?rest65
      case hy65 => (intro w hSw; (try dsimp only at hSw); go_simp; try (with_reducible rfl))
      case rest65 =>
      try simp only [Act.put, List.setIfInBounds_toArray, List.set_cons_zero, List.set_cons_succ]
      refine takeH (i := 3) (v := ?v66) rfl (by kernel_rfl) (by kernel_rfl) (by kernel_rfl) (fun _ _ _ h => h) (Or.inl ⟨by rfl, ?hy66⟩) (by assumption) ?rest66
      case hy66 => (intro w hSw; (try dsimp only at hSw); go_simp; try (with_reducible rfl))
      case rest66 =>
      try simp only [Act.put, List.setIfInBounds_toArray, List.set_cons_zero, List.set_cons_succ]
      refine takeH (i := 4) (v := ?v67) rfl (by kernel_rfl) (by kernel_rfl) (by kernel_rfl) (fun _ _ _ h => h) (Or.inl ⟨by rfl, ?hy67⟩) (by assumption) ?rest67
      case hy67 => (intro w hSw; (try dsimp only at hSw); go_simp; try (with_reducible rfl))
      case rest67 =>
      try simp only [Act.put, List.setIfInBounds_toArray, List.set_cons_zero, List.set_cons_succ]
      refine wpAnyH_ready (rs := [5, 7]) (by kernel_rfl) (by simp) ?_
      refine consH rfl (fun K hK => ?_) (consH rfl (fun K hK => ?_) AllReadyH.nil)
      · go_simp
        go_at_call 29
        with_reducible refine (sum_calls pr hpr _).mono ?_
        rintro _ w29 ⟨rfl, hb⟩
        replace D1 := Hd.mk (D1.out.below hb)
        clear hb hHd
        have hHd : (fun w' : World => w'.cell? ⟨g + 1, 0, none⟩ = some (.pointer (some ⟨g, 0, none⟩)) ∧ w'.cell? ⟨g, 0, none⟩ = some (.int .i64 (cols : Int))) w29 := ⟨D1.out.sb.cell 0 rfl, by rw [← HMO.out.2.1]; exact D1.out.x.b.cell 0 rfl⟩
        go_simp
        refine hK.out _ _ hHd ?_
        clear hK K
        try simp only [Act.put, List.setIfInBounds_toArray, List.set_cons_zero, List.set_cons_succ]
        refine takeH (i := 6) (v := .int .i64 (x0 : Int)) rfl (by kernel_rfl) (by kernel_rfl) (by kernel_rfl) (fun _ _ _ h => h) (Or.inl ⟨by rfl, ?hy68⟩) (by assumption) ?rest68
        case hy68 => (intro w hSw; (try dsimp only at hSw); clear hSw; go_simp; rw [IntKind.wrap_i64]; omega)
        case rest68 =>
        try simp only [Act.put, List.setIfInBounds_toArray, List.set_cons_zero, List.set_cons_succ]
        refine wpAnyH_ready (rs := [7]) (by kernel_rfl) (by simp) ?_
        refine consH rfl (fun K hK => ?_) AllReadyH.nil
        refine exec_step (by first | rfl | (go_simp; done) | (go_simp; rfl)) (v := .pointer (some ⟨w29.heap.size, 0, none⟩)) (W' := w29.alloc (.cells #[.int .i64 0] 3)) (by first | (go_simp; done) | (go_simp; rfl)) ?_
        have hal := below_alloc (Below.refl _ w29) (.cells #[.int .i64 0] 3)
        have N0 := Hd.mk (Blk.new w29 3 #[.int .i64 0])
        have hbx : b0 + 1 + 1 < w29.heap.size := D1.out.cb.lt
        replace D1 := Hd.mk (D1.out.below hal)
        clear hal hHd
        have hHd : (fun w' : World => w'.cell? ⟨g + 1, 0, none⟩ = some (.pointer (some ⟨g, 0, none⟩)) ∧ w'.cell? ⟨g, 0, none⟩ = some (.int .i64 (cols : Int))) _ := ⟨D1.out.sb.cell 0 rfl, by rw [← HMO.out.2.1]; exact D1.out.x.b.cell 0 rfl⟩
        generalize hbn : w29.heap.size = bx at *
        generalize w29.alloc (.cells #[.int .i64 0] 3) = w30 at *
        refine hK.out _ _ hHd ?_
        clear hK K
        try simp only [Act.put, List.setIfInBounds_toArray, List.set_cons_zero, List.set_cons_succ]
        refine wpAnyH_ready (rs := [8]) (by kernel_rfl) (by simp) ?_
        refine consH rfl (fun K hK => ?_) AllReadyH.nil
        rw [if_pos (by first | rfl | (go_simp; done) | (go_simp; rfl))]
        refine cell_step rfl rfl (g := bx) (i := 0) (v := .int .i64 (x0 : Int)) (by first | rfl | (go_simp; done) | (go_simp; rfl)) (by first | rfl | (go_simp; done) | (go_simp; rfl)) (N0.out.cell 0 rfl) (N0.out.frozen 0) infoInt1 rfl ?_
        have D3 := Hd.mk (D1.out.set_ N0.out (by omega) (by omega) (by omega) (.int .i64 (x0 : Int)))
        have N1 := Hd.mk (show Blk (w30.setCell ⟨bx, 0, none⟩ (.int .i64 (x0 : Int))) bx 3 #[.int .i64 (x0 : Int)] from N0.out.set_ 0 _)
        have hHd2 : (fun w' : World => w'.cell? ⟨g + 1, 0, none⟩ = some (.pointer (some ⟨g, 0, none⟩)) ∧ w'.cell? ⟨g, 0, none⟩ = some (.int .i64 (cols : Int))) (w30.setCell ⟨bx, 0, none⟩ (.int .i64 (x0 : Int))) := ⟨D3.out.sb.cell 0 rfl, by rw [← HMO.out.2.1]; exact D3.out.x.b.cell 0 rfl⟩
        refine hK.out _ _ hHd2 ?_
        clear hK K
        try simp only [Act.put, List.setIfInBounds_toArray, List.set_cons_zero, List.set_cons_succ]
        refine wpAnyH_done (by kernel_rfl) ?_ _
        dsimp only [noP]
        clear hHd hHd2 D1 N0
        generalize w30.setCell ⟨bx, 0, none⟩ (.int .i64 (x0 : Int)) = w31 at *
        go_wp2_with fail
        go_meet
        case rel => exact ⟨bx, rfl, hbx, N1, D3⟩
      · refine exec_step (by first | rfl | (go_simp; done) | (go_simp; rfl)) (v := .pointer (some ⟨wd.heap.size, 0, none⟩)) (W' := wd.alloc (.cells #[.int .i64 0] 3)) (by first | (go_simp; done) | (go_simp; rfl)) ?_
        have hal := below_alloc (Below.refl _ wd) (.cells #[.int .i64 0] 3)
        have N0 := Hd.mk (Blk.new wd 3 #[.int .i64 0])
        have hbx : b0 + 1 + 1 < wd.heap.size := D1.out.cb.lt
        replace D1 := Hd.mk (D1.out.below hal)
        clear hal hHd
        have hHd : (fun w' : World => w'.cell? ⟨g + 1, 0, none⟩ = some (.pointer (some ⟨g, 0, none⟩)) ∧ w'.cell? ⟨g, 0, none⟩ = some (.int .i64 (cols : Int))) _ := ⟨D1.out.sb.cell 0 rfl, by rw [← HMO.out.2.1]; exact D1.out.x.b.cell 0 rfl⟩
        generalize hbn : wd.heap.size = bx at *
        generalize wd.alloc (.cells #[.int .i64 0] 3) = w30 at *
        refine hK.out _ _ hHd ?_
        clear hK K
        try simp only [Act.put, List.setIfInBounds_toArray, List.set_cons_zero, List.set_cons_succ]
        refine wpAnyH_ready (rs := [5]) (by kernel_rfl) (by simp) ?_
        refine consH rfl (fun K hK => ?_) AllReadyH.nil
        go_simp
        go_at_call 29
        with_reducible refine (sum_calls pr hpr _).mono ?_
        rintro _ w32 ⟨rfl, hb⟩
        replace D1 := Hd.mk (D1.out.below hb)
        replace N0 := Hd.mk (N0.out.to (hb.block _ N0.out.lt))
        clear hb hHd
        have hHd : (fun w' : World => w'.cell? ⟨g + 1, 0, none⟩ = some (.pointer (some ⟨g, 0, none⟩)) ∧ w'.cell? ⟨g, 0, none⟩ = some (.int .i64 (cols : Int))) w32 := ⟨D1.out.sb.cell 0 rfl, by rw [← HMO.out.2.1]; exact D1.out.x.b.cell 0 rfl⟩
        go_simp
        refine hK.out _ _ hHd ?_
        clear hK K
        try simp only [Act.put, List.setIfInBounds_toArray, List.set_cons_zero, List.set_cons_succ]
        refine takeH (i := 6) (v := .int .i64 (x0 : Int)) rfl (by kernel_rfl) (by kernel_rfl) (by kernel_rfl) (fun _ _ _ h => h) (Or.inl ⟨by rfl, ?hy69⟩) (by assumption) ?rest69
        case hy69 => (intro w hSw; (try dsimp only at hSw); clear hSw; go_simp; rw [IntKind.wrap_i64]; omega)
        case rest69 =>
        try simp only [Act.put, List.setIfInBounds_toArray, List.set_cons_zero, List.set_cons_succ]
        refine wpAnyH_ready (rs := [8]) (by kernel_rfl) (by simp) ?_
        refine consH rfl (fun K hK => ?_) AllReadyH.nil
        rw [if_pos (by first | rfl | (go_simp; done) | (go_simp; rfl))]
        refine cell_step rfl rfl (g := bx) (i := 0) (v := .int .i64 (x0 : Int)) (by first | rfl | (go_simp; done) | (go_simp; rfl)) (by first | rfl | (go_simp; done) | (go_simp; rfl)) (N0.out.cell 0 rfl) (N0.out.frozen 0) infoInt1 rfl ?_
        have D3 := Hd.mk (D1.out.set_ N0.out (by omega) (by omega) (by omega) (.int .i64 (x0 : Int)))
        have N1 := Hd.mk (show Blk (w32.setCell ⟨bx, 0, none⟩ (.int .i64 (x0 : Int))) bx 3 #[.int .i64 (x0 : Int)] from N0.out.set_ 0 _)
        have hHd2 : (fun w' : World => w'.cell? ⟨g + 1, 0, none⟩ = some (.pointer (some ⟨g, 0, none⟩)) ∧ w'.cell? ⟨g, 0, none⟩ = some (.int .i64 (cols : Int))) (w32.setCell ⟨bx, 0, none⟩ (.int .i64 (x0 : Int))) := ⟨D3.out.sb.cell 0 rfl, by rw [← HMO.out.2.1]; exact D3.out.x.b.cell 0 rfl⟩
        refine hK.out _ _ hHd2 ?_
        clear hK K
        try simp only [Act.put, List.setIfInBounds_toArray, List.set_cons_zero, List.set_cons_succ]
        refine wpAnyH_done (by kernel_rfl) ?_ _
        dsimp only [noP]
        clear hHd hHd2 D1 N0
        generalize w32.setCell ⟨bx, 0, none⟩ (.int .i64 (x0 : Int)) = w31 at *
        go_wp2_with fail
        go_meet
        case rel => exact ⟨bx, rfl, hbx, N1, D3⟩
    case rest =>
    clear D1
    obtain ⟨bx, rfl, hbx, N0, D1⟩ := hcut
    go_wp2_with fail
    go_at_call 25
    refine ((callsIn_wide (n := 5)).1 (each_in _ pr _)).mono ?_
    rintro e w' ⟨rfl, rfl⟩
    go_wp2_with fail
    have bN := Boxed.new wc 9 (.string pr)
    have hbn := below_alloc (Below.refl _ wc) (.cells #[.string pr] 9)
    have hbx3 := N0.out.lt
    replace D1 := Hd.mk (D1.out.below hbn)
    replace N0 := Hd.mk (N0.out.to (hbn.block _ hbx3))
    obtain ⟨Bn, hBn⟩ : ∃ b, wc.heap.size = b := ⟨_, rfl⟩
    have hsz : (wc.alloc (.cells #[.string pr] 9)).heap.size = Bn + 1 ∧ bx < Bn := ⟨by rw [← hBn]; simp, by rw [← hBn]; exact hbx3⟩
    rw [hBn] at bN ⊢
    clear hbn hbx3
    generalize wc.alloc (.cells #[.string pr] 9) = w40 at *
    have hck3 := eachL_ck hpr
    have hPK : PK (s', x0) := ⟨fun r hr => by have h := (HMO.out.1 r hr).1; rw [HMO.out.2.1]; exact h, HMO.out.2.2.1, by show x0 ≤ s'.cols; rw [HMO.out.2.1]; omega⟩
    have hPKl := fun (l : List (Nat × ByteArray)) => PK.all l (s', x0) hPK
    have hDs : D < Bn + 1 ∧ D2 < Bn + 1 ∧ b0 ≤ Bn := ⟨by have := (Array.getElem?_eq_some_iff.1 (D1.out.d D (by simp)).2).1; omega, by have := (Array.getElem?_eq_some_iff.1 (D1.out.d D2 (by simp)).2).1; omega, by omega⟩
    have hsc := HMO.out.2.1
    refine (wpIn_wide (n := 5)).1 ?_
    refine wpIn_rangeFunc_ownF rfl (by decide) (gf := 43) (lb := #[.pointer (some ⟨Bn, 0, none⟩)]) rfl trivial (enters_of Tryd.func43 (by kernel_rfl) rfl)
      (each_mem 4 (by decide) Bn pr (by omega) w40 (by omega) bN.cell) KpE.t (KpE.b (by omega)) (Below.refl _ _) (fun _ => rfl)
      (fun pre W => DI w W b0 g (g + 1) v (promptT s' x0 (valC pr pre)).1 (.slice Ap s'.l.length cp) L row col [D2, D] ∧ Blk W bx 3 #[.int .i64 ((promptT s' x0 (valC pr pre)).2 : Int)] ∧ Boxed W Bn 9 (.string pr))
      (fun _ _ _ => False)
      (fun pre A B row_ hs hg hr => ⟨hs.1.grown hg hr (by omega) (fun E hE => by
        rcases List.mem_cons.1 hE with e | hE
        · omega
        · rw [List.mem_singleton.1 hE]; omega), Blk.grown_ hs.2.1 hg (fun r e => (hr r e).2), Blk.grown_ hs.2.2 hg (fun r e => (hr r e).2)⟩)
      (fun _ _ _ _ _ hs _ _ => hs)
      ⟨D1.out, N0.out, bN⟩
      (fun x => { tmps := #[.agg #[.int .i64 v.rows, .int .i64 v.cols, .string v.left, .string v.right, .string v.ghost, .string v.text, .int .i64 v.at_], .pointer (some ⟨b0, 0, none⟩), .slice none 0 0, .pointer (some ⟨b0 + 1, 0, none⟩), .pointer (some ⟨b0 + 1 + 1, 0, none⟩), .bool true, .int .i64 (rows : Int), .int .i64 (cols : Int), .pointer (some ⟨g + 1, 0, none⟩), .string lf, .string tx, undef, undef, .pointer (some ⟨ba, 0, none⟩), undef, undef, undef, undef, .int .i64 (firstC cols v s' : Int), .string pr, .pointer (some ⟨bx, 0, none⟩), undef, .string x.1.2, u23, u24, u25, u26, u27, u28, u29, u30, u31, u32, u33, u34, u35, u36, u37, u38, u39, u40, u41, u42, u43, u44, u45, u46, u47, u48, u49, u50, u51, u52, u53, u54, u55, u56, u57, u58, u59, u60, u61, u62, u63, u64, u65, u66, u67, u68, u69, u70, u71, u72, u73, u74, u75, u76, u77, u78, u79, u80, u81, u82, u83, u84, u85, u86, u87, u88, u89, u90, u91, u92, u93, u94, u95, u96, u97, u98, u99, u100, u101, u102, u103, u104, u105, u106, u107, u108, u109, u110, u111, u112, u113, u114, u115, u116, u117, u118, u119, u120, u121, u122, u123, u124, u125, u126, u127, u128, u129, u130, u131, u132, u133, u134, u135, u136, u137, u138, u139, u140, u141, u142, .string pr, .func (.func 43) #[] #[.pointer (some ⟨Bn, 0, none⟩)], .int .i64 x.1.1, .string x.1.2, u147, u148, u149, u150, u151, u152, u153, u154, u155, u156, u157, u158, u159, u160, u161, u162, u163, u164, u165, u166, u167], defers := [] }) ?assign ?body ?done ?stop
    case assign =>
      intro l x W K hK
      dsimp only [encC, encE]
      gi_wp2
      exact hK
    case stop =>
      rintro D c pre W _ _ h _
      exact h.elim
    case done =>
      rintro D3 ys W hD0 hys ⟨hD, hA, hN⟩ hK
      rw [hys] at hD
      have hD4 := Hd.mk (hD.more (show b0 ≤ D3 by omega) hK)
      refine htail W _ _ L [D3, D2, D] _ _ _ _ _ _ _ _ _ _ _ _ _ _ _ _ _ _ _ _ _ _ _ _ _ _ _ _ _ _ _ _ _ _ _ _ _ _ _ _ _ _ _ _ _ _ _ _ _ _ _ _ _ _ _ _ _ _ _ _ _ _ _ _ _ _ _ _ _ _ _ _ _ _ _ _ _ _ _ _ _ _ _ _ _ _ _ _ _ _ _ _ _ _ _ _ _ _ _ _ _ _ _ _ _ _ _ _ _ _ _ _ _ _ _ _ _ _ _ _ _ _ _ _ _ _ _ _ _ _ _ _ _ _ _ _ _ _ _ _ _ _ _ _ _ _ _ _ hD4 ?_ ?_
      · rw [promptT_eq _ _ _ (by rw [hsc]; omega) (by rw [hsc]; unfold sumW at *; omega), HDR.out, hx0]
        rfl
      · simp
        exact ⟨⟨by omega, by omega⟩, fun e => hDD e.symm⟩
    case body =>
      rintro l pre x W ⟨hD, hA, hN⟩ hlt
      have hx := hck3 x.1 x.2
      obtain ⟨k1, k2, k3⟩ := hPKl (valC pr pre)
      have hpe : promptT s' x0 (valC pr (pre ++ [x])) = promptS (promptT s' x0 (valC pr pre)) x.1.2 := by rw [valC_snoc]; exact promptT_snoc ..
      change PK (promptT s' x0 (valC pr pre)) at k1
      change (promptT s' x0 (valC pr pre)).1.cols = s'.cols at k2
      change (promptT s' x0 (valC pr pre)).1.l.length = s'.l.length at k3
      generalize promptT s' x0 (valC pr pre) = q at *
      obtain ⟨q, at_⟩ := q
      dsimp only at *
      rw [hsc] at k2
      have hrow : 0 < q.l.length := k1.n
      obtain ⟨cc, ad, r, e, hcs, hrw, hrp, hrg, hrb, hLi, hf⟩ := ShO.look hD.x hrow
      rw [k3] at e
      cases e
      have hrl := k1.rows _ (List.getElem_mem hrow)
      dsimp only at hrl
      have hat : at_ ≤ cols := by have h := k1.x; dsimp only at h; omega
      obtain ⟨n4, c4⟩ : r.n = cols ∧ cols ≤ r.c := ⟨by rw [hrw.1, hrl, k2], by have := hrw.2.1; rw [hrw.1, hrl, k2] at this; exact this⟩
      have HL4 := Hd.mk hLi
      obtain ⟨p, hp⟩ : ∃ p, p = if r.c = at_ then 0 else at_ * 3 := ⟨_, rfl⟩
      have HPP := Hd.mk hp
      clear hcs hrw hrp hrg hrb hLi hf hp
      gi_wp2
      refine roundK (fun w' : World => w'.cell? ⟨bx, 0, none⟩ = some (.int .i64 (at_ : Int)) ∧ w'.cell? ⟨g + 1, 0, none⟩ = some (.pointer (some ⟨g, 0, none⟩)) ∧ w'.cell? ⟨g, 1, none⟩ = some (.slice (some ad) s'.l.length cp) ∧ w'.cell? ad = some (.slice (some ⟨r.g, 0, none⟩) cols r.c)) 14 (by kernel_rfl) (by kernel_rfl) (fun ⟨_, _, h⟩ => h) (fun wd hb => ?_)
      have hD5 := hD.below hb
      have hA5 := hA.to (hb.block _ hA.lt)
      have hN5 : Boxed wd Bn 9 (.string pr) := Blk.to hN (hb.block _ (Blk.lt hN))
      have hko5 := KeepsOthers.of_below hb
      clear hb
      obtain ⟨cc', ad', r', e, hcs, hrw, hrp, hrg, hrb, hLi, hf⟩ := ShO.look hD5.x hrow
      rw [k3] at e
      cases e
      rw [addr_add_zero] at hcs
      obtain rfl : r = r' := Option.some.inj (HL4.out.symm.trans hLi)
      have HK3 := Hd.mk k3
      clear k3
      have f1 : (0 : Int) ≤ (at_ : Int) := Int.natCast_nonneg _
      have f2 : (at_ : Int) ≤ (cols : Int) := by omega
      have f5 : at_ ≤ r.c := by omega
      have f6 : (0 : Int) < (q.l.length : Int) := by omega
      have f9 : (0 : Int) < (s'.l.length : Int) := by have := HK3.out; omega
      have f10 : 0 < s'.l.length := by have := HK3.out; omega
      have hHd : (fun w' : World => w'.cell? ⟨bx, 0, none⟩ = some (.int .i64 (at_ : Int)) ∧ w'.cell? ⟨g + 1, 0, none⟩ = some (.pointer (some ⟨g, 0, none⟩)) ∧ w'.cell? ⟨g, 1, none⟩ = some (.slice (some ad) s'.l.length cp) ∧ w'.cell? ad = some (.slice (some ⟨r.g, 0, none⟩) cols r.c)) wd := ⟨hA5.cell 0 rfl, hD5.sb.cell 0 rfl, hD5.x.b.cell 1 rfl, by rw [← n4]; exact hcs⟩
      refine wpAnyK_take (i := 0) (v := ?v70) rfl (by kernel_rfl) (by kernel_rfl) (by kernel_rfl) (by kernel_rfl) (fun _ _ _ h => h) (Or.inl ⟨by rfl, ?hy70⟩) (by assumption) ?rest70
      case hy70 => (intro w hSw; (try dsimp only at hSw); go_simp; try (with_reducible rfl))
      case rest70 =>
      try simp only [Act.put, List.setIfInBounds_toArray, List.set_cons_zero, List.set_cons_succ]
      refine wpAnyK_take (i := 1) (v := ?v71) rfl (by kernel_rfl) (by kernel_rfl) (by kernel_rfl) (by kernel_rfl) (fun _ _ _ h => h) (Or.inl ⟨by rfl, ?hy71⟩) (by assumption) ?rest71
      case hy71 => (intro w hSw; (try dsimp only at hSw); go_simp; try (with_reducible rfl))
      case rest71 =>
      try simp only [Act.put, List.setIfInBounds_toArray, List.set_cons_zero, List.set_cons_succ]
      refine wpAnyK_take (i := 2) (v := ?v72) rfl (by kernel_rfl) (by kernel_rfl) (by kernel_rfl) (by kernel_rfl) (fun _ _ _ h => h) (Or.inl ⟨by rfl, ?hy72⟩) (by assumption) ?rest72
      case hy72 => (intro w hSw; (try dsimp only at hSw); go_simp; try (with_reducible rfl))
      case rest72 =>
      try simp only [Act.put, List.setIfInBounds_toArray, List.set_cons_zero, List.set_cons_succ]
      refine wpAnyK_take (i := 3) (v := ?v73) rfl (by kernel_rfl) (by kernel_rfl) (by kernel_rfl) (by kernel_rfl) (fun _ _ _ h => h) (Or.inl ⟨by rfl, ?hy73⟩) (by assumption) ?rest73
      case hy73 => (intro w hSw; (try dsimp only at hSw); go_simp; try (with_reducible rfl))
      case rest73 =>
      try simp only [Act.put, List.setIfInBounds_toArray, List.set_cons_zero, List.set_cons_succ]
      refine wpAnyK_take (i := 4) (v := ?v74) rfl (by kernel_rfl) (by kernel_rfl) (by kernel_rfl) (by kernel_rfl) (fun _ _ _ h => h) (Or.inl ⟨by rfl, ?hy74⟩) (by assumption) ?rest74
      case hy74 => (intro w hSw; (try dsimp only at hSw); go_simp; try (with_reducible rfl))
      case rest74 =>
      try simp only [Act.put, List.setIfInBounds_toArray, List.set_cons_zero, List.set_cons_succ]
      refine wpAnyK_take (i := 5) (v := ?v75) rfl (by kernel_rfl) (by kernel_rfl) (by kernel_rfl) (by kernel_rfl) (fun _ _ _ h => h) (Or.inl ⟨by rfl, ?hy75⟩) (by assumption) ?rest75
      case hy75 => (intro w hSw; (try dsimp only at hSw); go_simp; try (with_reducible rfl))
      case rest75 =>
      try simp only [Act.put, List.setIfInBounds_toArray, List.set_cons_zero, List.set_cons_succ]
      refine wpAnyK_take (i := 6) (v := ?v76) rfl (by kernel_rfl) (by kernel_rfl) (by kernel_rfl) (by kernel_rfl) (fun _ _ _ h => h) (Or.inl ⟨by rfl, ?hy76⟩) (by assumption) ?rest76
      case hy76 => (intro w hSw; (try dsimp only at hSw); go_simp; try (with_reducible rfl))
      case rest76 =>
      try simp only [Act.put, List.setIfInBounds_toArray, List.set_cons_zero, List.set_cons_succ]
      refine wpAnyK_take (i := 7) (v := ?v77) rfl (by kernel_rfl) (by kernel_rfl) (by kernel_rfl) (by kernel_rfl) (fun _ _ _ h => h) (Or.inl ⟨by rfl, ?hy77⟩) (by assumption) ?rest77
      case hy77 => (intro w hSw; (try dsimp only at hSw); go_simp; try (with_reducible rfl))
      case rest77 =>
      try simp only [Act.put, List.setIfInBounds_toArray, List.set_cons_zero, List.set_cons_succ]
      refine wpAnyK_take (i := 8) (v := .slice (some ⟨r.g, p, none⟩) (cols - at_) (r.c - at_)) rfl (by kernel_rfl) (by kernel_rfl) (by kernel_rfl) (by kernel_rfl) (fun _ _ _ h => h) (Or.inl ⟨by rfl, ?hy78⟩) (by assumption) ?rest78
      case hy78 => (intro w hSw; (try dsimp only at hSw); clear hSw; rw [HPP.out]; by_cases hcc1 : r.c = at_ <;> go_simp; done)
      case rest78 =>
      try simp only [Act.put, List.setIfInBounds_toArray, List.set_cons_zero, List.set_cons_succ]
      refine wpAnyK_take (i := 9) (v := ?v79) rfl (by kernel_rfl) (by kernel_rfl) (by kernel_rfl) (by kernel_rfl) (fun _ _ _ h => h) (Or.inl ⟨by rfl, ?hy79⟩) (by assumption) ?rest79
      case hy79 => (intro w hSw; (try dsimp only at hSw); go_simp; try (with_reducible rfl))
      case rest79 =>
      try simp only [Act.put, List.setIfInBounds_toArray, List.set_cons_zero, List.set_cons_succ]
      refine wpAnyK_take (i := 10) (v := ?v80) rfl (by kernel_rfl) (by kernel_rfl) (by kernel_rfl) (by kernel_rfl) (fun _ _ _ h => h) (Or.inl ⟨by rfl, ?hy80⟩) (by assumption) ?rest80
      case hy80 => (intro w hSw; (try dsimp only at hSw); go_simp; try (with_reducible rfl))
      case rest80 =>
      try simp only [Act.put, List.setIfInBounds_toArray, List.set_cons_zero, List.set_cons_succ]
      refine wpAnyK_ready (rs := [11]) (by kernel_rfl) (by simp) ?_
      refine AllReadyK.cons rfl (fun K hK => ?_) AllReadyK.nil
      go_simp
      go_at_call 30
      have hlt5 : g < wd.heap.size := hD5.x.b.lt
      have hcg5 : wd.cell? ⟨g, 0, none⟩ = some (.int .i64 (q.cols : Int)) := hD5.x.b.cell 0 rfl
      have hcall5 := cells_calls hcg5 hlt5 x.1.2 hx.1 (by have := hx.2; omega) false
      with_reducible refine hcall5.mono ?_
      rintro _ w50 ⟨rx, rfl, hxn, hxg, hxr, hb6⟩
      have hrw6 := hrw.to (hb6.block _ hrw.lt)
      have hc6 := (World.cell?_of_block (a := ad) (hb6.block _ (World.block_lt_of_cell? wd _ hcs))).trans hcs
      have hrlt : r.g < rx.g := Nat.lt_of_lt_of_le hrw.lt hxg
      have hD6 := hD5.below hb6
      have hA6 := hA5.to (hb6.block _ hA5.lt)
      have hN6 : Boxed w50 Bn 9 (.string pr) := Blk.to hN5 (hb6.block _ (Blk.lt hN5))
      have hko6 := hko5.trans (KeepsOthers.of_below hb6)
      clear hHd hb6 hD5 hA5 hN5 hko5 hcs hrw hf
      have hHd : (fun w' : World => w'.cell? ⟨bx, 0, none⟩ = some (.int .i64 (at_ : Int)) ∧ w'.cell? ⟨g + 1, 0, none⟩ = some (.pointer (some ⟨g, 0, none⟩)) ∧ w'.cell? ⟨g, 1, none⟩ = some (.slice (some ad) s'.l.length cp) ∧ w'.cell? ad = some (.slice (some ⟨r.g, 0, none⟩) cols r.c)) w50 := ⟨hA6.cell 0 rfl, hD6.sb.cell 0 rfl, hD6.x.b.cell 1 rfl, by rw [← n4]; exact hc6⟩
      unfold RR.v
      go_simp
      refine hK.out _ _ (.inr hHd) ?_
      clear hK K
      try simp only [Act.put, List.setIfInBounds_toArray, List.set_cons_zero, List.set_cons_succ]
      refine wpAnyK_ready (rs := [12]) (by kernel_rfl) (by simp) ?_
      refine AllReadyK.cons rfl (fun K hK => ?_) AllReadyK.nil
      obtain ⟨cc', ad', r', e, hcs, hrw, hrp, hrg, hrb, hLi, hf⟩ := ShO.look hD6.x hrow
      rw [HK3.out] at e
      cases e
      rw [addr_add_zero] at hcs
      obtain rfl : r = r' := Option.some.inj (HL4.out.symm.trans hLi)
      rw [k2] at hxr hxn
      generalize hxc : cellsC cols x.1.2 false = y at *
      have hmin : y.length.min (cols - at_) = (y.take (cols - at_)).length := by rw [List.length_take]; exact Nat.min_comm _ _
      obtain ⟨w51, hst, hr7, ho7, hz7⟩ := hrw.over0 HPP.out (y := y.take (cols - at_)) (by rw [hrl, k2]; have := List.length_take_le (cols - at_) y; omega)
      try rw [hxn]
      refine copy3_step (w' := w51) (cs := rowV (y.take (cols - at_))) rfl rfl rfl rfl ?_ ?_ hst ?_
      · rw [rowV_len, hmin]
      · intro j u hj
        rw [rowV_take, List.getElem?_take] at hj
        split at hj
        · exact hxr.reads j u hj
        · cases hj
      rw [show goInt (y.length.min (cols - at_)) = .int .i64 (((y.take (cols - at_)).length : Nat) : Int) by rw [hmin]; rfl]
      have hx8 : ShX w51 g (q.lay 0 at_ (y.take (cols - at_))) (.slice (some ad) q.l.length cp) L := by rw [HK3.out]; exact hf w51 at_ (y.take (cols - at_)) hr7 ho7
      rw [HK3.out] at hx8
      have hoe : Only (exF g (.slice (some ad) s'.l.length cp) L) w50 w51 := ho7.mono (fun k _ hk => by rw [hk]; exact hrp)
      have hc8 := (World.cell?_of_block (a := ad) (ho7.block _ (World.block_lt_of_cell? w50 _ hcs) hrb.symm)).trans hcs
      have hA8 := hD6.keepB hoe hA6 (by decide) (by decide) (by decide)
      have hN8 : Boxed w51 Bn 9 (.string pr) := hD6.keepB hoe hN6 (by decide) (by decide) (by decide)
      have hko8 := hko6.trans (hD6.others hoe)
      have hD8 := hD6.sheet hx8 (fun k hk => .inl hk) hoe
      have hyl : (y.take (cols - at_)).length ≤ cols - at_ := List.length_take_le _ _
      clear hHd hst hr7 ho7 hz7 hD6 hA6 hN6 hko6 hcs hrw hrp hrg hrb hLi hf hx8 hoe hxr hc6 hrw6
      have hHd : (fun w' : World => w'.cell? ⟨bx, 0, none⟩ = some (.int .i64 (at_ : Int)) ∧ w'.cell? ⟨g + 1, 0, none⟩ = some (.pointer (some ⟨g, 0, none⟩)) ∧ w'.cell? ⟨g, 1, none⟩ = some (.slice (some ad) s'.l.length cp) ∧ w'.cell? ad = some (.slice (some ⟨r.g, 0, none⟩) cols r.c)) w51 := ⟨hA8.cell 0 rfl, hD8.sb.cell 0 rfl, hD8.x.b.cell 1 rfl, by rw [← n4]; exact hc8⟩
      generalize hyt : y.take (cols - at_) = yt at *
      refine hK.out _ _ (.inr hHd) ?_
      clear hK K
      try simp only [Act.put, List.setIfInBounds_toArray, List.set_cons_zero, List.set_cons_succ]
      refine wpAnyK_take (i := 13) (v := .int .i64 ((at_ : Int) + (yt.length : Int))) rfl (by kernel_rfl) (by kernel_rfl) (by kernel_rfl) (by kernel_rfl) (fun _ _ _ h => h) (Or.inl ⟨by rfl, ?hy81⟩) (by assumption) ?rest81
      case hy81 => (intro w hSw; (try dsimp only at hSw); clear hSw; go_simp; rw [IntKind.wrap_i64]; omega)
      case rest81 =>
      try simp only [Act.put, List.setIfInBounds_toArray, List.set_cons_zero, List.set_cons_succ]
      refine wpAnyK_ready (rs := [14]) (by kernel_rfl) (by simp) ?_
      refine AllReadyK.cons rfl (fun K hK => ?_) AllReadyK.nil
      rw [if_pos (by first | rfl | (go_simp; done) | (go_simp; rfl))]
      refine cell_step rfl rfl (g := bx) (i := 0) (v := .int .i64 ((at_ : Int) + (yt.length : Int))) (by first | rfl | (go_simp; done) | (go_simp; rfl)) (by first | rfl | (go_simp; done) | (go_simp; rfl)) (hA8.cell 0 rfl) (hA8.frozen 0) infoInt1 rfl ?_
      refine hK.out _ _ (.inl (by kernel_rfl)) ?_
      clear hK K
      try simp only [Act.put, List.setIfInBounds_toArray, List.set_cons_zero, List.set_cons_succ]
      refine wpAnyK_done (by kernel_rfl) ?_ _
      have hD9 := hD8.set_ hA8 (by omega) (by omega) (by omega) (.int .i64 ((at_ : Int) + (yt.length : Int)))
      have hk9 := (boxed_put (show Boxed w51 bx 3 _ from hA8) (.int .i64 ((at_ : Int) + (yt.length : Int)))).2.1
      have hN9 : Boxed (w51.setCell ⟨bx, 0, none⟩ (.int .i64 ((at_ : Int) + (yt.length : Int)))) Bn 9 (.string pr) := Blk.far hN8 (p := ⟨bx, 0, none⟩) (show Bn ≠ bx by omega) _
      have hA9 : Blk (w51.setCell ⟨bx, 0, none⟩ (.int .i64 ((at_ : Int) + (yt.length : Int)))) bx 3 #[.int .i64 ((at_ : Int) + (yt.length : Int))] := hA8.set_ 0 _
      refine ⟨hko8.trans hk9, ⟨Eq.trans hN9 (show W.heap[Bn]? = _ from hN).symm, (hko8.trans hk9).walks⟩, ?_, ?_, hN9⟩
      · rw [hpe]
        unfold promptS
        dsimp only
        rw [k2, hxc, hyt]
        exact hD9
      · rw [hpe]
        unfold promptS
        dsimp only
        rw [k2, hxc, hyt]
        exact hA9
end Go.Proofs.YtledplnlcjfafaaDoorL

