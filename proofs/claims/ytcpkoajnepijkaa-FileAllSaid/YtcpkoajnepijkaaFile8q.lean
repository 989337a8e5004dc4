/- Parts of the proof of the law that the last file states; declarations that nothing mentions are left out by a program. No conditions. -/
import Derived.Deep.RegionLaw
import Derived.Deep.AppendLies
import Derived.Test.YtcpkoajnepijkaaFileBq
set_option linter.unusedVariables false
set_option linter.unusedSimpArgs false
namespace Go.Proofs.Ytcpkoajnepijkaa
open Go.RowKit Go.Proofs.YtcpkoajnepijkaaL Go.Proofs.YtcpkoajnepijkaaW.PrintWords
theorem wrote_ends {base : Nat} {Lz : Nat → Prop} {w w6 w7 : World} {F : Nat} {fp : Nat → Prop} {st : FS} {M : Nat} {A5 : Option Addr} {cp5 : Nat} {els : List El} (h : FRepX base Lz w F fp st M (.slice A5 st.row.length cp5) (cellsE els))
    (hels : RowE base Lz w st.row els) {g : Nat} (hg : g ∈ st.live) {A6 : Option Addr} {n6 c6 : Nat} {b : List Int} (hb6 : Below w.heap.size w w6) (ho6 : Own w6 w.heap.size (.slice A6 n6 c6) b)
    (hgr : (w6.alloc (.cells #[ptr g, .int .i64 (st.sz g), .slice A6 n6 c6] 80)).grownBy w7 (Value.slice A5 st.row.length cp5).ownBlock) {gg cap : Nat}
    (hown7 : w7.ownsRow base 80 3 (.slice (some ⟨gg, 0, none⟩) (st.row.length + 1) cap) (st.row.length + 1) (cellsE els ++ [ptr g, .int .i64 (st.sz g), .slice A6 n6 c6]))
    (hat : (Value.slice A5 st.row.length cp5).ownBlock = some gg ∨ gg = w6.heap.size + 1) {n : Nat} :
    ∃ fp', FRep base Lz ((w7.setCell ⟨F, 1, none⟩ (.slice (some ⟨gg, 0, none⟩) (st.row.length + 1) cap)).setCell ⟨g, 1, none⟩ (.int .i64 n)) F fp' { st with row := st.row ++ [⟨g, st.sz g, b⟩], sz := upd st.sz g n } ∧
      (∀ k, fp' k → fp k ∨ w.heap.size ≤ k) ∧
      Only fp w ((w7.setCell ⟨F, 1, none⟩ (.slice (some ⟨gg, 0, none⟩) (st.row.length + 1) cap)).setCell ⟨g, 1, none⟩ (.int .i64 n)) := by
  obtain ⟨v0, hi, hv0⟩ := h.ino g hg
  have hFg : ¬ F = g := fun e => h.blk.ne_ hi (by decide) e
  have hoF := own_blk_ne h.row h.blk (by decide)
  have hoG := own_blk_ne h.row hi (by decide)
  have hFl := h.blk.lt
  have hGl := hi.lt
  have hs6 := hb6.size
  have o67 : Only (fun k => (Value.slice A5 st.row.length cp5).ownBlock = some k) w6 w7 := ((Only.refl _ w6).alloc _).grown hgr (fun k e => .inl e)
  let G : Nat → Prop := fun k => k = F ∨ k = g ∨ (Value.slice A5 st.row.length cp5).ownBlock = some k
  have o7 : Only G w w7 := (Only.of_below (F := G) hb6).trans o67 (fun k _ e => .inr (.inr e))
  have o8 := (o7.setCell (p := ⟨F, 1, none⟩) (.inl (.inl rfl)) (.slice (some ⟨gg, 0, none⟩) (st.row.length + 1) cap)).setCell (p := ⟨g, 1, none⟩) (.inl (.inr (.inl rfl))) (.int .i64 n)
  have o68 : Only G w6 ((w7.setCell ⟨F, 1, none⟩ (.slice (some ⟨gg, 0, none⟩) (st.row.length + 1) cap)).setCell ⟨g, 1, none⟩ (.int .i64 n)) :=
    ((o67.mono (G := G) (fun k _ e => .inr (.inr e))).setCell (p := ⟨F, 1, none⟩) (.inl (.inl rfl)) _).setCell (p := ⟨g, 1, none⟩) (.inl (.inr (.inl rfl))) _
  have hGm : Mut base w G := fun k hk => by
    rcases hk with rfl | rfl | hk
    · exact h.fpb _ h.fpF
    · exact h.fpb _ (h.fpI _ hg)
    · exact h.fpb _ (h.fpR _ hk)
  have hGfp : ∀ k, G k → fp k := fun k hk => by
    rcases hk with rfl | rfl | hk
    · exact h.fpF
    · exact h.fpI _ hg
    · exact h.fpR _ hk
  have hG6 : Mut base w6 G := fun k hk => by
    refine ⟨(hGm k hk).1, fun h5 => (hGm k hk).2 ?_⟩
    obtain ⟨c5, fr, h5⟩ := h5
    exact ⟨c5, fr, (hb6.block k (h.fpl k (hGfp k hk))).symm.trans h5⟩
  have hF7 : Blk w7 F 67 _ := ((h.blk.to (hb6.block F hFl)).alloc _).to (hgr.block F (by simp; omega) (Ne.symm hoF))
  have hG7 : Blk w7 g 77 _ := ((hi.to (hb6.block g hGl)).alloc _).to (hgr.block g (by simp; omega) (Ne.symm hoG))
  have hF8 := (hF7.set_ 1 (.slice (some ⟨gg, 0, none⟩) (st.row.length + 1) cap)).far (p := ⟨g, 1, none⟩) hFg (.int .i64 n)
  have hG8 := (hG7.far (p := ⟨F, 1, none⟩) (Ne.symm hFg) (.slice (some ⟨gg, 0, none⟩) (st.row.length + 1) cap)).set_ 1 (.int .i64 n)
  have hggF : gg ≠ F := by
    rcases hat with e | e
    · intro e2; subst e2; exact hoF e
    · omega
  have hggG : gg ≠ g := by
    rcases hat with e | e
    · intro e2; subst e2; exact hoG e
    · omega
  have hown8 := row_only hown7 (((Only.refl (fun k => k = F ∨ k = g) w7).setCell (p := ⟨F, 1, none⟩) (.inl (.inl rfl)) (.slice (some ⟨gg, 0, none⟩) (st.row.length + 1) cap)).setCell (p := ⟨g, 1, none⟩) (.inl (.inr rfl)) (.int .i64 n)) (fun k e hk => by
    injection e with e
    rcases hk with rfl | rfl
    · exact hggF e
    · exact hggG e)
  have hri : RowIs base Lz ((w7.setCell ⟨F, 1, none⟩ (.slice (some ⟨gg, 0, none⟩) (st.row.length + 1) cap)).setCell ⟨g, 1, none⟩ (.int .i64 n)) (st.row ++ [⟨g, st.sz g, b⟩]) (cellsE els ++ [ptr g, .int .i64 (st.sz g), .slice A6 n6 c6]) :=
    RowIs.snoc (x := ⟨g, st.sz g, b⟩) ((RB.of_R (base := base) (Lz := Lz) ho6 (fun k hk hz => by have := h.lz k hz; omega)).only o68 hG6) (RowIs.imp (fun v xs hv => hv.only o8 hGm) (rowE_is hels))
  refine ⟨_, ⟨M, _, _, h.wrote (rv' := .slice (some ⟨gg, 0, none⟩) (st.row.length + 1) cap) (row' := st.row ++ [⟨g, st.sz g, b⟩]) (n := n) hg o8 (by simpa using hF8) (by simpa using hG8) hv0 (by simpa using hown8) hri (fun y hy => ?_)⟩, fun k hk => ?_, o8.mono (fun k _ hk => hGfp k hk)⟩
  · rcases List.mem_append.1 hy with hy | hy
    · exact h.rowLive y hy
    · rw [List.mem_singleton.1 hy]; exact hg
  · rcases hk with ⟨hk, _⟩ | hk
    · exact .inl hk
    · injection hk with hk
      rcases hat with e | e
      · exact .inl (h.fpR _ (hk ▸ e))
      · right; simp at hk; omega
set_option maxRecDepth 100000 in
set_option maxHeartbeats 4000000 in
theorem write_old {base : Nat} {Lz : Nat → Prop} {w : World} {F : Nat} {fp : Nat → Prop} {st : FS} (h : FRep base Lz w F fp st) (hfi : Fine st) (s : ByteArray) (A : Option Addr) (n c : Nat) (b : List Int) (hbv : RB base NoL w (.slice A n c) b) (hd : st.down = false) (hn : namedB s = true) (hl : n ≤ 1000000) {g : Nat} (hfg : fnd s st.files = some g)
    (hz : st.sz g + n ≤ 65536) (hrows : st.row.length ≤ 100000) (hft : (st.fault == 0) = false) {up : Bool} (hfu : (st.fuse == 0) = up) :
    Calls Try.prog 23 #[ptr F, .string s, .slice A n c] w fun e w' => e = .returned (.int .i64 (if up = true then 100 else 0)) ∧
      (∃ fp', FRep base Lz w' F fp' { opS (faultS st) with files := put s g st.files, row := st.row ++ [⟨g, st.sz g, b⟩], sz := upd st.sz g (st.sz g + n) } ∧ ∀ k, fp' k → fp k ∨ w.heap.size ≤ k) ∧ Only fp w w' := by
  have HR := Zz.mk h
  have hgl : g ∈ st.live := h.live _ (fnd_mem hfg)
  have hfF := h.fpF
  have hfg' := h.fpI hgl
  have XQ : Zz (∀ w1, FRep base Lz w1 F fp st → Calls Try.prog 44 #[ptr F] w1 fun e w' => e = .returned (.bool false) ∧ FRep base Lz w' F fp (faultS st) ∧ Only (· = F) w1 w') := ⟨fun w1 h1 => by
    have := faulty_calls h1 hfi
    rw [hft] at this
    exact this⟩
  have XO : Zz (∀ w1, FRep base Lz w1 F fp (faultS st) → Calls Try.prog 45 #[ptr F] w1 fun e w' => e = .returned (.bool (!up)) ∧ FRep base Lz w' F fp (opS (faultS st)) ∧ Only (· = F) w1 w') := ⟨fun w1 h1 => by
    have := op_calls h1 hfi.faultS
    rw [show ((faultS st).fuse == 0) = up from hfu] at this
    exact this⟩
  obtain ⟨M, rv, cells, h⟩ := h
  have XN := Zz.mk (named_true (w := w) hn)
  have c0 := h.blk.cell 0 rfl
  have c5 := h.blk.cell 5 rfl
  rw [hd] at c5
  have hlk : (Instr.lookup 64 (.map (some M)) (.string s) true).run Try.prog w = .ok (.tuple #[ptr g, .bool true]) w := by
    rcases h.look s with ⟨hfn, _⟩ | ⟨g', hg', _, hlk⟩
    · rw [hfn] at hfg; cases hfg
    · rw [hfg] at hg'; injection hg' with e; subst e; exact hlk
  obtain ⟨v0, hi, _⟩ := h.ino g hgl
  have k1 : w.cell? ⟨g, 1, none⟩ = some (.int .i64 (st.sz g)) := hi.cell 1 rfl
  have hbig : ¬ (65536 : Int) < (st.sz g : Int) + (n : Int) := by omega
  have HBV := Zz.mk hbv
  clear hd hn h hi hft hfu hfi hbv hfg
  go_enter Try.func23, Try.ntmps23
  go_wp2_with fail
  go_at_call 43
  with_reducible refine (XN.out).mono ?_
  rintro e w2 ⟨rfl, rfl⟩
  go_wp2_with fail
  go_at_call 44
  with_reducible refine (XQ.out _ HR.out).mono ?_
  rintro e w3 ⟨rfl, hr3, hb3⟩
  have HR3 := Zz.mk hr3
  have HB3 : Zz (Only fp w2 w3) := ⟨hb3.mono (fun _ _ e => e ▸ hfF)⟩
  clear hr3 hb3
  go_wp2_with fail
  go_at_call 45
  with_reducible refine (XO.out _ HR3.out).mono ?_
  rintro e w4 ⟨rfl, ⟨M4, rv4, cells4, hr4⟩, hb4⟩
  have k4 := hr4.blk.cell 0 rfl
  have HR4 := Zz.mk hr4
  have HB4 : Zz (Only fp w2 w4) := ⟨HB3.out.trans hb4 (fun k _ e => e ▸ hfF)⟩
  clear hr4 hb4
  go_wp2_with (refine wpList_mapUpdate_str HR4.out.map rfl (.tmp 63) (.tmp 64) (.tmp 65) rfl Try.underlying64 Try.underlying9 s (ptr g) rfl rfl rfl ?_; intro w5 hm5 hg5; rw [put_map (fun g => ptr g)] at hm5; have HM5 := Zz.mk hm5; have HG5 := Zz.mk hg5; clear hm5 hg5)
  have hr5 := HR4.out.setMap (grown_only HG5.out) HM5.out (fun p hp => by
    rcases put_sub p hp with rfl | hp
    · exact hgl
    · exact HR4.out.filesLive p hp)
  have HB5 : Zz (Only fp w2 w5) := ⟨HB4.out.grown HG5.out (fun k hk => by injection hk with hk; subst hk; exact .inl HR4.out.fpM)⟩
  obtain ⟨els, rfl, hels⟩ := rowE_of hr5.rowIs
  have hlen := rowE_len hels
  obtain ⟨A5, cp5, hrv, hc5⟩ := own_slice hr5.row
  subst hrv
  obtain ⟨v5, hi5, hrb5⟩ := hr5.ino g hgl
  have q1 : w5.cell? ⟨F, 1, none⟩ = some (.slice A5 st.row.length cp5) := hr5.blk.cell 1 rfl
  have qg : w5.cell? ⟨g, 1, none⟩ = some (.int .i64 (st.sz g)) := hi5.cell 1 rfl
  have HR5 := Zz.mk hr5
  have HBV5 : Zz (RB base NoL w5 (.slice A n c) b) := ⟨HBV.out.only HB5.out (by obtain ⟨M, rv, cells, hx⟩ := HR.out; exact hx.fpb)⟩
  have HELS := Zz.mk hels
  have HI5 := Zz.mk hi5
  have HLEN := Zz.mk hlen
  clear hr5 hels hi5 hrb5 hlen
  have hFl : F < w5.heap.size := World.block_lt_of_cell? w5 _ q1
  have hGl : g < w5.heap.size := World.block_lt_of_cell? w5 _ qg
  have hF5 : ¬ F = g := fun e => by
    have := HR5.out.blk.ne_ HI5.out (by decide)
    exact this e
  have HOW : Zz (w5.ownsRow base 80 3 (.slice A5 st.row.length cp5) st.row.length (cellsE els)) := ⟨HR5.out.row⟩
  have hoF := own_blk_ne HOW.out HR5.out.blk (by decide)
  have hoG := own_blk_ne HOW.out HI5.out (by decide)
  have HOF := Zz.mk hoF
  have HOG := Zz.mk hoG
  obtain ⟨i0, hi0, hz0, hz1, hz2⟩ := info_parts info80
  have HII := Zz.mk hi0
  have HZ := Zz.mk hz0
  have HZ1 := Zz.mk hz1
  have HZ2 := Zz.mk hz2
  have HBS : Zz (base ≤ w5.heap.size) := ⟨HR5.out.hbase⟩
  have hnb : Zz (n = b.length) := ⟨by obtain ⟨A', c', e, _⟩ := HBV.out; injection e⟩
  clear hi0 hz0 hz1 hz2 hoF hoG
  have hzi : (st.sz g : Int) + (n : Int) ≤ 65536 := by omega
  have z1 := Zz.mk (HR5.out.blk.frozen 1)
  go_region_law
    (first
      | (go_simp; go_at_call 41; refine (clone_calls (base := base) (Lz := NoL) (HBV5.out.below (below_drew (Below.refl _ _))) (by have := hnb.out; omega)).mono ?_; rintro e w6 ⟨v6, rfl, ho6, hb6⟩; obtain ⟨A6, n6, c6, rfl, hn6⟩ := own_form ho6; have HO6 := Zz.mk ho6; have HN6 := Zz.mk hn6; have HB6 := Zz.mk hb6; have hsz6 : Zz (w5.heap.size ≤ w6.heap.size) := ⟨by have := hb6.size; simpa using this⟩; have r1 := (hb6.cell (p := ⟨F, 1, none⟩) hFl).trans q1; have rg := (hb6.cell (p := ⟨g, 1, none⟩) hGl).trans qg; have HF6 := Zz.mk (HR5.out.blk.to (hb6.block F hFl)); have HG6 := Zz.mk (HI5.out.to (hb6.block g hGl)); have r1a := (HF6.out.alloc (.cells #[ptr g, .int .i64 (st.sz g), .slice A6 n6 c6] 80)).cell 1 (v := .slice A5 st.row.length cp5) rfl; clear ho6 hb6 hn6)
      | (refine step_append_lies _ (by rfl) _ _ _ (by rfl) base 80 i0 _ 3 40 Try.underlying65 HII.out HZ.out HZ1.out HZ2.out rfl (by omega) (.slice A5 st.row.length cp5) st.row.length (cellsE els) (by rfl) (by first | exact ((row_only (HOW.out.drew) (Only.of_below (F := fun _ => False) HB6.out) (fun _ _ h => h)).alloc _).drew | exact ((row_only (HOW.out.drew) (Only.of_below (F := fun _ => False) HB6.out) (fun _ _ h => h)).alloc _) | (trace_state; fail))
          ⟨w6.heap.size, 0, none⟩ 1 1 [ptr g, .int .i64 (st.sz g), .slice A6 n6 c6] (by rfl) (by rfl) (World.news_of_block (cs := #[ptr g, .int .i64 (st.sz g), .slice A6 n6 c6]) (t := 80) (fr := (0, 0)) (heap_alloc_new w6 _)) (by simp [Value.oneCell'])
          (by omega) (Nat.le_trans (show st.row.length + 1 ≤ 100001 by omega) (by decide)) (by omega) (by have := HBS.out; have := hsz6.out; simp; omega) (w6.heap.size + 1) (by simp) ?_; intro gg cap w7 hown7 hgrow hat hlt; have HOW7 := Zz.mk hown7; have HGR := Zz.mk hgrow; have B7 := Zz.mk ((HF6.out.alloc _).to (HGR.out.block F (by have := hsz6.out; simp; omega) (Ne.symm HOF.out))); have G7 := Zz.mk ((HG6.out.alloc _).to (HGR.out.block g (by have := hsz6.out; simp; omega) (Ne.symm HOG.out))); have sf := B7.out.frozen 1; have sc := B7.out.cell 1 (v := .slice A5 st.row.length cp5) rfl; have gc := G7.out.cell 1 (v := .int .i64 (st.sz g)) rfl; have gf := G7.out.frozen 1; clear hown7 hgrow))
  all_goals (go_wp2_with fail)
  all_goals go_ret
  all_goals (
    obtain ⟨fp', e1, e2, e3⟩ := wrote_ends HR5.out HELS.out (show g ∈ _ from hgl) (w6 := w6) ⟨HB6.out.os, HB6.out.tape, HB6.out.output, HB6.out.size, HB6.out.block⟩ HO6.out HGR.out HOW7.out hat (n := st.sz g + n)
    rw [Int.natCast_add] at e1 e3
    exact ⟨rfl, ⟨fp', e1, fun k hk => (e2 k hk).imp id (Nat.le_trans HB5.out.size)⟩, HB5.out.trans e3 (fun _ _ h => h)⟩)
end Go.Proofs.Ytcpkoajnepijkaa

