/- Parts of the proof of the law that the last file states; declarations that nothing mentions are left out by a program. No conditions. -/
import Derived.Test.YtcpkoajnepijkaaFile8q
set_option linter.unusedVariables false
set_option linter.unusedSimpArgs false
namespace Go.Proofs.Ytcpkoajnepijkaa
open Go.RowKit Go.Proofs.YtcpkoajnepijkaaL Go.Proofs.YtcpkoajnepijkaaW.PrintWords
set_option maxRecDepth 100000 in
set_option maxHeartbeats 4000000 in
theorem write_new {base : Nat} {Lz : Nat → Prop} {w : World} {F : Nat} {fp : Nat → Prop} {st : FS} (h : FRep base Lz w F fp st) (hfi : Fine st) (s : ByteArray) (A : Option Addr) (n c : Nat) (b : List Int) (hbv : RB base NoL w (.slice A n c) b) (hd : st.down = false) (hn : namedB s = true) (hl : n ≤ 1000000) (hfn : fnd s st.files = none) (h8 : st.files.length < 8)
    (hz : n ≤ 65536) (hrows : st.row.length ≤ 100000) (hft : (st.fault == 0) = false) {up : Bool} (hfu : (st.fuse == 0) = up) :
    Calls Try.prog 23 #[ptr F, .string s, .slice A n c] w fun e w' => e = .returned (.int .i64 (if up = true then 100 else 0)) ∧
      (∃ fp', FRep base Lz w' F fp' { opS (faultS { st with live := w.heap.size :: st.live, sb := upd st.sb w.heap.size [], sz := upd st.sz w.heap.size 0 }) with files := put s w.heap.size st.files, row := st.row ++ [⟨w.heap.size, 0, b⟩], sz := upd (upd st.sz w.heap.size 0) w.heap.size n } ∧ ∀ k, fp' k → fp k ∨ w.heap.size ≤ k) ∧ Only fp w w' := by
  obtain ⟨M, rv, cells, h⟩ := h
  have hlk : (Instr.lookup 64 (.map (some M)) (.string s) true).run Try.prog w = .ok (.tuple #[.pointer none, .bool false]) w := by
    rcases h.look s with ⟨_, hlk⟩ | ⟨g', hg', _, hlk⟩
    · exact hlk
    · rw [hfn] at hg'; cases hg'
  have hlen := h.lenM
  have XN := Zz.mk (named_true (w := w) hn)
  have c0 := h.blk.cell 0 rfl
  have c5 := h.blk.cell 5 rfl
  rw [hd] at c5
  have h8' : ¬ (8 : Int) ≤ (st.files.length : Int) := by omega
  have hbig0 : ¬ 65536 < n := by omega
  have hr1 := h.addIno
  have hOA : Zz (Only fp w (w.alloc (.cells #[.slice none 0 0, .int .i64 0] 77))) := ⟨(Only.refl fp w).alloc _⟩
  obtain ⟨st1, hst1⟩ : ∃ st1 : FS, st1 = { st with live := w.heap.size :: st.live, sb := upd st.sb w.heap.size [], sz := upd st.sz w.heap.size 0 } := ⟨_, rfl⟩
  rw [← hst1] at hr1
  have hgl : w.heap.size ∈ st1.live := by rw [hst1]; exact List.mem_cons_self
  have hs0 : st1.sz w.heap.size = 0 := by rw [hst1]; simp [upd]
  have hrow1 : st1.row.length ≤ 100000 := by rw [hst1]; exact hrows
  have hfi1 : Fine st1 := by rw [hst1]; exact ⟨hfi.ops, hfi.fuse0, hfi.fuse1, hfi.fault0, hfi.fault1⟩
  have hft1 : (st1.fault == 0) = false := by rw [hst1]; exact hft
  have hfu1 : (st1.fuse == 0) = up := by rw [hst1]; exact hfu
  have HR : Zz (FRep base Lz (w.alloc (.cells #[.slice none 0 0, .int .i64 0] 77)) F (fun k => fp k ∨ k = w.heap.size) st1) := ⟨⟨M, rv, cells, hr1⟩⟩
  have HMUT : Zz (Mut base w fp) := ⟨h.fpb⟩
  have HBV1 : Zz (RB base NoL (w.alloc (.cells #[.slice none 0 0, .int .i64 0] 77)) (.slice A n c) b) := ⟨hbv.below (below_alloc (Below.refl _ _) _)⟩
  suffices HS : Calls Try.prog 23 #[ptr F, .string s, .slice A n c] w fun e w' => e = .returned (.int .i64 (if up = true then 100 else 0)) ∧
      (∃ fp', FRep base Lz w' F fp' { opS (faultS st1) with files := put s w.heap.size st1.files, row := st1.row ++ [⟨w.heap.size, st1.sz w.heap.size, b⟩], sz := upd st1.sz w.heap.size (st1.sz w.heap.size + n) } ∧ ∀ k, fp' k → (fp k ∨ k = w.heap.size) ∨ w.heap.size ≤ k) ∧ Only (fun k => fp k ∨ k = w.heap.size) w w' by
    refine HS.mono ?_
    rintro e w' ⟨h1, ⟨fp', h2, h3⟩, h4⟩
    rw [hs0, hst1, Nat.zero_add] at h2
    exact ⟨h1, ⟨fp', h2, fun k hk => by
      rcases h3 k hk with (h | h) | h
      · exact .inl h
      · exact .inr (by omega)
      · exact .inr h⟩, h4.mono (fun k hk he => by
      rcases he with he | he
      · exact he
      · omega)⟩
  obtain ⟨fp1, hfp1⟩ : ∃ fp1 : Nat → Prop, fp1 = (fun k => fp k ∨ k = w.heap.size) := ⟨_, rfl⟩
  rw [← hfp1] at HR hr1
  have hfw : Zz (∀ k, fp1 k ↔ fp k ∨ k = w.heap.size) := ⟨fun k => by rw [hfp1]⟩
  suffices HS : Calls Try.prog 23 #[ptr F, .string s, .slice A n c] w fun e w' => e = .returned (.int .i64 (if up = true then 100 else 0)) ∧
      (∃ fp', FRep base Lz w' F fp' { opS (faultS st1) with files := put s w.heap.size st1.files, row := st1.row ++ [⟨w.heap.size, st1.sz w.heap.size, b⟩], sz := upd st1.sz w.heap.size (st1.sz w.heap.size + n) } ∧ ∀ k, fp' k → fp1 k ∨ w.heap.size ≤ k) ∧ Only fp1 w w' by
    refine HS.mono ?_
    rintro e w' ⟨h1, ⟨fp', h2, h3⟩, h4⟩
    subst hfp1
    exact ⟨h1, ⟨fp', h2, h3⟩, h4⟩
  have hfF : fp1 F := hr1.fpF
  have hfg' : fp1 w.heap.size := hr1.fpI _ hgl
  have XQ : Zz (∀ w1, FRep base Lz w1 F fp1 st1 → Calls Try.prog 44 #[ptr F] w1 fun e w' => e = .returned (.bool false) ∧ FRep base Lz w' F fp1 (faultS st1) ∧ Only (· = F) w1 w') := ⟨fun w1 h1 => by
    have := faulty_calls h1 hfi1
    rw [hft1] at this
    exact this⟩
  have XO : Zz (∀ w1, FRep base Lz w1 F fp1 (faultS st1) → Calls Try.prog 45 #[ptr F] w1 fun e w' => e = .returned (.bool (!up)) ∧ FRep base Lz w' F fp1 (opS (faultS st1)) ∧ Only (· = F) w1 w') := ⟨fun w1 h1 => by
    have := op_calls h1 hfi1.faultS
    rw [show ((faultS st1).fuse == 0) = up from hfu1] at this
    exact this⟩
  have hz1' : (st1.sz w.heap.size : Int) + (n : Int) ≤ 65536 := by rw [hs0]; omega
  have HOA : Zz (Only fp1 w (w.alloc (.cells #[.slice none 0 0, .int .i64 0] 77))) := ⟨(Only.refl fp1 w).alloc _⟩
  clear hd hn h hft hfu hfi hbv hfn h8 hrows hr1 hst1 hfp1 hs0 hfi1 hft1 hfu1 hOA
  go_enter Try.func23, Try.ntmps23
  go_wp2_with fail
  go_at_call 43
  with_reducible refine (XN.out).mono ?_
  rintro e w2 ⟨rfl, rfl⟩
  go_wp2_with fail
  go_at_call 44
  with_reducible refine (XQ.out _ HR.out).mono ?_
  rintro e w3 ⟨rfl, hr3, hb3⟩
  have HR3 := Zz.mk hr3
  have HB3 : Zz (Only fp1 w2 w3) := ⟨HOA.out.trans (hb3.mono (G := fp1) (fun _ _ e => e ▸ hfF)) (fun _ _ h => h)⟩
  have HB3A : Zz (Only fp1 (w2.alloc (.cells #[.slice none 0 0, .int .i64 0] 77)) w3) := ⟨hb3.mono (G := fp1) (fun _ _ e => e ▸ hfF)⟩
  clear hr3 hb3
  go_wp2_with fail
  go_at_call 45
  with_reducible refine (XO.out _ HR3.out).mono ?_
  rintro e w4 ⟨rfl, ⟨M4, rv4, cells4, hr4⟩, hb4⟩
  have k4 := hr4.blk.cell 0 rfl
  have HR4 := Zz.mk hr4
  have HB4 : Zz (Only fp1 w2 w4) := ⟨HB3.out.trans hb4 (fun k _ e => e ▸ hfF)⟩
  have HB4A : Zz (Only fp1 (w2.alloc (.cells #[.slice none 0 0, .int .i64 0] 77)) w4) := ⟨HB3A.out.trans hb4 (fun k _ e => e ▸ hfF)⟩
  clear hr4 hb4
  go_wp2_with (refine wpList_mapUpdate_str HR4.out.map rfl (.tmp 63) (.tmp 64) (.tmp 65) rfl Try.underlying64 Try.underlying9 s (ptr w2.heap.size) rfl rfl rfl ?_; intro w5 hm5 hg5; rw [put_map (fun g => ptr g)] at hm5; have HM5 := Zz.mk hm5; have HG5 := Zz.mk hg5; clear hm5 hg5)
  have hr5 := HR4.out.setMap (grown_only HG5.out) HM5.out (fun p hp => by
    rcases put_sub p hp with rfl | hp
    · exact hgl
    · exact HR4.out.filesLive p hp)
  have HB5 : Zz (Only fp1 w2 w5) := ⟨HB4.out.grown HG5.out (fun k hk => by injection hk with hk; subst hk; exact .inl HR4.out.fpM)⟩
  have HB5A : Zz (Only fp1 (w2.alloc (.cells #[.slice none 0 0, .int .i64 0] 77)) w5) := ⟨HB4A.out.grown HG5.out (fun k hk => by injection hk with hk; subst hk; exact .inl HR4.out.fpM)⟩
  obtain ⟨els, rfl, hels⟩ := rowE_of hr5.rowIs
  have hlen := rowE_len hels
  obtain ⟨A5, cp5, hrv, hc5⟩ := own_slice hr5.row
  subst hrv
  obtain ⟨v5, hi5, hrb5⟩ := hr5.ino w2.heap.size hgl
  have q1 : w5.cell? ⟨F, 1, none⟩ = some (.slice A5 st1.row.length cp5) := hr5.blk.cell 1 rfl
  have qg : w5.cell? ⟨w2.heap.size, 1, none⟩ = some (.int .i64 (st1.sz w2.heap.size)) := hi5.cell 1 rfl
  have HR5 := Zz.mk hr5
  have HBV5 : Zz (RB base NoL w5 (.slice A n c) b) := ⟨HBV1.out.only HB5A.out (by obtain ⟨M, rv, cells, hx⟩ := HR.out; exact hx.fpb)⟩
  have HELS := Zz.mk hels
  have HI5 := Zz.mk hi5
  have HLEN := Zz.mk hlen
  clear hr5 hels hi5 hrb5 hlen
  have hFl : F < w5.heap.size := World.block_lt_of_cell? w5 _ q1
  have hGl : w2.heap.size < w5.heap.size := World.block_lt_of_cell? w5 _ qg
  have hF5 : ¬ F = w2.heap.size := fun e => by
    have := HR5.out.blk.ne_ HI5.out (by decide)
    exact this e
  have HOW : Zz (w5.ownsRow base 80 3 (.slice A5 st1.row.length cp5) st1.row.length (cellsE els)) := ⟨HR5.out.row⟩
  have hoF := own_blk_ne HOW.out HR5.out.blk (by decide)
  have hoG := own_blk_ne HOW.out HI5.out (by decide)
  have HOF := Zz.mk hoF
  have HOG := Zz.mk hoG
  obtain ⟨i0, hi0, hz0, hz1, hz2⟩ := info_parts info80
  have HII := Zz.mk hi0
  have HZ := Zz.mk hz0
  have HZ1 := Zz.mk hz1
  have HZ2 := Zz.mk hz2
  have HBS : Zz (base ≤ w5.heap.size) := ⟨HR5.out.hbase⟩
  have hnb : Zz (n = b.length) := ⟨by obtain ⟨A', c', e, _⟩ := HBV1.out; injection e⟩
  clear hi0 hz0 hz1 hz2 hoF hoG
  have hzi : ((st1.sz w2.heap.size : Nat) : Int) + (n : Int) ≤ 65536 := by omega
  have z1 := Zz.mk (HR5.out.blk.frozen 1)
  go_region_law
    (first
      | (go_simp; go_at_call 41; refine (clone_calls (base := base) (Lz := NoL) (HBV5.out.below (below_drew (Below.refl _ _))) (by have := hnb.out; omega)).mono ?_; rintro e w6 ⟨v6, rfl, ho6, hb6⟩; obtain ⟨A6, n6, c6, rfl, hn6⟩ := own_form ho6; have HO6 := Zz.mk ho6; have HN6 := Zz.mk hn6; have HB6 := Zz.mk hb6; have hsz6 : Zz (w5.heap.size ≤ w6.heap.size) := ⟨by have := hb6.size; simpa using this⟩; have r1 := (hb6.cell (p := ⟨F, 1, none⟩) hFl).trans q1; have rg := (hb6.cell (p := ⟨w2.heap.size, 1, none⟩) hGl).trans qg; have HF6 := Zz.mk (HR5.out.blk.to (hb6.block F hFl)); have HG6 := Zz.mk (HI5.out.to (hb6.block w2.heap.size hGl)); have r1a := (HF6.out.alloc (.cells #[ptr w2.heap.size, .int .i64 (st1.sz w2.heap.size), .slice A6 n6 c6] 80)).cell 1 (v := .slice A5 st1.row.length cp5) rfl; clear ho6 hb6 hn6)
      | (refine step_append_lies _ (by rfl) _ _ _ (by rfl) base 80 i0 _ 3 40 Try.underlying65 HII.out HZ.out HZ1.out HZ2.out rfl (by omega) (.slice A5 st1.row.length cp5) st1.row.length (cellsE els) (by rfl) (by first | exact ((row_only (HOW.out.drew) (Only.of_below (F := fun _ => False) HB6.out) (fun _ _ h => h)).alloc _).drew | exact ((row_only (HOW.out.drew) (Only.of_below (F := fun _ => False) HB6.out) (fun _ _ h => h)).alloc _) | (trace_state; fail))
          ⟨w6.heap.size, 0, none⟩ 1 1 [ptr w2.heap.size, .int .i64 (st1.sz w2.heap.size), .slice A6 n6 c6] (by rfl) (by rfl) (World.news_of_block (cs := #[ptr w2.heap.size, .int .i64 (st1.sz w2.heap.size), .slice A6 n6 c6]) (t := 80) (fr := (0, 0)) (heap_alloc_new w6 _)) (by simp [Value.oneCell'])
          (by omega) (Nat.le_trans (show st1.row.length + 1 ≤ 100001 by omega) (by decide)) (by omega) (by have := HBS.out; have := hsz6.out; simp; omega) (w6.heap.size + 1) (by simp) ?_; intro gg cap w7 hown7 hgrow hat hlt; have HOW7 := Zz.mk hown7; have HGR := Zz.mk hgrow; have B7 := Zz.mk ((HF6.out.alloc _).to (HGR.out.block F (by have := hsz6.out; simp; omega) (Ne.symm HOF.out))); have G7 := Zz.mk ((HG6.out.alloc _).to (HGR.out.block w2.heap.size (by have := hsz6.out; simp; omega) (Ne.symm HOG.out))); have sf := B7.out.frozen 1; have sc := B7.out.cell 1 (v := .slice A5 st1.row.length cp5) rfl; have gc := G7.out.cell 1 (v := .int .i64 (st1.sz w2.heap.size)) rfl; have gf := G7.out.frozen 1; clear hown7 hgrow))
  all_goals (go_wp2_with fail)
  all_goals go_ret
  all_goals (
    obtain ⟨fp', e1, e2, e3⟩ := wrote_ends HR5.out HELS.out (show w2.heap.size ∈ _ from hgl) (w6 := w6) ⟨HB6.out.os, HB6.out.tape, HB6.out.output, HB6.out.size, HB6.out.block⟩ HO6.out HGR.out HOW7.out hat (n := (st1.sz w2.heap.size) + n)
    rw [Int.natCast_add] at e1 e3
    exact ⟨rfl, ⟨fp', e1, fun k hk => (e2 k hk).imp id (Nat.le_trans HB5.out.size)⟩, HB5.out.trans e3 (fun _ _ h => h)⟩)
end Go.Proofs.Ytcpkoajnepijkaa

