/- Parts of the proof of the law that the last file states; declarations that nothing mentions are left out by a program. No conditions. -/
import Derived.Test.YtledplnlcjfafaaDoorLLayW7q
set_option linter.unusedVariables false
set_option linter.unusedSimpArgs false
namespace Go.Proofs.YtledplnlcjfafaaDoorL
open Go Go.RowKit Go.Proofs.YtledplnlcjfafaaDoorW.PrintWords
theorem Blk.range {w : World} {g : Nat} {t : TypeId} {cs : Array Value} (h : Blk w g t cs) : w.rangeAt g 0 cs.toList := fun j v hj => by rw [Nat.zero_add]; exact h.cell j (by simpa using hj)
set_option maxRecDepth 100000 in
set_option maxHeartbeats 4000000 in
theorem fcopy_calls {P : Nat → Prop} {w : World} {lv : Value} {L : List RR} {l : List (List TC)} (h : RowsO P w lv L l) (hl : ∀ x ∈ l, 1 ≤ x.length ∧ x.length ≤ 1000) (hn : l.length ≤ 1000) (row col : Nat) :
    Calls Tryd.prog 19 #[.agg #[lv, .int .i64 (row : Int), .int .i64 (col : Int)]] w fun e W' => ∃ (lv' : Value) (L' : List RR), e = .returned (.agg #[lv', .int .i64 (row : Int), .int .i64 (col : Int)]) ∧
      RowsO (fun k => w.heap.size ≤ k) W' lv' L' l ∧ Below w.heap.size w W' := by
  have hlen := h.len
  obtain ⟨A, c, rfl, _⟩ := Kd.Q_slice h.q
  rw [hlen] at h
  rw [hlen]
  have HQ := Hd.mk h
  have HL := Hd.mk hl
  have HLN := Hd.mk hlen
  clear h hl hlen
  have V0 := ((Blk.new w 38 #[.slice A l.length c, .int .i64 (row : Int), .int .i64 (col : Int)]).alloc (.cells #[.slice none 0 0, .int .i64 0, .int .i64 0] 38)).alloc (.cells #[.slice none 0 0, .int .i64 (row : Int), .int .i64 (col : Int)] 38)
  have F0 := (Blk.new (w.alloc (.cells #[.slice A l.length c, .int .i64 (row : Int), .int .i64 (col : Int)] 38)) 38 #[.slice none 0 0, .int .i64 0, .int .i64 0]).alloc (.cells #[.slice none 0 0, .int .i64 (row : Int), .int .i64 (col : Int)] 38)
  have O0 := Blk.new ((w.alloc (.cells #[.slice A l.length c, .int .i64 (row : Int), .int .i64 (col : Int)] 38)).alloc (.cells #[.slice none 0 0, .int .i64 0, .int .i64 0] 38)) 38 #[.slice none 0 0, .int .i64 (row : Int), .int .i64 (col : Int)]
  rw [World.size_alloc] at F0 O0
  rw [World.size_alloc] at O0
  have hB : Below w.heap.size w (((w.alloc (.cells #[.slice A l.length c, .int .i64 (row : Int), .int .i64 (col : Int)] 38)).alloc (.cells #[.slice none 0 0, .int .i64 0, .int .i64 0] 38)).alloc (.cells #[.slice none 0 0, .int .i64 (row : Int), .int .i64 (col : Int)] 38)) := (((Below.refl _ w).alloc (Nat.le_refl _) _).alloc (by simp) _).alloc (by simp; omega) _
  have v0 : (((w.alloc (.cells #[.slice A l.length c, .int .i64 (row : Int), .int .i64 (col : Int)] 38)).alloc (.cells #[.slice none 0 0, .int .i64 0, .int .i64 0] 38)).alloc (.cells #[.slice none 0 0, .int .i64 (row : Int), .int .i64 (col : Int)] 38)).cell? ⟨w.heap.size, 0, none⟩ = some (.slice A l.length c) := V0.cell 0 rfl
  have hsz := O0.lt
  go_enter Tryd.func19, Tryd.ntmps19
  go_upto_region 2 with fail
  have F1 := Hd.mk F0
  have O1 := Hd.mk O0
  have HB := Hd.mk hB
  clear V0 F0 O0 hB
  generalize (((w.alloc (.cells #[.slice A l.length c, .int .i64 (row : Int), .int .i64 (col : Int)] 38)).alloc (.cells #[.slice none 0 0, .int .i64 0, .int .i64 0] 38)).alloc (.cells #[.slice none 0 0, .int .i64 (row : Int), .int .i64 (col : Int)] 38)) = w1 at *
  generalize hb0 : w.heap.size = b0 at *
  go_wp2_with fail
  go_loopg [14] l.length (fun gk v14 wx => ∃ (k : Nat) (v1 : Value) (L1 : List RR), v14 = .int .i64 (k : Int) ∧ k + gk = l.length ∧ Hd (Blk wx (b0 + 1 + 1) 38 #[v1, .int .i64 (row : Int), .int .i64 (col : Int)]) ∧ Hd (Blk wx (b0 + 1) 38 #[.slice none 0 0, .int .i64 0, .int .i64 0]) ∧ Hd (RowsO (fun k => b0 ≤ k) wx v1 L1 (l.take k)) ∧ Hd (Below b0 w wx))
  case atStart => exact ⟨0, _, [], rfl, by omega, O1, F1, ⟨RowsO.nil _ _⟩, HB⟩
  case round =>
    clear O1 F1 HB
    obtain ⟨k, v1, L1, rfl, hk, O1, F1, HR, HB⟩ := hrel
    cases gk with
    | zero =>
      have hlt : decide ((k : Int) < (l.length : Int)) = false := decide_eq_false (by omega)
      have hlt2 : decide (k < l.length) = false := decide_eq_false (by omega)
      have hlt3 : ¬ k < l.length := by omega
      have HE : Hd (l.take k = l) := ⟨List.take_of_length_le (by omega)⟩
      rw [HE.out] at HR
      clear hk HE
      have hrng := O1.out.range
      go_wp2_with (first | ((with_reducible refine gate_dst (N := 26) rfl ?_); refine wpList_load_mid rfl 38 (.tmp 3) rfl (b0 + 1 + 1) 0 (by first | rfl | (go_simp; done) | (go_simp; rfl)) [v1, .int .i64 (row : Int), .int .i64 (col : Int)] _ hrng Tryd.underlying38 rfl infoFrame3 ?_) | ((with_reducible refine gate_store (t := 38) (p := 2) rfl ?_); refine store_event rfl rfl (g := b0 + 1) (cells := #[v1, .int .i64 (row : Int), .int .i64 (col : Int)]) (by first | rfl | (go_simp; done) | (go_simp; rfl)) (by first | rfl | (go_simp; done) | (go_simp; rfl)) F1.out infoFrame3 rfl (by have h1 := spine_one HR.out.q; simp [Value.oneCell'] at h1 ⊢; exact h1) ?_; intro ws hx hk2 hz hb))
      have hW : Below b0 w ws := hb HB.out (by omega)
      have hR := (HR.out.ne F1.out (by decide) (by decide)).move (w' := ws) (fun k hp hl => hk2.2 k hl hp.2)
      exact ret_row (cs := #[v1, .int .i64 (row : Int), .int .i64 (col : Int)]) rfl rfl Tryd.underlying38 infoFrame3 rfl hx rfl ⟨v1, rfl, ⟨L1, hR.mono (fun k hp => hp.1)⟩, hW⟩
    | succ d =>
      have hlt : decide ((k : Int) < (l.length : Int)) = true := decide_eq_true (by omega)
      have hlt2 : decide (k < l.length) = true := decide_eq_true (by omega)
      have hlt3 : (k : Int) < (l.length : Int) := by omega
      have hkl : k < l.length := by omega
      have hk0 : (0 : Int) ≤ (k : Int) := Int.natCast_nonneg _
      have hq2 := HQ.out.below (hb0 ▸ HB.out)
      obtain ⟨c', ad, r, e, hcell, hrow, hrp, hLi, _⟩ := hq2.look hkl
      cases e
      have XC := Hd.mk (fun w1 (hb : Below wr.heap.size wr w1) => clone_at (w := w1) (hrow.to (hb.block _ hrow.lt)) (HL.out _ (List.getElem_mem hkl)).1 (HL.out _ (List.getElem_mem hkl)).2)
      have HT : Hd (l.take k ++ [l[k]] = l.take (k + 1)) := ⟨by rw [List.take_add_one, List.getElem?_eq_getElem hkl]; rfl⟩
      generalize l[k] = lk at *
      have hk1000 : (k : Int) ≤ 1000 := by omega
      unfold RR.v at hcell
      have HLN1 : Hd (L1.length = k) := ⟨by rw [HR.out.len, List.length_take]; omega⟩
      obtain ⟨A1, c1, rfl, _⟩ := Kd.Q_slice HR.out.q
      clear hq2 hrow hrp hLi
      go_upto_region 5 with fail
      rename_i KQ hKQ
      refine regionK (fun w' : World => w'.cell? ⟨b0 + 1 + 1, 0, none⟩ = some (.slice A1 L1.length c1)) 7 (by kernel_rfl) (fun wd hb => ?_)
      replace XC := Hd.mk (XC.out wd hb)
      replace O1 := Hd.mk (O1.out.to (hb.block _ O1.out.lt))
      replace F1 := Hd.mk (F1.out.to (hb.block _ F1.out.lt))
      replace HR := Hd.mk (HR.out.below hb)
      replace HB := Hd.mk (HB.out.trans (hb.mono (by rw [← hb0]; exact HB.out.size)))
      clear hb hcell
      have hHd : (fun w' : World => w'.cell? ⟨b0 + 1 + 1, 0, none⟩ = some (.slice A1 L1.length c1)) wd := O1.out.cell 0 rfl
      refine wpAnyK_take (i := 0) (v := ?v1) rfl (by kernel_rfl) (by kernel_rfl) (by kernel_rfl) (by kernel_rfl) (fun _ _ _ h => h) (Or.inl ⟨by rfl, ?hy1⟩) (by assumption) ?rest1
      case hy1 => (intro w hSw; (try dsimp only at hSw); go_simp; try (with_reducible rfl))
      case rest1 =>
      try simp only [Act.put, List.setIfInBounds_toArray, List.set_cons_zero, List.set_cons_succ]
      refine wpAnyK_take (i := 1) (v := ?v2) rfl (by kernel_rfl) (by kernel_rfl) (by kernel_rfl) (by kernel_rfl) (fun _ _ _ h => h) (Or.inl ⟨by rfl, ?hy2⟩) (by assumption) ?rest2
      case hy2 => (intro w hSw; (try dsimp only at hSw); go_simp; try (with_reducible rfl))
      case rest2 =>
      try simp only [Act.put, List.setIfInBounds_toArray, List.set_cons_zero, List.set_cons_succ]
      refine wpAnyK_take (i := 2) (v := ?v3) rfl (by kernel_rfl) (by kernel_rfl) (by kernel_rfl) (by kernel_rfl) (fun _ _ _ h => h) (Or.inl ⟨by rfl, ?hy3⟩) (by assumption) ?rest3
      case hy3 => (intro w hSw; (try dsimp only at hSw); go_simp; try (with_reducible rfl))
      case rest3 =>
      try simp only [Act.put, List.setIfInBounds_toArray, List.set_cons_zero, List.set_cons_succ]
      refine wpAnyK_ready (rs := [3]) (by kernel_rfl) (by simp) ?_
      refine AllReadyK.cons rfl (fun K hK => ?_) AllReadyK.nil
      go_simp
      go_at_call 38
      have XC2 := XC.out
      unfold RR.v at XC2
      with_reducible refine XC2.mono ?_
      rintro _ wp ⟨rn, rfl, hrn, hrg, hra, hb⟩
      have HRN : Hd (∀ r ∈ L1, r.g ≠ rn.g) := ⟨fun r hr e => by have := HR.out.lt r hr; omega⟩
      have hbs : b0 ≤ wd.heap.size := by rw [← hb0]; exact HB.out.size
      have HRG : Hd (b0 ≤ rn.g) := ⟨Nat.le_trans hbs hrg⟩
      have HRA := Hd.mk hra
      replace O1 := Hd.mk (O1.out.to (hb.block _ O1.out.lt))
      replace F1 := Hd.mk (F1.out.to (hb.block _ F1.out.lt))
      replace HR := Hd.mk (HR.out.below hb)
      replace HB := Hd.mk (HB.out.trans (hb.mono hbs))
      clear hrn hrg hra hb XC XC2 hHd hbs
      have hHd : (fun w' : World => w'.cell? ⟨b0 + 1 + 1, 0, none⟩ = some (.slice A1 L1.length c1)) wp := O1.out.cell 0 rfl
      go_simp
      refine hK.out _ _ (.inr hHd) ?_
      clear hK K
      try simp only [Act.put, List.setIfInBounds_toArray, List.set_cons_zero, List.set_cons_succ]
      refine wpAnyK_ready (rs := [4]) (by kernel_rfl) (by simp) ?_
      refine AllReadyK.cons rfl (fun K hK => ?_) AllReadyK.nil
      refine exec_step (by first | rfl | (go_simp; done) | (go_simp; rfl)) (v := .slice (some ⟨wp.heap.size, 0, none⟩) 1 1) (W' := wp.alloc (.cells #[.slice (some ⟨rn.g, 0, none⟩) rn.n rn.c] 40)) (by first | (go_simp; done) | (go_simp; rfl)) ?_
      have hb1 := hHd
      clear hHd
      have hHd : (fun w' : World => w'.cell? ⟨b0 + 1 + 1, 0, none⟩ = some (.slice A1 L1.length c1)) (wp.alloc (.cells #[.slice (some ⟨rn.g, 0, none⟩) rn.n rn.c] 40)) := Lib.cell?_alloc_some _ hb1
      clear hb1
      refine hK.out _ _ (.inr hHd) ?_
      clear hK K
      try simp only [Act.put, List.setIfInBounds_toArray, List.set_cons_zero, List.set_cons_succ]
      refine wpAnyK_ready (rs := [5]) (by kernel_rfl) (by simp) ?_
      refine AllReadyK.cons rfl (fun K hK => ?_) AllReadyK.nil
      refine Kd.Q_append_step rrK (w0 := wp) (W := wp) 0 (by first | rfl | (go_simp; done) | (go_simp; rfl)) (.tmp 19) (.tmp 22) 36 40 (.slice none 0 0) 24 rfl Tryd.underlying36 infoRowz rfl (by decide) (by omega) (.slice A1 L1.length c1) L1 rn [RR.v rn] (fun k => b0 ≤ k) (fun _ => False) rfl rfl rfl (fun _ hk => hk.elim) (fun k hk => by have h1 := HB.out.size; rw [hb0] at h1; omega) HR.out.q (Below.refl _ _) (Nat.zero_le _) (by rw [HLN1.out]; omega) ?_
      intro v2 w3 hq_ hb_ hg_ ha_
      have hne1 : some (b0 + 1 + 1) ≠ (Value.slice A1 L1.length c1).ownBlock := Kd.Q_ne HR.out.q O1.out (by decide)
      have hne2 : some (b0 + 1) ≠ (Value.slice A1 L1.length c1).ownBlock := Kd.Q_ne HR.out.q F1.out (by decide)
      have O3 := Hd.mk (O1.out.to (hg_.block _ O1.out.lt hne1))
      have F3 := Hd.mk (F1.out.to (hg_.block _ F1.out.lt hne2))
      have HR3 := Hd.mk (HR.out.app HRA.out HRN.out HRG.out hq_ hg_)
      have hbp : b0 ≤ wp.heap.size := by have h1 := HB.out.size; rw [hb0] at h1; exact h1
      have HB3 := Hd.mk (HB.out.grown hg_ hbp (fun k hk => HR.out.q.1 k hk))
      clear hq_ hb_ hg_ ha_ HR HB HRA O1 F1 hHd hne1 hne2 hbp
      have hHd : (fun w' : World => w'.cell? ⟨b0 + 1 + 1, 0, none⟩ = some (.slice A1 L1.length c1)) w3 := O3.out.cell 0 rfl
      refine hK.out _ _ (.inr hHd) ?_
      clear hK K
      try simp only [Act.put, List.setIfInBounds_toArray, List.set_cons_zero, List.set_cons_succ]
      refine wpAnyK_take (i := 6) (v := ?v4) rfl (by kernel_rfl) (by kernel_rfl) (by kernel_rfl) (by kernel_rfl) (fun _ _ _ h => h) (Or.inl ⟨by rfl, ?hy4⟩) (by assumption) ?rest4
      case hy4 => (intro w hSw; (try dsimp only at hSw); go_simp; try (with_reducible rfl))
      case rest4 =>
      try simp only [Act.put, List.setIfInBounds_toArray, List.set_cons_zero, List.set_cons_succ]
      refine wpAnyK_ready (rs := [7]) (by kernel_rfl) (by simp) ?_
      refine AllReadyK.cons rfl (fun K hK => ?_) AllReadyK.nil
      rw [if_pos (by first | rfl | (go_simp; done) | (go_simp; rfl))]
      refine cell_step rfl rfl (g := b0 + 1 + 1) (i := 0) (v := v2) (by first | rfl | (go_simp; done) | (go_simp; rfl)) (by first | rfl | (go_simp; done) | (go_simp; rfl)) (O3.out.cell 0 rfl) (O3.out.frozen 0) info_spine1 (spine_one HR3.out.q) ?_
      refine hK.out _ _ (.inl (by kernel_rfl)) ?_
      clear hK K
      try simp only [Act.put, List.setIfInBounds_toArray, List.set_cons_zero, List.set_cons_succ]
      refine wpAnyK_done (by kernel_rfl) ?_ _
      refine hKQ _ _ ?_
      have O4 := Hd.mk (show Blk (w3.setCell ⟨b0 + 1 + 1, 0, none⟩ v2) (b0 + 1 + 1) 38 #[v2, .int .i64 (row : Int), .int .i64 (col : Int)] from O3.out.set_ 0 _)
      have F4 := Hd.mk (F3.out.far (p := ⟨b0 + 1 + 1, 0, none⟩) (show b0 + 1 ≠ b0 + 1 + 1 by omega) v2)
      have HR4 := Hd.mk (HR3.out.set_ O3.out (i := 0) (by decide) (by decide) v2)
      have HB4 := Hd.mk (HB3.out.setCell (p := ⟨b0 + 1 + 1, 0, none⟩) (show b0 ≤ b0 + 1 + 1 by omega) v2)
      rw [HT.out] at HR4
      clear hHd O3 F3 HR3 HB3
      generalize w3.setCell ⟨b0 + 1 + 1, 0, none⟩ v2 = w4 at *
      go_wp2
      go_roundg d
      case measure => omega
      case rel => exact ⟨k + 1, v2, L1 ++ [rn], by simp, by omega, O4, F4, HR4, HB4⟩
end Go.Proofs.YtledplnlcjfafaaDoorL

