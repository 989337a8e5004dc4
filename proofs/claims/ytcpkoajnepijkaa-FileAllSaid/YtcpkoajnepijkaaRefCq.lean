/- Parts of the proof of the law that the last file states; declarations that nothing mentions are left out by a program. No conditions. -/
import Derived.Test.YtcpkoajnepijkaaRefDq
set_option linter.unusedVariables false
set_option linter.unusedSimpArgs false
namespace Go.Proofs.Ytcpkoajnepijkaa
open Go.RowKit Go.Proofs.YtcpkoajnepijkaaL Go.Proofs.YtcpkoajnepijkaaW.PrintWords Go.Proofs.Ytcpkoajnepijkaa.Q
def crF (S : PS) (keep : List Bool) (f : PF) : PF := { f with b := (f.row.filter fun p => keptAt keep (rankP S p.no)).foldl overP f.b, row := [] }
def crB (S : PS) (keep : List Bool) (f : PF) (j : Nat) : List Int := ((f.row.take j).filter fun p => keptAt keep (rankP S p.no)).foldl overP f.b
theorem crB_succ (S : PS) (keep : List Bool) (f : PF) {j : Nat} (hj : j < f.row.length) : crB S keep f (j + 1) = if keptAt keep (rankP S f.row[j].no) = true then overP (crB S keep f j) f.row[j] else crB S keep f j := by
  unfold crB
  rw [List.take_succ_eq_append_getElem hj, List.filter_append, List.foldl_append]
  split <;> rename_i h <;> simp [h]
theorem crB_le (S : PS) (keep : List Bool) {f : PF} (hb : f.b.length ≤ 65536) (hr : RowB f.row) (j : Nat) : (crB S keep f j).length ≤ 65536 :=
  overs_le _ _ hb (fun p hp => hr.2 p (List.mem_of_mem_take (List.mem_filter.1 hp).1))
theorem crB_all (S : PS) (keep : List Bool) (f : PF) : crF S keep f = ⟨f.name, crB S keep f f.row.length, []⟩ := by
  unfold crF crB
  rw [List.take_length]
theorem part_V {w : World} {base m c : Nat} {Q : Nat → Prop} {A : Option Addr} {row : List PP} {p : PP} (h : Kd.V k91 91 w base Q (.slice A m c) (row.map toP)) {j : Nat} (hj : row[j]? = some p) :
    ∃ ad A1 n1 c1, A = some ad ∧ w.cell? (ad.add (j * 3)) = some (.int .i64 p.no) ∧ w.cell? ⟨(ad.add (j * 3)).block, (ad.add (j * 3)).off + 1, none⟩ = some (.int .i64 p.at_) ∧ w.cell? ⟨(ad.add (j * 3)).block, (ad.add (j * 3)).off + 2, none⟩ = some (.slice A1 n1 c1) ∧
      Kd.V (Kd.int .u8) 5 w w.heap.size Q (.slice A1 n1 c1) p.b ∧ (j : Int) < (m : Int) := by
  have hm := V_len h
  rw [List.length_map] at hm
  obtain ⟨hlt, rfl⟩ := List.getElem?_eq_some_iff.1 hj
  obtain ⟨_, hc, hF⟩ := Kd.V_at h
  obtain ⟨ad, cs, e, hl, hK, hc0, hin⟩ := Kd.F_get hF z91 j (by omega) (by omega)
  rw [Int.toNat_natCast] at hK hc0
  have hx : (row.map toP).getD j z91 = toP row[j] := by simp [hlt]
  rw [hx] at hK
  have hc : ∀ i u, cs[i]? = some u → w.cell? (ad.add (j * 3 + i)) = some u := hc0
  obtain ⟨A1, c1, rfl, l1, g1⟩ := k91_openF hK
  exact ⟨ad, A1, _, c1, e, hc 0 _ rfl, by rw [← add_field _ _ 1 (by omega)]; exact hc 1 _ rfl, by rw [← add_field _ _ 2 (by omega)]; exact hc 2 _ rfl, ⟨A1, c1, rfl, l1, g1⟩, by omega⟩
section
variable {α : Type} {d : Kd α} {e base g : Nat} {w0 w w1 w' : World} {P : Nat → Prop} {G : List Nat} {v : Value} {xs : List α}
theorem Fn.box (h : Kd.N d e w base (Fp w0 P G) v xs) (hg : g = w.heap.size) (hb : Below w.heap.size w w1) : Kd.N d e w1 base (Fp w0 P (g :: G)) v xs :=
  Kd.N_mono (Kd.N_below (Kd.N_bound h) hb) (fun k hk => ⟨hk.1.1, by
    intro hm
    rcases List.mem_cons.1 hm with rfl | hm
    · have := hk.2; omega
    · exact hk.1.2 hm⟩)
theorem Fn.store (h : Kd.N d e w base (Fp w0 P G) v xs) (hk : YtcpkoajnepijkaaW.PrintWords.Kept w w' (fun k => k = g)) (hg : g ∈ G) : Kd.N d e w' base (Fp w0 P G) v xs :=
  Kd.N_step h (fun k hk1 hk2 => hk.2 k hk2 (fun e => hk1.2 (e ▸ hg)))
end
structure CrO (w wx : World) (P : Nat → Prop) (g0 g1 g2 : Nat) (A : Option Addr) (m c : Nat) (S : PS) (keep : List Bool) (i : Nat) (A9 : Option Addr) (m9 c9 : Nat) : Prop where
  b0 : Blk wx g0 29 #[.slice A m c, .int .i64 S.no, .int .i64 S.ops, .int .i64 S.fuse, .int .i64 S.fault, .bool S.down]
  b1 : Blk wx g1 29 #[.slice none 0 0, .int .i64 0, .int .i64 0, .int .i64 0, .int .i64 0, .bool false]
  b2 : Blk wx g2 29 #[.slice A9 m9 c9, .int .i64 S.no, .int .i64 S.ops, .int .i64 (-1), .int .i64 (-1), .bool false]
  fr : Fr w wx [g2, g1, g0]
  ord : g0 < g1 ∧ g1 < g2
  row : Kd.N k47 47 wx w.heap.size (Fp w P [g2, g1, g0]) (.slice A9 m9 c9) (((S.l.take i).map (crF S keep)).map toF)
structure CrI (w wx : World) (P : Nat → Prop) (g0 g1 g2 g3 : Nat) (A : Option Addr) (m c : Nat) (S : PS) (keep : List Bool) (i : Nat) (A9 : Option Addr) (m9 c9 : Nat) (f : PF) (j : Nat) (aB : Option Addr) (nB cB : Nat) : Prop where
  b0 : Blk wx g0 29 #[.slice A m c, .int .i64 S.no, .int .i64 S.ops, .int .i64 S.fuse, .int .i64 S.fault, .bool S.down]
  b1 : Blk wx g1 29 #[.slice none 0 0, .int .i64 0, .int .i64 0, .int .i64 0, .int .i64 0, .bool false]
  b2 : Blk wx g2 29 #[.slice A9 m9 c9, .int .i64 S.no, .int .i64 S.ops, .int .i64 (-1), .int .i64 (-1), .bool false]
  b3 : Blk wx g3 47 #[.string f.name, .slice aB nB cB, .slice none 0 0]
  fr : Fr w wx [g3, g2, g1, g0]
  ord : g0 < g1 ∧ g1 < g2
  row : Kd.N k47 47 wx w.heap.size (Fp w P [g3, g2, g1, g0]) (.slice A9 m9 c9) (((S.l.take i).map (crF S keep)).map toF)
  old : (∀ k, (Value.slice A9 m9 c9).ownBlock = some k → k < g3) ∧ g0 < g3 ∧ g1 < g3 ∧ g2 < g3 ∧ w.heap.size ≤ g3
  cur : Kd.V (Kd.int .u8) 5 wx 0 (fun k => (P k ∧ k < w.heap.size) ∨ g3 < k) (.slice aB nB cB) (crB S keep f j)
section
variable {w wx w' : World} {P : Nat → Prop} {g0 g1 g2 g3 m c i m9 c9 j nB cB : Nat} {A A9 aB : Option Addr} {S : PS} {keep : List Bool} {f : PF}
theorem CrI.below (h : CrI w wx P g0 g1 g2 g3 A m c S keep i A9 m9 c9 f j aB nB cB) (hb : Below wx.heap.size wx w') : CrI w w' P g0 g1 g2 g3 A m c S keep i A9 m9 c9 f j aB nB cB :=
  ⟨Blk.belowW h.b0 hb, Blk.belowW h.b1 hb, Blk.belowW h.b2 hb, Blk.belowW h.b3 hb, h.fr.call hb, h.ord, Kd.N_below h.row hb, h.old, V_rebase (Kd.V_below h.cur hb)⟩
theorem CrO.below (h : CrO w wx P g0 g1 g2 A m c S keep i A9 m9 c9) (hb : Below wx.heap.size wx w') : CrO w w' P g0 g1 g2 A m c S keep i A9 m9 c9 :=
  ⟨Blk.belowW h.b0 hb, Blk.belowW h.b1 hb, Blk.belowW h.b2 hb, h.fr.call hb, h.ord, Kd.N_below h.row hb⟩
theorem CrO.box {aB : Option Addr} {nB cB : Nat} (h : CrO w wx P g0 g1 g2 A m c S keep i A9 m9 c9) (hg : g3 = wx.heap.size) (hx : Blk w' g3 47 #[.string f.name, .slice aB nB cB, .slice none 0 0]) (hb : Below wx.heap.size wx w') (hv : Kd.V (Kd.int .u8) 5 w' 0 (fun k => P k ∧ k < w.heap.size) (.slice aB nB cB) f.b) :
    CrI w w' P g0 g1 g2 g3 A m c S keep i A9 m9 c9 f 0 aB nB cB := by
  have hf := h.fr
  refine ⟨Blk.belowW h.b0 hb, Blk.belowW h.b1 hb, Blk.belowW h.b2 hb, hx, hf.box hg hb hx.lt, h.ord, ?_, ⟨fun k hk => hg ▸ Kd.N_lt h.row k hk, hg ▸ h.b0.lt, hg ▸ h.b1.lt, hg ▸ h.b2.lt, hg ▸ hf.size⟩, ?_⟩
  · refine Kd.N_mono (Kd.N_below (Kd.N_bound h.row) hb) (fun k hk => ⟨hk.1.1, fun hm => ?_⟩)
    rcases List.mem_cons.1 hm with rfl | hm
    · have := hk.2; omega
    · exact hk.1.2 hm
  · have : crB S keep f 0 = f.b := by simp [crB]
    rw [this]
    exact Kd.V_mono hv (fun k hk => .inl hk)
theorem CrI.skip (h : CrI w wx P g0 g1 g2 g3 A m c S keep i A9 m9 c9 f j aB nB cB) (hj : j < f.row.length) (hk : keptAt keep (rankP S f.row[j].no) = false) : CrI w wx P g0 g1 g2 g3 A m c S keep i A9 m9 c9 f (j + 1) aB nB cB := by
  have e : crB S keep f (j + 1) = crB S keep f j := by rw [crB_succ S keep f hj, if_neg (by simp [hk])]
  exact ⟨h.b0, h.b1, h.b2, h.b3, h.fr, h.ord, h.row, h.old, e ▸ h.cur⟩
theorem CrI.lay {aB' : Option Addr} {nB' cB' : Nat} {w2 : World} (h : CrI w wx P g0 g1 g2 g3 A m c S keep i A9 m9 c9 f j aB nB cB) (hj : j < f.row.length) (hk : keptAt keep (rankP S f.row[j].no) = true) (hb : Below wx.heap.size wx w2) (hv : Kd.V (Kd.int .u8) 5 w2 0 (fun k => wx.heap.size ≤ k) (.slice aB' nB' cB') (overP (crB S keep f j) f.row[j]))
    (hx : Blk w' g3 47 #[.string f.name, .slice aB' nB' cB', .slice none 0 0]) (hkp : YtcpkoajnepijkaaW.PrintWords.Kept w2 w' (fun k => k = g3)) (hsz : w'.heap.size = w2.heap.size) (hbl : ∀ {B w0}, Below B w0 w2 → B ≤ g3 → Below B w0 w') :
    CrI w w' P g0 g1 g2 g3 A m c S keep i A9 m9 c9 f (j + 1) aB' nB' cB' := by
  have h2 := h.below hb
  obtain ⟨o1, o2, o3, o4, o5⟩ := h.old
  have hlt := h.b3.lt
  have e : crB S keep f (j + 1) = overP (crB S keep f j) f.row[j] := by rw [crB_succ S keep f hj, if_pos hk]
  refine ⟨blk_kept h2.b0 hkp (Nat.ne_of_lt o2), blk_kept h2.b1 hkp (Nat.ne_of_lt o3), blk_kept h2.b2 hkp (Nat.ne_of_lt o4), hx, h2.fr.store hsz hbl (by simp), h.ord, ?_, h.old, ?_⟩
  · exact Kd.N_step h2.row (fun k hk1 hk2 => hkp.2 k hk2 (fun e => hk1.2 (by rw [e]; simp)))
  · rw [e]
    exact Kd.V_mono (Kd.V_kept hv hkp (fun k hk1 e => by omega)) (fun k hk1 => .inr (by omega))
theorem CrI.more {A8 : Option Addr} {n8 c8 : Nat} {w2 : World} (h : CrI w wx P g0 g1 g2 g3 A m c S keep i A9 m9 c9 f f.row.length aB nB cB) (hi : S.l[i]? = some f)
    (hn : Kd.N k47 47 w2 w.heap.size (Fp w P [g3, g2, g1, g0]) (.slice A8 n8 c8) ((((S.l.take i).map (crF S keep)).map toF) ++ [toF (crF S keep f)])) (hb : Below w.heap.size w w2) (hg : wx.grownBy w2 (Value.slice A9 m9 c9).ownBlock)
    (hx : Blk w' g2 29 #[.slice A8 n8 c8, .int .i64 S.no, .int .i64 S.ops, .int .i64 (-1), .int .i64 (-1), .bool false]) (hkp : YtcpkoajnepijkaaW.PrintWords.Kept w2 w' (fun k => k = g2)) (hsz : w'.heap.size = w2.heap.size) (hbl : ∀ {B w0}, Below B w0 w2 → B ≤ g2 → Below B w0 w') :
    CrO w w' P g0 g1 g2 A m c S keep (i + 1) A8 n8 c8 := by
  obtain ⟨hlt, rfl⟩ := List.getElem?_eq_some_iff.1 hi
  have hl := h.fr.lt
  obtain ⟨o1, o2⟩ := h.ord
  have kb : ∀ {g : Nat} {cs : Array Value}, Blk wx g 29 cs → g ≠ g2 → Blk w' g 29 cs := fun {g cs} hB hne => blk_kept (blk_grown hB hg (Kd.N_ne h.row hB (by decide))) hkp hne
  refine ⟨kb h.b0 (by omega), kb h.b1 (by omega), hx, ⟨hbl hb (hl g2 (by simp)).1, fun g hm => ?_⟩, h.ord, ?_⟩
  · have := hl g (List.mem_cons_of_mem _ hm)
    exact ⟨this.1, by have := hg.size; omega⟩
  · have e : ((S.l.take (i + 1)).map (crF S keep)).map toF = (((S.l.take i).map (crF S keep)).map toF) ++ [toF (crF S keep S.l[i])] := by
      rw [List.take_succ_eq_append_getElem hlt, List.map_append, List.map_append]
      rfl
    rw [e]
    exact Kd.N_mono (Kd.N_step hn (fun k hk1 hk2 => hkp.2 k hk2 (fun e => hk1.2 (by rw [e]; simp)))) (fun k hk1 => ⟨hk1.1, fun hm => hk1.2 (List.mem_cons_of_mem _ hm)⟩)
def okI (w : World) (P : Nat → Prop) (g3 k : Nat) : Prop := (P k ∧ k < w.heap.size) ∨ g3 < k
theorem CrI.elem (h : CrI w wx P g0 g1 g2 g3 A m c S keep i A9 m9 c9 f f.row.length aB nB cB) : Kd.FK k47 wx (okI w P g3) (toF (crF S keep f)) [.string f.name, .slice aB nB cB, .slice none 0 0] := by
  have hn := V_len h.cur
  subst hn
  obtain ⟨_, l1, g1'⟩ := Kd.V_at h.cur
  rw [crB_all]
  exact k47_mkF wx (okI w P g3) (toF ⟨f.name, crB S keep f f.row.length, []⟩) (A1 := aB) (c1 := cB) (A2 := none) (c2 := 0) l1 g1' (Nat.le_refl _) (Kd.F_nil _ _ _)
theorem CrI.okI (h : CrI w wx P g0 g1 g2 g3 A m c S keep i A9 m9 c9 f j aB nB cB) : ∀ k, okI w P g3 k → Fp w P [g3, g2, g1, g0] k ∧ some k ≠ (Value.slice A9 m9 c9).ownBlock := by
  obtain ⟨o1, o2, o3, o4, o5⟩ := h.old
  have hl := h.fr.lt
  intro k hk
  rcases hk with hk | hk
  · refine ⟨⟨.inl hk.1, fun hm => by have := (hl k hm).1; have := hk.2; omega⟩, fun e => by have := Kd.N_base h.row k e.symm; have := hk.2; omega⟩
  · refine ⟨⟨.inr (by omega), fun hm => ?_⟩, fun e => by have := o1 k e.symm; omega⟩
    simp only [List.mem_cons, List.not_mem_nil, or_false] at hm
    omega
theorem CrI.fresh (h : CrI w wx P g0 g1 g2 g3 A m c S keep i A9 m9 c9 f j aB nB cB) : ∀ k, wx.heap.size ≤ k → Fp w P [g3, g2, g1, g0] k :=
  fun k hk => ⟨.inr (Nat.le_trans h.fr.size hk), fun hm => by have := (h.fr.lt k hm).2; omega⟩
theorem CrI.b2far {w2 : World} (h : CrI w wx P g0 g1 g2 g3 A m c S keep i A9 m9 c9 f j aB nB cB) (hg : wx.grownBy w2 (Value.slice A9 m9 c9).ownBlock) : Blk w2 g2 29 #[.slice A9 m9 c9, .int .i64 S.no, .int .i64 S.ops, .int .i64 (-1), .int .i64 (-1), .bool false] := blk_grown h.b2 hg (Kd.N_ne h.row h.b2 (by decide))
theorem ret29c {fn : Func} {R : Ending → World → Prop} (h : fn.results = #[.cell 4 29]) {a : Act} {w : World} {g : Nat} {cs : Array Value} (hp : a.tmps.getD 4 undef = .pointer (some ⟨g, 0, none⟩)) (hB : Blk w g 29 cs) (hs : cs.size = 6) (hd : a.defers = []) (hR : R (.returned (.agg cs)) w) : bodyPost Try.prog fn R .ret a w :=
  bodyPost_ret (results_cell_row h _ _ g 29 cs (0, 0) _ hp hB Try.underlying29 rfl (by rw [hs]; exact info29)) hd hR
theorem CrO.done {fn : Func} {a : Act} (h : CrO w wx P g0 g1 g2 A m c S keep i A9 m9 c9) (hi : i = S.l.length) (hr : fn.results = #[.cell 4 29]) (hp : a.tmps.getD 4 undef = .pointer (some ⟨g1, 0, none⟩)) (hd : a.defers = []) :
    bodyPost Try.prog fn (fun e w' => ∃ v', e = .returned v' ∧ RSt w' (fun k => P k ∨ w.heap.size ≤ k) v' (crashP S keep) ∧ Below w.heap.size w w') .ret a
      ((((((wx.setCell ⟨g1, 0, none⟩ (.slice A9 m9 c9)).setCell ⟨g1, 1, none⟩ (.int .i64 S.no)).setCell ⟨g1, 2, none⟩ (.int .i64 S.ops)).setCell ⟨g1, 3, none⟩ (.int .i64 (-1))).setCell ⟨g1, 4, none⟩ (.int .i64 (-1))).setCell ⟨g1, 5, none⟩ (.bool false)) := by
  subst hi
  have hv := Kd.N_V (base' := 0) h.row
  rw [List.take_length] at hv
  have hm := V_len hv
  subst hm
  refine ret29c hr hp (Blk.fill h.b1 _ _ _ _ _ _) rfl hd ⟨_, rfl, ⟨A9, c9, rfl, ?_⟩, fill_below h.fr.below (h.fr.lt g1 (by simp)).1 _ _ _ _ _ _⟩
  exact Kd.V_mono (V_fill hv (fun k hk e => hk.2 (by rw [e]; simp)) _ _ _ _ _ _) (fun k hk => hk.1)
end
end Go.Proofs.Ytcpkoajnepijkaa

