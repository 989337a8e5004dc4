/- Parts of the proof of the law that the last file states; declarations that nothing mentions are left out by a program. No conditions. -/
import Derived.Test.YtledplnlcjfafaaDoorLLayW2q
import Derived.Test.YtledplnlcjfafaaDoorLEachq
import Derived.Test.YtledplnlcjfafaaDoorLRoundq
set_option linter.unusedVariables false
set_option linter.unusedSimpArgs false
section
namespace Go.Proofs.YtledplnlcjfafaaDoorL
open Go Go.RowKit Go.Proofs.YtledplnlcjfafaaDoorW.PrintWords
attribute [local go_sem] Oper.semAt_some
theorem sumG_app : ∀ (a b : List (Nat × ByteArray)), sumG (a ++ b) = sumG a + sumG b
  | [], b => by simp [sumG]
  | x :: a, b => by rw [List.cons_append, sumG, sumG, sumG_app a b]; omega
theorem valC_snoc {s : ByteArray} (pre : List (Clu s)) (x : Clu s) : valC s (pre ++ [x]) = valC s pre ++ [x.1] := by unfold valC; rw [List.map_append]; rfl
theorem boxed_put {W : World} {B : Nat} {t : TypeId} {v : Value} (h : Boxed W B t v) (u : Value) : Boxed (W.setCell ⟨B, 0, none⟩ u) B t u ∧ KeepsOthers W (W.setCell ⟨B, 0, none⟩ u) ∧ ∀ {b : Nat}, b ≤ B → Below b W (W.setCell ⟨B, 0, none⟩ u) := by
  refine ⟨?_, ⟨by simp [World.setCell], fun k o ho hc => ?_⟩, fun hb => (Below.refl _ W).setCell (p := ⟨B, 0, none⟩) hb u⟩
  · unfold Boxed at h ⊢
    simp [World.setCell, Array.getElem?_modify, h]
  · by_cases hk : k = B
    · subst hk
      unfold Boxed at h
      rw [h] at ho
      cases ho
      cases hc
    · rw [Below.heap_setCell W ⟨B, 0, none⟩ u k hk]
      exact ho
theorem KeepsOthers.of_below {W W' : World} (h : Below W.heap.size W W') : KeepsOthers W W' := ⟨h.size, fun k o ho _ => (h.block k (Array.getElem?_eq_some_iff.1 ho).1).trans ho⟩
theorem valC_len {s : ByteArray} (pre : List (Clu s)) : (valC s pre).length = pre.length := by unfold valC; rw [List.length_map]
set_option maxRecDepth 100000 in
set_option maxHeartbeats 4000000 in
theorem sum_calls (s : ByteArray) (hs : s.size ≤ 1200) (w : World) :
    Calls Tryd.prog 29 #[.string s] w fun e W' => e = .returned (.int .i64 (sumW s : Int)) ∧ Below w.heap.size w W' := by
  have hlen : (eachL s).length ≤ s.size + 1 := eachL_len s
  have hck := eachL_ck hs
  refine (callsIn_wide (n := 5)).1 ?_
  refine callsIn_of_wp_marks Tryd.func29 rfl trivial ?_ rfl
  simp only [Tryd.ntmps29, List.size_toArray, List.length_cons, List.length_nil, Nat.reduceAdd, Nat.reduceSub, Array.replicate_succ, Array.replicate_zero, List.push_toArray, List.append_toArray, List.nil_append, List.cons_append]
  gi_wp2_with (refine ⟨trivial, ?_⟩; gi_at_call 25; refine (each_in _ s _).mono ?_; rintro e w' ⟨rfl, rfl⟩)
  have bO := Boxed.new w 3 (.int .i64 0)
  have bN := Boxed.new (w.alloc (.cells #[.int .i64 0] 3)) 9 (.string s)
  rw [World.size_alloc] at bN
  have hB0 : Below w.heap.size w ((w.alloc (.cells #[.int .i64 0] 3)).alloc (.cells #[.string s] 9)) := ((Below.refl _ w).alloc (Nat.le_refl _) _).alloc (by simp) _
  refine wpIn_rangeFunc_ownF rfl (by decide) (gf := 43) (lb := #[.pointer (some ⟨w.heap.size + 1, 0, none⟩)]) rfl trivial (enters_of Tryd.func43 (by kernel_rfl) rfl)
    (each_mem 4 (by decide) (w.heap.size + 1) s (by omega) _ (by simp) bN.cell) KpE.t (KpE.b (by simp)) (Below.refl _ _) (fun _ => rfl)
    (fun pre W => Boxed W w.heap.size 3 (.int .i64 (sumG (valC s pre) : Int)) ∧ Boxed W (w.heap.size + 1) 9 (.string s) ∧ Below w.heap.size w W)
    (fun _ _ _ => False)
    (OwnFrom.and (Own.from (boxed_own w.heap.size 3 (fun pre => .int .i64 (sumG (valC s pre) : Int))) _) (OwnFrom.and (Own.from (boxed_own _ _ (fun _ => .string s)) _) (ownFrom_below (Nat.le_refl _) (by simp; omega))))
    (fun _ _ _ _ _ hs _ _ => hs)
    ⟨bO.alloc _, bN, hB0⟩
    (fun x => { tmps := #[.string s, undef, .int .i64 0, .pointer (some ⟨w.heap.size, 0, none⟩), undef, .string x.1.2, .string s, .func (.func 43) #[] #[.pointer (some ⟨w.heap.size + 1, 0, none⟩)], .int .i64 x.1.1, .string x.1.2, undef, undef, undef, undef, undef], defers := [] }) ?assign ?body ?done ?stop
  case assign =>
    intro l x W K hK
    dsimp only [encC, encE]
    gi_wp2
    exact hK
  case body =>
    rintro l pre x W ⟨hv, hN, hB⟩ hlt
    have hx := hck x.1 x.2
    have hsn : sumG (valC s (pre ++ [x])) = sumG (valC s pre) + wideC x.1.2 := by rw [valC_snoc, sumG_app]; rfl
    have hle := sumG_le (valC s pre)
    rw [valC_len] at hle
    have hw2 := wideC_cases x.1.2
    gi_wp2
    refine roundK (fun w' : World => w'.cell? ⟨w.heap.size, 0, none⟩ = some (.int .i64 (sumG (valC s pre) : Int))) 4 (by kernel_rfl) (by kernel_rfl) (fun ⟨_, _, h⟩ => h) (fun wd hb => ?_)
    have hv1 := hv.kept (grown_below hb) (by simp)
    have hHd : (fun w' : World => w'.cell? ⟨w.heap.size, 0, none⟩ = some (.int .i64 (sumG (valC s pre) : Int))) wd := hv1.cell
    refine wpAnyK_take (i := 0) (v := ?v1) rfl (by kernel_rfl) (by kernel_rfl) (by kernel_rfl) (by kernel_rfl) (fun _ _ _ h => h) (Or.inl ⟨by rfl, ?hy1⟩) (by assumption) ?rest1
    case hy1 => (intro w hSw; (try dsimp only at hSw); go_simp; try (with_reducible rfl))
    case rest1 =>
    try simp only [Act.put, List.setIfInBounds_toArray, List.set_cons_zero, List.set_cons_succ]
    refine wpAnyK_take (i := 1) (v := ?v2) rfl (by kernel_rfl) (by kernel_rfl) (by kernel_rfl) (by kernel_rfl) (fun _ _ _ h => h) (Or.inl ⟨by rfl, ?hy2⟩) (by assumption) ?rest2
    case hy2 => (intro w hSw; (try dsimp only at hSw); go_simp; try (with_reducible rfl))
    case rest2 =>
    try simp only [Act.put, List.setIfInBounds_toArray, List.set_cons_zero, List.set_cons_succ]
    refine wpAnyK_ready (rs := [2]) (by kernel_rfl) (by simp) ?_
    refine AllReadyK.cons rfl (fun K hK => ?_) AllReadyK.nil
    go_simp
    go_at_call 47
    with_reducible refine (wide2_calls x.1.2 hx.1 (by omega) wd).mono ?_
    rintro _ w3 ⟨rfl, hb3⟩
    have hv3 := hv1.kept (grown_below hb3) (by simp)
    clear hHd
    have hHd : (fun w' : World => w'.cell? ⟨w.heap.size, 0, none⟩ = some (.int .i64 (sumG (valC s pre) : Int))) w3 := hv3.cell
    go_simp
    refine hK.out _ _ (.inr hHd) ?_
    clear hK K
    try simp only [Act.put, List.setIfInBounds_toArray, List.set_cons_zero, List.set_cons_succ]
    refine wpAnyK_take (i := 3) (v := .int .i64 ((sumG (valC s pre) : Int) + (wideC x.1.2 : Int))) rfl (by kernel_rfl) (by kernel_rfl) (by kernel_rfl) (by kernel_rfl) (fun _ _ _ h => h) (Or.inl ⟨by rfl, ?hy3⟩) (by assumption) ?rest3
    case hy3 => (intro w hSw; (try dsimp only at hSw); clear hSw; go_simp; rw [IntKind.wrap_i64]; omega)
    case rest3 =>
    try simp only [Act.put, List.setIfInBounds_toArray, List.set_cons_zero, List.set_cons_succ]
    refine wpAnyK_ready (rs := [4]) (by kernel_rfl) (by simp) ?_
    refine AllReadyK.cons rfl (fun K hK => ?_) AllReadyK.nil
    rw [if_pos (by first | rfl | (go_simp; done) | (go_simp; rfl))]
    refine cell_step rfl rfl (g := w.heap.size) (i := 0) (v := .int .i64 ((sumG (valC s pre) : Int) + (wideC x.1.2 : Int))) (by first | rfl | (go_simp; done) | (go_simp; rfl)) (by first | rfl | (go_simp; done) | (go_simp; rfl)) hv3.cell hv3.frozen infoInt1 rfl ?_
    refine hK.out _ _ (.inl (by kernel_rfl)) ?_
    clear hK K
    try simp only [Act.put, List.setIfInBounds_toArray, List.set_cons_zero, List.set_cons_succ]
    refine wpAnyK_done (by kernel_rfl) ?_ _
    have hbw := hb.trans (hb3.mono hb.size)
    have hN3 := hN.kept (grown_below hbw) (by simp)
    have hB3 := hB.trans (hbw.mono hB.size)
    obtain ⟨hv4, hk4, hb4⟩ := boxed_put hv3 (.int .i64 ((sumG (valC s pre) : Int) + (wideC x.1.2 : Int)))
    have hN4 := hN3.other (B' := w.heap.size) (by omega) (.int .i64 ((sumG (valC s pre) : Int) + (wideC x.1.2 : Int)))
    have hko : KeepsOthers W _ := (KeepsOthers.of_below hbw).trans hk4
    refine ⟨hko, ⟨hN4.trans (show W.heap[w.heap.size + 1]? = _ from hN).symm, hko.walks⟩, ?_, hN4, hB3.trans (hb4 (Nat.le_refl _))⟩
    rw [hsn, show ((sumG (valC s pre) + wideC x.1.2 : Nat) : Int) = (sumG (valC s pre) : Int) + (wideC x.1.2 : Int) by omega]
    exact hv4
  case done =>
    rintro D ys W hD hys ⟨hv, hN, hB⟩ hK
    have hc := hv.cell
    gi_wp2
    refine ⟨by simp, .inl ⟨_, _, rfl, run_takeDeferred hK, ?_⟩⟩
    refine ⟨_, results_tmp rfl _ _ _, ?_, hB.trans (belowK_b (w := w) (Nat.le_refl _) W D _ _ (by simp at hD; omega) hK rfl rfl)⟩
    unfold sumW
    rw [← hys]
    rfl
  case stop =>
    rintro D c pre W _ _ h _
    exact h.elim
end Go.Proofs.YtledplnlcjfafaaDoorL
end
section
namespace Go.Proofs.YtledplnlcjfafaaDoorL
open Go Go.RowKit Go.Proofs.YtledplnlcjfafaaDoorW.PrintWords
def exF (g : Nat) (lv : Value) (L : List RR) (k : Nat) : Prop := k = g ∨ lv.ownBlock = some k ∨ ∃ r ∈ L, r.g = k
def ShX (w : World) (g : Nat) (s : Sh) (lv : Value) (L : List RR) : Prop := ShO (exF g lv L) w g s lv L
section
variable {P F : Nat → Prop} {w w' : World} {g : Nat} {s : Sh} {lv : Value} {L : List RR}
theorem RowsO.exact_ {l : List (List TC)} (h : RowsO P w lv L l) : RowsO (fun k => lv.ownBlock = some k ∨ ∃ r ∈ L, r.g = k) w lv L l :=
  ⟨⟨fun k hk => .inl hk, h.q.2⟩, h.f, h.nd, fun r hr => .inr ⟨r, hr, rfl⟩⟩
theorem ShO.x (h : ShO P w g s lv L) : ShX w g s lv L := ⟨h.b, .inl rfl, h.r.exact_.mono (fun k hk => .inr hk)⟩
theorem ShO.ex (h : ShO P w g s lv L) : ∀ k, exF g lv L k → P k := by
  rintro k (rfl | hk | ⟨r, hr, rfl⟩)
  · exact h.pt
  · exact h.r.q.1 k hk
  · exact h.r.pr r hr
theorem RowsO.cells {l : List (List TC)} (h : RowsO P w lv L l) {k : Nat} (hk : lv.ownBlock = some k ∨ ∃ r ∈ L, r.g = k) : ∃ cs t, w.heap[k]? = some (.cells cs t (0, 0)) ∧ (t = 40 ∨ t = 42) := by
  rcases hk with hk | ⟨r, hr, rfl⟩
  · obtain ⟨cells, hc⟩ := Kd.Q_typed h.q k hk
    exact ⟨_, _, hc, .inl rfl⟩
  · obtain ⟨x, hx⟩ := h.at_ hr
    obtain ⟨_, _, _, cur, hc, _⟩ := hx
    exact ⟨_, _, hc, .inr rfl⟩
theorem ShX.cells (h : ShX w g s lv L) {k : Nat} (hk : exF g lv L k) : ∃ cs t, w.heap[k]? = some (.cells cs t (0, 0)) ∧ (t = 63 ∨ t = 40 ∨ t = 42) := by
  rcases hk with rfl | hk
  · exact ⟨_, _, h.b, .inl rfl⟩
  · obtain ⟨cs, t, hc, ht⟩ := RowsO.cells h.r hk
    exact ⟨cs, t, hc, .inr ht⟩
theorem ShX.lt (h : ShX w g s lv L) {k : Nat} (hk : exF g lv L k) : k < w.heap.size := by
  obtain ⟨cs, t, hc, _⟩ := h.cells hk
  exact (Array.getElem?_eq_some_iff.1 hc).1
theorem ShX.ne {b : Nat} {t : TypeId} {cs : Array Value} (h : ShX w g s lv L) (hb : Blk w b t cs) (h0 : t ≠ 63) (h1 : t ≠ 40) (h2 : t ≠ 42) : ¬ exF g lv L b := fun hk => by
  obtain ⟨cs', t', hc, ht⟩ := h.cells hk
  unfold Blk at hb
  rw [hb] at hc
  injection hc with hc
  injection hc with _ hc
  rcases ht with e | e | e
  · exact h0 (hc.trans e)
  · exact h1 (hc.trans e)
  · exact h2 (hc.trans e)
theorem ShX.move (h : ShX w g s lv L) (hm : ∀ k, exF g lv L k → k < w.heap.size → w'.heap[k]? = w.heap[k]?) : ShX w' g s lv L := ShO.move h hm
theorem ShX.below (h : ShX w g s lv L) (hb : Below w.heap.size w w') : ShX w' g s lv L := ShO.below h hb
theorem ShX.others (h : ShX w g s lv L) (ho : Only (exF g lv L) w w') : KeepsOthers w w' := ho.others (fun k hk _ => by
  obtain ⟨cs, t, hc, _⟩ := h.cells hk
  exact ⟨cs, t, _, hc⟩)
theorem ShX.grown (h : ShX w g s lv L) {row : Option Nat} (hg : w.grownBy w' row) (hr : ∀ r, row = some r → ∃ o : Obj, w.heap[r]? = some o ∧ o.isCells = false) : ShX w' g s lv L := h.move (fun k hk hl => hg.block k hl (fun e => by
  obtain ⟨o, ho, hc⟩ := hr k e.symm
  obtain ⟨cs, t, hc2, _⟩ := h.cells hk
  rw [hc2] at ho
  cases ho
  cases hc))
theorem Blk.grown_ {b : Nat} {t : TypeId} {cs : Array Value} (h : Blk w b t cs) {row : Option Nat} (hg : w.grownBy w' row) (hr : ∀ r, row = some r → ∃ o : Obj, w.heap[r]? = some o ∧ o.isCells = false) : Blk w' b t cs := (hg.block b h.lt (fun e => by
  obtain ⟨o, ho, hc⟩ := hr b e.symm
  unfold Blk at h
  rw [h] at ho
  cases ho
  cases hc)).trans h
end
theorem srow_x {w : World} {g : Nat} {s : Sh} {lv : Value} {L : List RR} (h : ShX w g s lv L) (h1 : 1 ≤ s.cols) (h2 : s.cols ≤ 120) (hn : s.l.length ≤ 100000) :
    Calls Tryd.prog 23 #[.pointer (some ⟨g, 0, none⟩)] w fun e w' => e = .returned (.tuple #[]) ∧ ∃ lv' L', ShX w' g s.fresh lv' L' ∧ (∀ k, exF g lv' L' k → exF g lv L k ∨ w.heap.size ≤ k) ∧ Only (exF g lv L) w w' := by
  refine (srow_calls (P := fun k => exF g lv L k ∨ w.heap.size ≤ k) ⟨lv, L, ShO.mono h (fun k hk => .inl hk)⟩ (fun k hk => .inr hk) h1 h2 hn).mono ?_
  rintro _ w' ⟨rfl, ⟨lv', L', hs⟩, ho⟩
  exact ⟨rfl, lv', L', hs.x, hs.ex, ⟨ho.os, ho.tape, ho.output, ho.size, fun i hi hne => ho.block i hi (fun hp => hp.elim hne (fun hs => by omega))⟩⟩
theorem sput_x {w : World} {g : Nat} {s : Sh} {lv : Value} {L : List RR} (h : ShX w g s lv L) (hk : SK s) (hn : s.l.length ≤ 10000) (c : ByteArray) (hc : 0 < c.size ∧ c.size ≤ 1200) :
    Calls Tryd.prog 26 #[.pointer (some ⟨g, 0, none⟩), .string c] w fun e w' => e = .returned (.tuple #[.int .i64 ((s.at_ c).1 : Int), .int .i64 ((s.at_ c).2 : Int)]) ∧ ∃ lv' L', ShX w' g (s.put c) lv' L' ∧ (∀ k, exF g lv' L' k → exF g lv L k ∨ w.heap.size ≤ k) ∧ Only (exF g lv L) w w' := by
  refine (sput_calls (P := fun k => exF g lv L k ∨ w.heap.size ≤ k) ⟨lv, L, ShO.mono h (fun k hk => .inl hk)⟩ hk (fun k hk => .inr hk) hn c hc).mono ?_
  rintro _ w' ⟨rfl, ⟨lv', L', hs⟩, ho⟩
  exact ⟨rfl, lv', L', hs.x, hs.ex, ⟨ho.os, ho.tape, ho.output, ho.size, fun i hi hne => ho.block i hi (fun hp => hp.elim hne (fun hs => by omega))⟩⟩
end Go.Proofs.YtledplnlcjfafaaDoorL
end
