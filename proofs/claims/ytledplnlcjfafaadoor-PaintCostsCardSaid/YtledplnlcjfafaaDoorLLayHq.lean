/- Parts of the proof of the law that the last file states; declarations that nothing mentions are left out by a program. No conditions. -/
import Derived.Test.YtledplnlcjfafaaDoorLTermW8q
import Derived.Test.YtledplnlcjfafaaDoorLLayQq
set_option linter.unusedVariables false
set_option linter.unusedSimpArgs false
namespace Go.Proofs.YtledplnlcjfafaaDoorL
open Go Go.RowKit Go.Proofs.YtledplnlcjfafaaDoorW.PrintWords
structure RowsO (P : Nat → Prop) (w : World) (lv : Value) (L : List RR) (l : List (List TC)) : Prop where
  q : rrK.Q 40 w 0 P lv L
  f : All2 (RowAt w) L l
  nd : (L.map RR.g).Nodup
  pr : ∀ r ∈ L, P r.g
section
variable {P P' : Nat → Prop} {w w' : World} {lv : Value} {L : List RR} {l : List (List TC)}
theorem RowsO.nil (P : Nat → Prop) (w : World) : RowsO P w (.slice none 0 0) [] [] := ⟨Kd.Q_nil _ _ _ _ _, .nil, List.nodup_nil, fun r hr => by cases hr⟩
theorem RowsO.len (h : RowsO P w lv L l) : L.length = l.length := forall_len h.f
theorem RowsO.at_ (h : RowsO P w lv L l) {r : RR} (hr : r ∈ L) : ∃ x, RowAt w r x := by
  obtain ⟨l, _, h1⟩ := forall_mem h.f hr
  exact ⟨l, h1⟩
theorem RowsO.lt (h : RowsO P w lv L l) : ∀ r ∈ L, r.g < w.heap.size := fun r hr => by
  obtain ⟨l, h1⟩ := h.at_ hr
  exact h1.lt
theorem RowsO.move (h : RowsO P w lv L l) (hm : ∀ k, P k → k < w.heap.size → w'.heap[k]? = w.heap[k]?) : RowsO P w' lv L l :=
  ⟨q_frame rfl h.q (fun k hk => hm k (h.q.1 k hk) (Kd.Q_lt h.q k hk)), forall_imp h.f (fun r hr l hl => hl.to (hm r.g (h.pr r hr) hl.lt)), h.nd, h.pr⟩
theorem RowsO.below (h : RowsO P w lv L l) (hb : Below w.heap.size w w') : RowsO P w' lv L l := h.move (fun k _ hk => hb.block k hk)
theorem RowsO.mono (h : RowsO P w lv L l) (hP : ∀ k, P k → P' k) : RowsO P' w lv L l := ⟨Kd.Q_mono h.q hP, h.f, h.nd, fun r hr => hP _ (h.pr r hr)⟩
theorem RowsO.bound (h : RowsO P w lv L l) : RowsO (fun k => P k ∧ k < w.heap.size) w lv L l :=
  ⟨Kd.Q_mono (Kd.Q_bound h.q) (fun k hk => ⟨hk.1, hk.2.2.1⟩), h.f, h.nd, fun r hr => ⟨h.pr r hr, h.lt r hr⟩⟩
theorem RowsO.ne {g : Nat} {t : TypeId} {cs : Array Value} (h : RowsO P w lv L l) (hb : Blk w g t cs) (h1 : t ≠ 40) (h2 : t ≠ 42) : RowsO (fun k => P k ∧ k ≠ g) w lv L l :=
  ⟨⟨fun k hk => ⟨h.q.1 k hk, fun e => Kd.Q_ne h.q hb (fun e => h1 e.symm) (by rw [hk, e])⟩, (Kd.Q_mono h.q (fun k hk => hk)).2⟩, h.f, h.nd, fun r hr => ⟨h.pr r hr, fun e => by
    obtain ⟨x, hx⟩ := h.at_ hr
    exact hx.ne_blk hb h2 e.symm⟩⟩
theorem RowsO.set_ {g i : Nat} {t : TypeId} {cs : Array Value} (h : RowsO P w lv L l) (hb : Blk w g t cs) (h1 : t ≠ 40) (h2 : t ≠ 42) (u : Value) : RowsO P (w.setCell ⟨g, i, none⟩ u) lv L l :=
  ((h.ne hb h1 h2).move (fun k hk _ => Below.heap_setCell w ⟨g, i, none⟩ u k hk.2)).mono (fun k hk => hk.1)
theorem RowsO.app {w1 : World} {v1 : Value} {rn : RR} {ln : List TC} (h : RowsO P w lv L l) (hr : RowAt w rn ln) (hn : ∀ r ∈ L, r.g ≠ rn.g) (hP : P rn.g) (hq : rrK.Q 40 w1 0 P v1 (L ++ [rn])) (hg : w.grownBy w1 lv.ownBlock) : RowsO P w1 v1 (L ++ [rn]) (l ++ [ln]) := by
  have k : ∀ r l, RowAt w r l → RowAt w1 r l := fun r l hl => hl.to (hg.block _ hl.lt (fun e => q_type_ne h.q hl (by decide) e.symm))
  refine ⟨hq, all2_app (forall_imp h.f (fun r _ l hl => k r l hl)) (k rn ln hr), ?_, fun r hr => ?_⟩
  · rw [List.map_append, List.nodup_append]
    refine ⟨h.nd, by simp, fun a ha b hb => ?_⟩
    obtain ⟨r, hr, rfl⟩ := List.mem_map.1 ha
    rw [List.map_singleton, List.mem_singleton] at hb
    rw [hb]
    exact hn r hr
  · rcases List.mem_append.1 hr with h1 | h1
    · exact h.pr r h1
    · rw [List.mem_singleton.1 h1]; exact hP
theorem RowsO.look (h : RowsO P w lv L l) {i : Nat} (hi : i < l.length) : ∃ c ad r, lv = .slice (some ad) l.length c ∧ w.cell? (ad.add i) = some (RR.v r) ∧ RowAt w r l[i] ∧ P r.g ∧ L[i]? = some r ∧
    ∀ (w' : World) (f : List TC → List TC), RowAt w' r (f l[i]) → Only (· = r.g) w w' → RowsO P w' lv L (l.modify i f) := by
  have hlen := h.len
  obtain ⟨A, c, rfl, hc⟩ := Kd.Q_slice h.q
  obtain ⟨ad, rfl, hcell, _⟩ := spine_cell h.q (i := i) (by omega)
  have hrow := forall_get h.f i (by omega) hi
  have hmem : L[i]'(by omega) ∈ L := List.getElem_mem _
  refine ⟨c, ad, L[i]'(by omega), by rw [hlen], hcell, hrow, h.pr _ hmem, List.getElem?_eq_getElem _, fun w' f hf ho => ?_⟩
  have keep : ∀ k, k < w.heap.size → k ≠ (L[i]'(by omega)).g → w'.heap[k]? = w.heap[k]? := fun k hk hne => ho.block k hk hne
  have hne : ∀ j r, L[j]? = some r → j ≠ i → r.g ≠ (L[i]'(by omega)).g := fun j r hj hji => nodup_get h.nd (i := i) (by omega) hj hji
  exact ⟨q_frame rfl h.q (fun k hk => keep k (Kd.Q_lt h.q k hk) (fun e => q_type_ne h.q hrow (by decide) (e ▸ hk))), forall_modify h.f (fun _ _ => hf) (fun j r x hj hji hx => hx.to (keep r.g hx.lt (hne j r hj hji))), h.nd, h.pr⟩
theorem RowsO.take_ {A : Option Addr} {n c m : Nat} (h : RowsO P w (.slice A n c) L l) (hm : m ≤ l.length) : RowsO P w (.slice A m c) (L.take m) (l.take m) :=
  ⟨Kd.Q_take h.q (by rw [h.len]; exact hm), all2_take m h.f, List.Sublist.nodup ((List.take_sublist m L).map RR.g) h.nd, fun r hr => h.pr r (List.mem_of_mem_take hr)⟩
theorem RowsO.drop_ {A : Option Addr} {n c m : Nat} (h : RowsO P w (.slice A n c) L l) (hm : m ≤ l.length) : RowsO P w (.slice (if c = m then A else A.map (·.add (m * rrK.sz))) (n - m) (c - m)) (L.drop m) (l.drop m) :=
  ⟨Kd.Q_drop h.q (by rw [h.len]; exact hm), all2_drop m h.f, List.Sublist.nodup ((List.drop_sublist m L).map RR.g) h.nd, fun r hr => h.pr r (List.mem_of_mem_drop hr)⟩
end
def shV (s : Sh) (lv : Value) : Array Value := #[.int .i64 s.cols, lv, .int .i64 s.col]
structure ShO (P : Nat → Prop) (w : World) (g : Nat) (s : Sh) (lv : Value) (L : List RR) : Prop where
  b : Blk w g 63 (shV s lv)
  pt : P g
  r : RowsO P w lv L s.l
def ShAt (P : Nat → Prop) (w : World) (g : Nat) (s : Sh) : Prop := ∃ lv L, ShO P w g s lv L
section
variable {P P' : Nat → Prop} {w w' : World} {g : Nat} {s : Sh} {lv : Value} {L : List RR}
theorem ShO.move (h : ShO P w g s lv L) (hm : ∀ k, P k → k < w.heap.size → w'.heap[k]? = w.heap[k]?) : ShO P w' g s lv L := ⟨h.b.to (hm g h.pt h.b.lt), h.pt, h.r.move hm⟩
theorem ShO.below (h : ShO P w g s lv L) (hb : Below w.heap.size w w') : ShO P w' g s lv L := h.move (fun k _ hk => hb.block k hk)
theorem ShO.mono (h : ShO P w g s lv L) (hP : ∀ k, P k → P' k) : ShO P' w g s lv L := ⟨h.b, hP _ h.pt, h.r.mono hP⟩
theorem ShO.bound (h : ShO P w g s lv L) : ShO (fun k => P k ∧ k < w.heap.size) w g s lv L := ⟨h.b, ⟨h.pt, h.b.lt⟩, h.r.bound⟩
theorem ShAt.move (h : ShAt P w g s) (hm : ∀ k, P k → k < w.heap.size → w'.heap[k]? = w.heap[k]?) : ShAt P w' g s := by
  obtain ⟨lv, L, h⟩ := h
  exact ⟨lv, L, h.move hm⟩
theorem ShAt.below (h : ShAt P w g s) (hb : Below w.heap.size w w') : ShAt P w' g s := h.move (fun k _ hk => hb.block k hk)
theorem ShAt.mono (h : ShAt P w g s) (hP : ∀ k, P k → P' k) : ShAt P' w g s := by
  obtain ⟨lv, L, h⟩ := h
  exact ⟨lv, L, h.mono hP⟩
theorem ShAt.bound (h : ShAt P w g s) : ShAt (fun k => P k ∧ k < w.heap.size) w g s := by
  obtain ⟨lv, L, h⟩ := h
  exact ⟨lv, L, h.bound⟩
theorem ShAt.lt (h : ShAt P w g s) : g < w.heap.size := by
  obtain ⟨lv, L, h⟩ := h
  exact h.b.lt
theorem ShAt.cols_ (h : ShAt P w g s) : w.cell? ⟨g, 0, none⟩ = some (.int .i64 (s.cols : Int)) ∧ w.cell? ⟨g, 2, none⟩ = some (.int .i64 (s.col : Int)) := by
  obtain ⟨lv, L, h⟩ := h
  exact ⟨h.b.cell 0 rfl, h.b.cell 2 rfl⟩
theorem ShO.col_ (h : ShO P w g s lv L) (n : Nat) : ShO P (w.setCell ⟨g, 2, none⟩ (.int .i64 (n : Int))) g { s with col := n } lv L :=
  ⟨h.b.set_ 2 _, h.pt, h.r.set_ h.b (by decide) (by decide) _⟩
theorem ShO.spine_ {w1 : World} {lv1 : Value} {L1 : List RR} {l1 : List (List TC)} (h : ShO P w g s lv L) (hg : w.grownBy w1 lv.ownBlock) (hr : RowsO P w1 lv1 L1 l1) : ShO P (w1.setCell ⟨g, 1, none⟩ lv1) g { s with l := l1 } lv1 L1 ∧ Only P w (w1.setCell ⟨g, 1, none⟩ lv1) := by
  have hne : lv.ownBlock ≠ some g := fun e => Kd.Q_ne h.r.q h.b (by decide) e.symm
  have hb1 : Blk w1 g 63 (shV s lv) := h.b.to (hg.block g h.b.lt (fun e => hne e.symm))
  refine ⟨⟨hb1.set_ 1 _, h.pt, hr.set_ hb1 (by decide) (by decide) _⟩, ?_⟩
  exact ((Only.refl P w).grown hg (fun k hk => .inl (h.r.q.1 k hk))).setCell (.inl h.pt) _
theorem ShO.look (h : ShO P w g s lv L) {i : Nat} (hi : i < s.l.length) : ∃ c ad r, lv = .slice (some ad) s.l.length c ∧ w.cell? (ad.add i) = some (RR.v r) ∧ RowAt w r s.l[i] ∧ P r.g ∧ r.g ≠ g ∧ r.g ≠ ad.block ∧ L[i]? = some r ∧
    ∀ (w' : World) (k : Nat) (x : List TC), RowAt w' r (overR s.l[i] k x) → Only (· = r.g) w w' → ShO P w' g (s.lay i k x) lv L := by
  obtain ⟨c, ad, r, e, hc, hr, hp, hm, hf⟩ := h.r.look hi
  have hne : r.g ≠ g := fun e => hr.ne_blk h.b (by decide) e.symm
  have hne2 : r.g ≠ ad.block := fun e2 => q_type_ne h.r.q hr (by decide) (by rw [e, e2]; rfl)
  refine ⟨c, ad, r, e, hc, hr, hp, hne, hne2, hm, fun w' k x h1 h2 => ⟨h.b.to (h2.block g h.b.lt hne.symm), h.pt, hf w' (overR · k x) h1 h2⟩⟩
end
theorem RowAt.over {w : World} {r : RR} {l x : List TC} (h : RowAt w r l) {n : Nat} (hn : n + x.length ≤ l.length) : ∃ w', (storeCells ⟨r.g, n * 3, none⟩ (rowV x)).run Tryd.prog w = .ok () w' ∧ RowAt w' r (overR l n x) ∧ Only (· = r.g) w w' ∧ w'.heap.size = w.heap.size ∧ (∀ {B w0}, Below B w0 w → B ≤ r.g → Below B w0 w') := by
  obtain ⟨a, b, d, cur, hh, e, f⟩ := h
  have hcl : cur.toList.length = r.c * 3 := by rw [Array.length_toList, e]
  have hst := run_storeCells_at Tryd.prog r.g (n * 3) 42 (rowV x) 0 cur w hh (by rw [rowV_len]; omega) (rowV_one x)
  refine ⟨_, hst, ⟨?_, b, d, _, setRow_heap w r.g cur _ 42 (0, 0) hh, ?_, ?_⟩, ⟨rfl, rfl, rfl, by rw [size_setRow]; exact Nat.le_refl _, fun i _ hi => setRow_other w r.g i _ hi⟩, size_setRow .., fun {B w0} hb hB => below_setRow hb hB _⟩
  · rw [overR_len hn]; exact a
  · simp only [List.size_toArray, List.length_append, List.length_take, List.length_drop, hcl, rowV_len]
    omega
  · simp only [List.toList_toArray, Nat.add_zero]
    unfold overR
    rw [rowV_append, rowV_append, rowV_take, rowV_drop, ← f, rowV_len]
    have e1 : (cur.toList.take (n * 3) ++ rowV x).length = n * 3 + x.length * 3 := by
      rw [List.length_append, List.length_take, hcl, rowV_len]
      omega
    rw [show r.n * 3 = (cur.toList.take (n * 3) ++ rowV x).length + (r.n * 3 - (n * 3 + x.length * 3)) by rw [e1]; omega, List.take_length_add_append]
    rw [e1, List.take_take, List.drop_take, Nat.min_eq_left (by omega), show n * 3 + x.length * 3 + (r.n * 3 - (n * 3 + x.length * 3)) - (n + x.length) * 3 = r.n * 3 - (n * 3 + x.length * 3) by omega, show (n + x.length) * 3 = n * 3 + x.length * 3 by omega]
end Go.Proofs.YtledplnlcjfafaaDoorL

