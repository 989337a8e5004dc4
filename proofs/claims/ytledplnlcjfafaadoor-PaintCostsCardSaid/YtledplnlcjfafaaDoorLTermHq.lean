/- Parts of the proof of the law that the last file states; declarations that nothing mentions are left out by a program. No conditions. -/
import Derived.Deep.MidRow
import Derived.Test.YtledplnlcjfafaaDoorLTermQq
import Derived.Test.YtledplnlcjfafaaDoorLBoxq
import Derived.Test.YtledplnlcjfafaaDoorLHeldq
set_option linter.unusedVariables false
set_option linter.unusedSimpArgs false
section
namespace Go.Proofs.YtledplnlcjfafaaDoorL
open Go Go.RowKit Go.Proofs.YtledplnlcjfafaaDoorW.PrintWords
def cV (c : TC) : List Value := [.string c.S, .int .i64 (c.wide : Int), .bool c.dim]
def rowV : List TC → List Value
  | [] => []
  | c :: l => cV c ++ rowV l
theorem rowV_len : ∀ l : List TC, (rowV l).length = l.length * 3
  | [] => rfl
  | c :: l => by
    rw [rowV, List.length_append, rowV_len l, List.length_cons, show (cV c).length = 3 from rfl]
    omega
theorem rowV_append : ∀ a b : List TC, rowV (a ++ b) = rowV a ++ rowV b
  | [], b => rfl
  | c :: a, b => by rw [List.cons_append, rowV, rowV, rowV_append a b, List.append_assoc]
theorem rowV_get : ∀ (l : List TC) (k j : Nat), k < l.length → j < 3 → (rowV l)[k * 3 + j]? = (cV (getC l k))[j]?
  | [], k, j, h, _ => by simp at h
  | c :: l, 0, j, h, hj => by
    rw [rowV, List.getElem?_append_left (by rw [show (cV c).length = 3 from rfl]; omega), Nat.zero_mul, Nat.zero_add]
    rfl
  | c :: l, k + 1, j, h, hj => by
    rw [rowV, List.getElem?_append_right (by rw [show (cV c).length = 3 from rfl]; omega), show (cV c).length = 3 from rfl, show (k + 1) * 3 + j - 3 = k * 3 + j by omega, rowV_get l k j (by simpa using h) hj]
    rfl
theorem rowV_set : ∀ (l : List TC) (k : Nat) (c : TC), k < l.length → rowV (l.set k c) = (rowV l).take (k * 3) ++ cV c ++ (rowV l).drop (k * 3 + 3)
  | [], k, c, h => by simp at h
  | d :: l, 0, c, h => by
    rw [List.set_cons_zero, rowV, rowV, Nat.zero_mul, List.take_zero, Nat.zero_add, List.drop_append_of_le_length (by rw [show (cV d).length = 3 from rfl]; omega)]
    rfl
  | d :: l, k + 1, c, h => by
    have h3 : (cV d).length = 3 := rfl
    have t1 : (cV d ++ rowV l).take ((k + 1) * 3) = cV d ++ (rowV l).take (k * 3) := by rw [show (k + 1) * 3 = (cV d).length + k * 3 by rw [h3]; omega, List.take_length_add_append]
    have t2 : (cV d ++ rowV l).drop ((k + 1) * 3 + 3) = (rowV l).drop (k * 3 + 3) := by rw [show (k + 1) * 3 + 3 = (cV d).length + (k * 3 + 3) by rw [h3]; omega, List.drop_length_add_append]
    rw [List.set_cons_succ, rowV, rowV_set l k c (by simpa using h), rowV, t1, t2]
    simp only [List.append_assoc]
structure RR where
  g : Nat
  n : Nat
  c : Nat
def RR.v (r : RR) : Value := .slice (some ⟨r.g, 0, none⟩) r.n r.c
def RowAt (w : World) (r : RR) (l : List TC) : Prop :=
  r.n = l.length ∧ r.n ≤ r.c ∧ r.c ≤ maxLen ∧ ∃ cur : Array Value, w.heap[r.g]? = some (.cells cur 42 (0, 0)) ∧ cur.size = r.c * 3 ∧ cur.toList.take (r.n * 3) = rowV l
section
variable {P : Program} {w w' : World} {r : RR} {l : List TC}
theorem RowAt.lt (h : RowAt w r l) : r.g < w.heap.size := by
  obtain ⟨_, _, _, cur, h, _⟩ := h
  exact (Array.getElem?_eq_some_iff.1 h).1
theorem RowAt.to (h : RowAt w r l) (he : w'.heap[r.g]? = w.heap[r.g]?) : RowAt w' r l := by
  obtain ⟨a, b, c, cur, h, d⟩ := h
  exact ⟨a, b, c, cur, he.trans h, d⟩
theorem RowAt.of_own {base n : Nat} {v : Value} (h : w.ownsRow base 42 3 v n (rowV l)) (hn : n = l.length) (h0 : 0 < n) : ∃ r : RR, v = r.v ∧ RowAt w r l ∧ base ≤ r.g ∧ r.n = n := by
  rcases h.2 with ⟨_, h1⟩ | ⟨g, cap, cur, rfl, hb, hh, hnc, hcm, hcs, ht⟩
  · omega
  · exact ⟨⟨g, n, cap⟩, rfl, ⟨hn, hnc, hcm, cur, hh, hcs, ht⟩, hb, rfl⟩
theorem RowAt.cell (h : RowAt w r l) {k j : Nat} (hk : k < l.length) (hj : j < 3) : w.cell? ⟨r.g, k * 3 + j, none⟩ = (cV (getC l k))[j]? := by
  obtain ⟨a, b, c, cur, h, d, e⟩ := h
  rw [cell_of_row w r.g _ cur _ (0, 0) h, ← Array.getElem?_toList]
  have : cur.toList[k * 3 + j]? = (cur.toList.take (r.n * 3))[k * 3 + j]? := by rw [List.getElem?_take, if_pos (by omega)]
  rw [this, e, rowV_get l k j hk hj]
theorem RowAt.frozen (h : RowAt w r l) (i : Nat) : w.frozen? ⟨r.g, i, none⟩ = false := by
  obtain ⟨a, b, c, cur, h, d, e⟩ := h
  simp [World.frozen?, h]
theorem RowAt.three (h : RowAt w r l) {k : Nat} (hk : k < l.length) : w.cell? ⟨r.g, k * 3, none⟩ = some (.string (getC l k).S) ∧ w.cell? ⟨r.g, k * 3 + 1, none⟩ = some (.int .i64 ((getC l k).wide : Int)) ∧ w.cell? ⟨r.g, k * 3 + 2, none⟩ = some (.bool (getC l k).dim) :=
  ⟨h.cell hk (j := 0) (by omega), h.cell hk (j := 1) (by omega), h.cell hk (j := 2) (by omega)⟩
theorem RowAt.ne_blk {t : TypeId} {cs : Array Value} {g : Nat} (h : RowAt w r l) (hb : Blk w g t cs) (ht : t ≠ 42) : g ≠ r.g := by
  obtain ⟨a, b, c, cur, h, d, e⟩ := h
  rintro rfl
  unfold Blk at hb
  rw [hb] at h
  injection h with h
  injection h with _ h
  exact ht h
theorem infoCell : (Tryd.prog.info? 42).map (·.size) = some 3 := by kernel_rfl
theorem infoCellz : (Tryd.prog.info? 42).map (fun i => (i.zero, i.size, i.bytes)) = some (some (.agg #[.string ByteArray.empty, .int .i64 0, .bool false]), 3, 32) := by kernel_rfl
theorem infoRowz : (Tryd.prog.info? 40).map (fun i => (i.zero, i.size, i.bytes)) = some (some (.slice none 0 0), 1, 24) := by kernel_rfl
theorem cV_size (c : TC) : (cV c).toArray.size = 3 := rfl
theorem RowAt.set_ (h : RowAt w r l) {k : Nat} (hk : k < l.length) (c : TC) : RowAt (w.setCells r.g (k * 3) (cV c)) r (l.set k c) ∧ Only (· = r.g) w (w.setCells r.g (k * 3) (cV c)) ∧ (w.setCells r.g (k * 3) (cV c)).heap.size = w.heap.size ∧ (∀ {B w0}, Below B w0 w → B ≤ r.g → Below B w0 (w.setCells r.g (k * 3) (cV c))) := by
  obtain ⟨a, b, d, cur, hh, e, f⟩ := h
  have hsame := setCells_same r.g (cV c) (k * 3) w
  have hrow := setCells_row (e := 42) (cV c) (k * 3) w cur hh (by rw [show (cV c).length = 3 from rfl]; omega)
  have ho : ∀ i, i ≠ r.g → (w.setCells r.g (k * 3) (cV c)).heap[i]? = w.heap[i]? := fun i hi => setCells_far (cV c) (k * 3) i hi
  refine ⟨⟨by rw [List.length_set]; exact a, b, d, ?_⟩, ⟨hsame.1, hsame.2.1, hsame.2.2.1, Nat.le_of_eq hsame.2.2.2.symm, fun i _ hi => ho i hi⟩, hsame.2.2.2, fun {B w0} hb hB => ⟨hsame.1.trans hb.os, hsame.2.1.trans hb.tape, hsame.2.2.1.trans hb.output, by rw [hsame.2.2.2]; exact hb.size, fun i hi => (ho i (by omega)).trans (hb.block i hi)⟩⟩
  obtain ⟨cur', hrow, hs', hl'⟩ := hrow
  refine ⟨cur', hrow, hs'.trans e, ?_⟩
  have hcl : cur.toList.length = r.c * 3 := by rw [Array.length_toList, e]
  rw [hl', rowV_set l k c hk, ← f, show (cV c).length = 3 from rfl]
  have e1 : (cur.toList.take (k * 3) ++ cV c).length = k * 3 + 3 := by
    rw [List.length_append, List.length_take, hcl, show (cV c).length = 3 from rfl]
    omega
  rw [show r.n * 3 = (cur.toList.take (k * 3) ++ cV c).length + (r.n * 3 - (k * 3 + 3)) by rw [e1]; omega, List.take_length_add_append]
  rw [e1, List.take_take, List.drop_take, Nat.min_eq_left (by omega), show k * 3 + 3 + (r.n * 3 - (k * 3 + 3)) - (k * 3 + 3) = r.n * 3 - (k * 3 + 3) by omega]
end
def rrK : Kd RR := Kd.scalar RR.v (fun _ => rfl)
theorem q_frame {α : Type} {d : Kd α} {e base : Nat} {w w' : World} {ok : Nat → Prop} {v : Value} {xs : List α} (hE : d.E = []) (h : d.Q e w base ok v xs) (hm : ∀ k, v.ownBlock = some k → w'.heap[k]? = w.heap[k]?) : d.Q e w' base ok v xs :=
  Kd.Q_mono (Kd.Q_move (Kd.Q_tight hE h) (fun k hk => hm k hk.symm)) (fun k hk => h.1 k hk.symm)
def cellsT (s : Tm) (lv gv bv : Value) : Array Value := #[.int .i64 s.cols, lv, gv, .int .i64 s.off, .int .i64 s.row, .int .i64 s.col, .bool s.full, .bool s.dim, .int .i64 s.inn, .string s.seq, bv]
def nbL (l : List UInt8) : List Int := l.map fun b => (b.toNat : Int)
inductive All2 {α β : Type} (R : α → β → Prop) : List α → List β → Prop
  | nil : All2 R [] []
  | cons {a : α} {b : β} {l : List α} {m : List β} : R a b → All2 R l m → All2 R (a :: l) (b :: m)
structure TermO (P : Nat → Prop) (w : World) (T : Nat) (s : Tm) (lv gv bv : Value) (L G : List RR) : Prop where
  b : Blk w T 74 (cellsT s lv gv bv)
  pt : P T
  ql : rrK.Q 40 w 0 P lv L
  qg : rrK.Q 40 w 0 P gv G
  ne : ∀ k, lv.ownBlock = some k → gv.ownBlock ≠ some k
  qb : (Kd.int .u8).Q 5 w 0 P bv (nbL s.b)
  fl : All2 (RowAt w) L s.l
  fg : All2 (RowAt w) G s.gone
  nd : ((L ++ G).map RR.g).Nodup
  pr : ∀ r ∈ L ++ G, P r.g
def TermAt (P : Nat → Prop) (w : World) (T : Nat) (s : Tm) : Prop := ∃ lv gv bv L G, TermO P w T s lv gv bv L G
section
variable {P : Nat → Prop} {w w' : World} {T : Nat} {s s' : Tm} {lv gv bv : Value} {L G : List RR}
theorem forall_mem {α β : Type} {R : α → β → Prop} {x : α} : ∀ {l : List α} {m : List β}, All2 R l m → x ∈ l → ∃ y ∈ m, R x y
  | _, _, .cons (a := a) (b := b) h t, hx => by
    rcases List.mem_cons.1 hx with rfl | hx
    · exact ⟨b, List.mem_cons_self, h⟩
    · obtain ⟨y, hy, h2⟩ := forall_mem t hx
      exact ⟨y, List.mem_cons_of_mem _ hy, h2⟩
theorem forall_imp {α β : Type} {R S : α → β → Prop} : ∀ {l : List α} {m : List β}, All2 R l m → (∀ a ∈ l, ∀ b, R a b → S a b) → All2 S l m
  | _, _, .nil, _ => .nil
  | _, _, .cons h t, f => .cons (f _ List.mem_cons_self _ h) (forall_imp t (fun a ha => f a (List.mem_cons_of_mem _ ha)))
theorem forall_len {α β : Type} {R : α → β → Prop} : ∀ {l : List α} {m : List β}, All2 R l m → l.length = m.length
  | _, _, .nil => rfl
  | _, _, .cons h t => by rw [List.length_cons, List.length_cons, forall_len t]
theorem forall_get {α β : Type} {R : α → β → Prop} : ∀ {l : List α} {m : List β}, All2 R l m → ∀ (i : Nat) (h : i < l.length) (h' : i < m.length), R l[i] m[i]
  | _, _, .cons h t, 0, _, _ => h
  | _, _, .cons h t, i + 1, h1, h2 => forall_get t i (by simpa using h1) (by simpa using h2)
theorem TermO.row_lt (h : TermO P w T s lv gv bv L G) {r : RR} (hr : r ∈ L ++ G) : ∃ l, RowAt w r l := by
  rcases List.mem_append.1 hr with hr | hr
  · obtain ⟨l, _, h1⟩ := forall_mem h.fl hr
    exact ⟨l, h1⟩
  · obtain ⟨l, _, h1⟩ := forall_mem h.fg hr
    exact ⟨l, h1⟩
theorem q_type_ne {α : Type} {d : Kd α} {e base : Nat} {w : World} {ok : Nat → Prop} {v : Value} {xs : List α} (h : d.Q e w base ok v xs) {r : RR} {l : List TC} (hr : RowAt w r l) (he : e ≠ 42) : v.ownBlock ≠ some r.g := by
  intro hk
  obtain ⟨cells, hc⟩ := Kd.Q_typed h r.g hk
  obtain ⟨_, _, _, cur, h2, _⟩ := hr
  rw [hc] at h2
  injection h2 with h2
  injection h2 with _ h2
  exact he h2
theorem TermO.bound (h : TermO P w T s lv gv bv L G) : TermO (fun k => P k ∧ k < w.heap.size) w T s lv gv bv L G :=
  ⟨h.b, ⟨h.pt, h.b.lt⟩, Kd.Q_mono (Kd.Q_bound h.ql) (fun k hk => ⟨hk.1, hk.2.2.1⟩), Kd.Q_mono (Kd.Q_bound h.qg) (fun k hk => ⟨hk.1, hk.2.2.1⟩), h.ne, Kd.Q_mono (Kd.Q_bound h.qb) (fun k hk => ⟨hk.1, hk.2.2.1⟩), h.fl, h.fg, h.nd, fun r hr => ⟨h.pr r hr, by
    obtain ⟨l, hl⟩ := h.row_lt hr
    exact hl.lt⟩⟩
theorem TermAt.bound (h : TermAt P w T s) : TermAt (fun k => P k ∧ k < w.heap.size) w T s := by
  obtain ⟨lv, gv, bv, L, G, h⟩ := h
  exact ⟨lv, gv, bv, L, G, h.bound⟩
theorem TermO.apart (h : TermO P w T s lv gv bv L G) : lv.ownBlock ≠ some T ∧ gv.ownBlock ≠ some T ∧ bv.ownBlock ≠ some T ∧ ∀ r ∈ L ++ G, r.g ≠ T := by
  refine ⟨fun e => Kd.Q_ne h.ql h.b (by decide) e.symm, fun e => Kd.Q_ne h.qg h.b (by decide) e.symm, fun e => Kd.Q_ne h.qb h.b (by decide) e.symm, fun r hr => ?_⟩
  obtain ⟨l, hl⟩ := h.row_lt hr
  exact fun e => hl.ne_blk h.b (by decide) e.symm
theorem TermO.cells (h : TermO P w T s lv gv bv L G) (hb : Blk w' T 74 (cellsT s' lv gv bv)) (hk : ∀ i, i < w.heap.size → i ≠ T → w'.heap[i]? = w.heap[i]?) (hl : s'.l = s.l) (hg : s'.gone = s.gone) (hbb : s'.b = s.b) : TermO P w' T s' lv gv bv L G := by
  obtain ⟨a1, a2, a3, a4⟩ := h.apart
  have q : ∀ {α : Type} {d : Kd α} {e : Nat} {v : Value} {xs : List α}, d.E = [] → d.Q e w 0 P v xs → v.ownBlock ≠ some T → d.Q e w' 0 P v xs := fun hE hq hn => q_frame hE hq (fun k hk1 => hk k (Kd.Q_lt hq k hk1) (fun e => hn (e ▸ hk1)))
  refine ⟨hb, h.pt, q rfl h.ql a1, q rfl h.qg a2, h.ne, by rw [hbb]; exact q rfl h.qb a3, ?_, ?_, h.nd, h.pr⟩
  · rw [hl]
    exact forall_imp h.fl (fun r hr l hl => hl.to (hk r.g hl.lt (a4 r (List.mem_append_left _ hr))))
  · rw [hg]
    exact forall_imp h.fg (fun r hr l hl => hl.to (hk r.g hl.lt (a4 r (List.mem_append_right _ hr))))
theorem TermO.all (h : TermO P w T s lv gv bv L G) : (w.cell? ⟨T, 0, none⟩ = some (.int .i64 s.cols) ∧ w.cell? ⟨T, 1, none⟩ = some lv ∧ w.cell? ⟨T, 2, none⟩ = some gv ∧ w.cell? ⟨T, 3, none⟩ = some (.int .i64 s.off) ∧ w.cell? ⟨T, 4, none⟩ = some (.int .i64 s.row) ∧ w.cell? ⟨T, 5, none⟩ = some (.int .i64 s.col) ∧ w.cell? ⟨T, 6, none⟩ = some (.bool s.full) ∧ w.cell? ⟨T, 7, none⟩ = some (.bool s.dim) ∧ w.cell? ⟨T, 8, none⟩ = some (.int .i64 s.inn) ∧ w.cell? ⟨T, 9, none⟩ = some (.string s.seq) ∧ w.cell? ⟨T, 10, none⟩ = some bv) ∧ ∀ i, w.frozen? ⟨T, i, none⟩ = false :=
  ⟨⟨h.b.cell 0 rfl, h.b.cell 1 rfl, h.b.cell 2 rfl, h.b.cell 3 rfl, h.b.cell 4 rfl, h.b.cell 5 rfl, h.b.cell 6 rfl, h.b.cell 7 rfl, h.b.cell 8 rfl, h.b.cell 9 rfl, h.b.cell 10 rfl⟩, fun i => h.b.frozen i⟩
theorem spine_cell {xs : List RR} {A : Option Addr} {n c : Nat} (h : rrK.Q 40 w 0 P (.slice A n c) xs) {i : Nat} (hi : i < xs.length) : ∃ ad, A = some ad ∧ w.cell? (ad.add i) = some (xs[i].v) ∧ (Value.slice A n c).ownBlock = some ad.block := by
  obtain ⟨hn, hc, hC⟩ := Kd.Q_reads' h
  subst hn
  obtain ⟨ad, rfl, hcell⟩ := (Kd.reads_of_C (enc := RR.v) (d := (⟨0, 0, 0⟩ : RR)) (h1 := fun _ => rfl) hC).2.2 (by omega)
  refine ⟨ad, rfl, ?_, rfl⟩
  rw [hcell i hi, List.getD_eq_getElem?_getD, List.getElem?_eq_getElem hi]
  rfl
theorem nodup_get {α β : Type} {f : α → β} {l : List α} (h : (l.map f).Nodup) {i : Nat} (hi : i < l.length) {x : α} {j : Nat} (hj : l[j]? = some x) (hne : j ≠ i) : f x ≠ f l[i] := by
  intro e
  have hjl := (List.getElem?_eq_some_iff.1 hj).1
  have h1 : (l.map f)[j]? = (l.map f)[i]? := by
    rw [List.getElem?_map, List.getElem?_map, hj, List.getElem?_eq_getElem hi]
    simp [e]
  have := (List.getElem?_inj (by rw [List.length_map]; exact hjl) h).1 h1
  exact hne this
theorem forall_modify {R R' : RR → List TC → Prop} {f : List TC → List TC} : ∀ {l : List RR} {m : List (List TC)} {i : Nat}, All2 R l m → (∀ (h : i < l.length) (h' : i < m.length), R' l[i] (f m[i])) → (∀ j r x, l[j]? = some r → j ≠ i → R r x → R' r x) → All2 R' l (m.modify i f)
  | _, _, _, .nil, _, _ => by rw [List.modify_nil]; exact .nil
  | r :: l, x :: m, 0, .cons h t, h1, h2 => by
    rw [List.modify_zero_cons]
    refine .cons (h1 (by simp) (by simp)) (forall_imp t (fun a ha b hb => ?_))
    obtain ⟨j, hj, rfl⟩ := List.mem_iff_getElem.1 ha
    exact h2 (j + 1) _ b (by simp [hj]) (by omega) hb
  | r :: l, x :: m, i + 1, .cons h t, h1, h2 => by
    rw [List.modify_succ_cons]
    refine .cons (h2 0 r x rfl (by omega) h) (forall_modify t (fun ha hb => ?_) (fun j r' x' hj hne hR => h2 (j + 1) r' x' (by simpa using hj) (by omega) hR))
    exact h1 (by simpa using ha) (by simpa using hb)
end
end Go.Proofs.YtledplnlcjfafaaDoorL
end
section
namespace Go.Proofs.YtledplnlcjfafaaDoorL
open Go Go.RowKit Go.Proofs.YtledplnlcjfafaaDoorW.PrintWords
set_option maxRecDepth 100000 in
set_option maxHeartbeats 1000000 in
theorem blankc_calls (w : World) : Calls Tryd.prog 41 #[] w fun e w' => e = .returned (.agg (cV blankC).toArray) ∧ Below w.heap.size w w' := by
  go_enter Tryd.func41, Tryd.ntmps41
  go_wp2_with (first
    | ((with_reducible refine gate_dst (N := 0) rfl ?_); refine box_event ?hg (N := 0) ?hd (cs := #[.string ByteArray.empty, .int .i64 0, .bool false]) (t := 42) ?hr ?_; (case hd => rfl); (case hg => rfl); (case hr => first | (go_simp; done) | (go_simp; rfl)); intro g0 hg wg0 hx hb; have B0 := Hd.mk (show Blk wg0 g0 42 _ from hx); have HB := Hd.mk hb; have HG := Hd.mk hg; clear hx hb hg)
    | ((with_reducible refine gate_store (t := 42) (p := 0) rfl ?_); refine store_event rfl rfl (g := g0) (cells := (cV blankC).toArray) (by first | rfl | (go_simp; done) | (go_simp; rfl)) (by first | rfl | (go_simp; done) | (go_simp; rfl)) B0.out infoCell rfl (by simp [cV, Value.oneCell']) ?_; intro ws hx hk hz hb; have B1 := Hd.mk hx; have HB1 := Hd.mk (hb HB.out (Nat.le_of_eq HG.out.symm)); clear hx hk hz hb))
  exact ret_row (cs := (cV blankC).toArray) rfl (d := .struct _) rfl Tryd.underlying42 infoCell (by first | rfl | (go_simp; done) | (go_simp; rfl)) B1.out rfl ⟨rfl, HB1.out⟩
theorem Blk.three {w : World} {g : Nat} {t : TypeId} {a b c : Value} (h : Blk w g t #[a, b, c]) : w.cell? ⟨g, 0, none⟩ = some a ∧ w.cell? ⟨g, 1, none⟩ = some b ∧ w.cell? ⟨g, 2, none⟩ = some c :=
  ⟨h.cell 0 rfl, h.cell 1 rfl, h.cell 2 rfl⟩
end Go.Proofs.YtledplnlcjfafaaDoorL
end
