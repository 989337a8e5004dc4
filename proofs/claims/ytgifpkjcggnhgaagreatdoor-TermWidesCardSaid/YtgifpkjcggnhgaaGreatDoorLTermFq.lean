/- Parts of the proof of the law that the last file states; declarations that nothing mentions are left out by a program. No conditions. -/
import Derived.Test.YtgifpkjcggnhgaaGreatDoorLTermW18q
set_option linter.unusedVariables false
set_option linter.unusedSimpArgs false
namespace Go.Proofs.YtgifpkjcggnhgaaGreatDoorL
open Go Go.RowKit Go.Proofs.YtgifpkjcggnhgaaGreatDoorW.PrintWords
structure TA (F : Nat → Prop) (w : World) (T : Nat) (s : Tm) : Prop where
  t : TermAt F w T s
  lt : ∀ k, F k → k < w.heap.size
structure TK (M : Nat) (s : Tm) : Prop where
  ok : OKT M s
  wt : Waits s
section
variable {F G : Nat → Prop} {w w' : World} {T M : Nat} {s : Tm}
theorem TA.below (h : TA F w T s) (hb : Below w.heap.size w w') : TA F w' T s := ⟨h.t.below hb, fun k hk => Nat.lt_of_lt_of_le (h.lt k hk) hb.size⟩
theorem TA.only (h : TA F w T s) (ho : Only G w w') (hd : ∀ k, F k → ¬ G k) : TA F w' T s := ⟨h.t.only ho hd, fun k hk => Nat.lt_of_lt_of_le (h.lt k hk) ho.size⟩
def Orn (F : Nat → Prop) (w : World) (k : Nat) : Prop := F k ∨ w.heap.size ≤ k
theorem Only.orn (h : Only (Orn F w) w w') : Only F w w' := ⟨h.os, h.tape, h.output, h.size, fun i hi hn => h.block i hi (fun hp => hp.elim hn (fun hs => by omega))⟩
theorem TA.orn (h : TA F w T s) : TermAt (Orn F w) w T s := h.t.mono (fun k hk => .inl hk)
theorem TA.told {s' : Tm} (h : TermAt (Orn F w) w' T s') : TA (fun k => Orn F w k ∧ k < w'.heap.size) w' T s' := ⟨h.bound, fun k hk => hk.2⟩
theorem TabsT.lt (h : TabsT w) : 0 < w.heap.size ∧ 2 < w.heap.size := by
  obtain ⟨⟨ev, he, _⟩, m, hm⟩ := h
  exact ⟨Lib.lt_of_cell he, Lib.lt_of_cell hm⟩
theorem OutT.orn (h : OutT F) (hT : TabsT w) : OutT (Orn F w) := ⟨fun x => x.elim h.1 (fun y => by have := hT.lt.1; omega), fun x => x.elim h.2 (fun y => by have := hT.lt.2; omega)⟩
def Told (F : Nat → Prop) (w : World) (T : Nat) (s' : Tm) (w' : World) : Prop := ∃ F', TA F' w' T s' ∧ (∀ k, F' k → F k ∨ w.heap.size ≤ k) ∧ Only F w w'
theorem feed_ta (h : TA F w T s) (hk : TK M s) (l : List UInt8) (hM : M + 32 * l.length + 64 ≤ 900000) (hT : TabsT w) (hO : OutT F)
    {A : Option Addr} {c : Nat} {ad : Addr} (hA : 0 < l.length → A = some ad ∧ ¬ F ad.block ∧ ad.block < w.heap.size) (hr : ∀ i (h : i < l.length), w.cell? (ad.add i) = some (.int .u8 ((l[i]).toNat : Int))) :
    Calls Tryz.prog 17 #[.pointer (some ⟨T, 0, none⟩), .slice A l.length c] w fun e w' => e = .returned (.tuple #[]) ∧ Told F w T (s.feed l) w' := by
  refine (feed_calls h.orn hk.ok hk.wt l hM (fun k hk => .inr hk) hT (hO.orn hT) (c := c) (ad := ad) (fun hp => ⟨(hA hp).1, fun hn => hn.elim (hA hp).2.1 (fun hs => by have := (hA hp).2.2; omega)⟩) hr).mono ?_
  rintro _ w' ⟨rfl, ht, ho⟩
  exact ⟨rfl, _, TA.told ht, fun k hk => hk.1, ho.orn⟩
theorem TK.feed (h : TK M s) (l : List UInt8) : TK (M + 32 * l.length) (s.feed l) := ⟨(h.ok.feed l M s h.wt).1, (h.ok.feed l M s h.wt).2⟩
theorem TK.mono {M' : Nat} (h : TK M s) (hm : M ≤ M') : TK M' s := ⟨h.ok.mono hm, h.wt⟩
theorem resize_ta (h : TA F w T s) (hk : TK M s) (hM : M ≤ 100000) (rows cols : Int) :
    Calls Tryz.prog 24 #[.pointer (some ⟨T, 0, none⟩), .int .i64 rows, .int .i64 cols] w fun e w' => e = .returned (.tuple #[]) ∧ Told F w T (s.resize rows cols) w' := by
  refine (resize_calls h.orn hk.ok hM (fun k hk => .inr hk) rows cols).mono ?_
  rintro _ w' ⟨rfl, ht, ho⟩
  exact ⟨rfl, _, TA.told ht, fun k hk => hk.1, ho.orn⟩
theorem resize_b (s : Tm) (rows cols : Int) : (s.resize rows cols).b = s.b := by
  have hg : ∀ (n : Nat) (r : Nat) (s : Tm), (goOffs n r s).b = s.b := by
    intro n
    induction n with
    | zero => intro r s; rfl
    | succ n ih =>
      intro r s
      unfold goOffs
      split
      · rw [ih]; rfl
      · rfl
  unfold Tm.resize
  dsimp only
  exact hg _ _ _
theorem TK.resize (h : TK M s) (rows cols : Int) : TK (M + 64) (s.resize rows cols) := ⟨h.ok.resize rows cols, by unfold Waits; rw [resize_b]; exact h.wt⟩
theorem new_ta (rows cols : Int) (w : World) :
    Calls Tryz.prog 16 #[.int .i64 rows, .int .i64 cols] w fun e w' => ∃ T, e = .returned (.pointer (some ⟨T, 0, none⟩)) ∧ (∃ F', TA F' w' T (newT rows cols) ∧ ∀ k, F' k → w.heap.size ≤ k) ∧ Below w.heap.size w w' := by
  refine (new_calls rows cols w).mono ?_
  rintro _ w' ⟨T, rfl, ht, hb⟩
  exact ⟨T, rfl, ⟨_, ⟨ht.bound, fun k hk => hk.2⟩, fun k hk => hk.1⟩, hb⟩
theorem TK.new (rows cols : Int) : TK 4 (newT rows cols) := ⟨(newT_ok rows cols).1, (newT_ok rows cols).2⟩
theorem copy_ta (h : TA F w T s) (hk : TK M s) :
    Calls Tryz.prog 18 #[.pointer (some ⟨T, 0, none⟩)] w fun e w' => ∃ T', e = .returned (.pointer (some ⟨T', 0, none⟩)) ∧ (∃ F', TA F' w' T' s ∧ ∀ k, F' k → w.heap.size ≤ k) ∧ Below w.heap.size w w' := by
  refine (copy_calls h.t hk.ok).mono ?_
  rintro _ w' ⟨T', rfl, ht, hb⟩
  exact ⟨T', rfl, ⟨_, ⟨ht.bound, fun k hk => hk.2⟩, fun k hk => hk.1⟩, hb⟩
theorem lit_cell (w : World) (l : List UInt8) (fr : Nat × Nat) : ∀ i (hi : i < l.length), (w.alloc (.cells (l.map fun b => Value.int .u8 (b.toNat : Int)).toArray 5 fr)).cell? ((⟨w.heap.size, 0, none⟩ : Addr).add i) = some (.int .u8 ((l[i]).toNat : Int)) := fun i hi => by
  rw [Addr.add_lit_, Nat.zero_add, cell_of_row _ _ i _ 5 fr (heap_alloc_new w _)]
  simp [hi]
theorem feed_lit (h : TA F w T s) (hk : TK M s) (l : List UInt8) {n c : Nat} (hn : n = l.length) (hM : M + 32 * l.length + 64 ≤ 900000) (hT : TabsT w) (hO : OutT F) (fr : Nat × Nat) :
    Calls Tryz.prog 17 #[.pointer (some ⟨T, 0, none⟩), .slice (some ⟨w.heap.size, 0, none⟩) n c] (w.alloc (.cells (l.map fun b => Value.int .u8 (b.toNat : Int)).toArray 5 fr)) fun e w' => e = .returned (.tuple #[]) ∧ Told F (w.alloc (.cells (l.map fun b => Value.int .u8 (b.toNat : Int)).toArray 5 fr)) T (s.feed l) w' := by
  subst hn
  have hb : Below w.heap.size w (w.alloc (.cells (l.map fun b => Value.int .u8 (b.toNat : Int)).toArray 5 fr)) := (Below.refl _ w).alloc (Nat.le_refl _) _
  exact feed_ta (h.below hb) hk l hM (hT.below hb) hO (fun _ => ⟨rfl, fun hk => Nat.lt_irrefl _ (h.lt _ hk), by simp⟩) (lit_cell w l fr)
end
end Go.Proofs.YtgifpkjcggnhgaaGreatDoorL

