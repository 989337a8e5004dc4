/- A file's bytes with all that was written; Read. No conditions. -/
import Derived.Test.YtcpkoajnepijkaaFile2
import Derived.LaidEqlPtr
namespace Go.Proofs.Ytcpkoajnepijkaa
set_option linter.unusedVariables false
set_option linter.unusedSimpArgs false
open Go.RowKit Go.Proofs.YtcpkoajnepijkaaL Go.Proofs.YtcpkoajnepijkaaW.PrintWords

/-- How long things may be. -/
structure Sized (st : FS) : Prop where
  sb : ∀ g ∈ st.live, (st.sb g).length ≤ 65536
  row : ∀ x ∈ st.row, x.at_ + x.b.length ≤ 65536
  rows : st.row.length ≤ 1000000

def layAll (b : List Int) (g : Nat) (row : List Wr) : List Int := row.foldl (fun b x => if x.tgt = g then laidL b x.at_ x.b else b) b
def allL (st : FS) (g : Nat) : List Int := layAll (st.sb g) g st.row
theorem layAll_snoc (b : List Int) (g : Nat) (row : List Wr) (x : Wr) : layAll b g (row ++ [x]) = if x.tgt = g then laidL (layAll b g row) x.at_ x.b else layAll b g row := by
  simp [layAll]
theorem layAll_le {b : List Int} {g : Nat} (hb : b.length ≤ 65536) : ∀ {row : List Wr}, (∀ x ∈ row, x.at_ + x.b.length ≤ 65536) → (layAll b g row).length ≤ 65536 := by
  intro row
  induction row generalizing b with
  | nil => intro _; exact hb
  | cons x row ih =>
    intro h
    have hx := h x (List.mem_cons_self ..)
    simp only [layAll, List.foldl_cons]
    refine ih ?_ (fun y hy => h y (List.mem_cons_of_mem _ hy))
    split
    · rw [laidL_length]
      split
      · exact hb
      · omega
    · exact hb

theorem info77 : ∃ j, Try.prog.info? 77 = some j ∧ j.size ≠ 0 := by
  have h : (Try.prog.info? 77).map (·.size) = some 2 := by kernel_rfl
  cases hj : Try.prog.info? 77 with
  | none => rw [hj] at h; cases h
  | some j => exact ⟨j, rfl, by rw [hj] at h; simp at h; omega⟩

/-- The cells of the row, at a later world. -/
theorem FRepX.rowCell {base : Nat} {Lz : Nat → Prop} {w wr : World} {F : Nat} {fp : Nat → Prop} {st : FS} {M : Nat} {rv : Value} {cells : List Value} (h : FRepX base Lz w F fp st M rv cells) (hb : Below w.heap.size w wr) {A : Option Addr} {n c : Nat} (hrv : rv = .slice A n c) {i : Nat} (hi : i < st.row.length) :
    ∃ R v, A = some ⟨R, 0, none⟩ ∧ wr.cell? ⟨R, i * 3, none⟩ = some (.pointer (some ⟨st.row[i].tgt, 0, none⟩)) ∧ wr.cell? ⟨R, i * 3 + 1, none⟩ = some (.int .i64 st.row[i].at_) ∧ wr.cell? ⟨R, i * 3 + 2, none⟩ = some v ∧ RB base Lz w v st.row[i].b := by
  obtain ⟨c0, c1, v, c2, hv⟩ := h.rowIs.get i hi
  have hlen := h.row.1
  rcases h.row.2 with ⟨_, hz⟩ | ⟨R, cap, cur, hrv', hB, hh, hnc, hcap, hs, hx⟩
  · omega
  · rw [hrv] at hrv'
    injection hrv' with hA _ _
    refine ⟨R, v, hA, ?_, ?_, ?_, hv⟩
    all_goals
      have hR : R < w.heap.size := (Array.getElem?_eq_some_iff.1 hh).1
      have hk : ∀ j u, cells[j]? = some u → wr.cell? ⟨R, j, none⟩ = some u := fun j u hu => by
        rw [hb.cell (p := ⟨R, j, none⟩) hR, cell_of_row w R j cur 80 (0, 0) hh, ← hu, ← hx]
        have hj : j < cells.length := (List.getElem?_eq_some_iff.1 hu).1
        rw [List.getElem?_take_of_lt (by omega), Array.getElem?_toList]
    · exact hk _ _ c0
    · exact hk _ _ c1
    · exact hk _ _ c2

set_option maxRecDepth 100000 in
set_option maxHeartbeats 1000000 in
theorem all_calls {base : Nat} {Lz : Nat → Prop} {w : World} {F : Nat} {fp : Nat → Prop} {st : FS} (h : FRep base Lz w F fp st) (hs : Sized st) {g : Nat} (hg : g ∈ st.live) :
    Calls Try.prog 39 #[.pointer (some ⟨F, 0, none⟩), .pointer (some ⟨g, 0, none⟩)] w fun e w' => ∃ v', e = .returned v' ∧ Own w' w.heap.size v' (allL st g) ∧ Below w.heap.size w w' := by
  obtain ⟨M, rv, cells, h⟩ := h
  obtain ⟨A, c, hrv, hc⟩ := own_slice h.row
  subst hrv
  obtain ⟨vs, hbg, hsb⟩ := h.ino g hg
  have c0 : w.cell? ⟨g, 0, none⟩ = some vs := hbg.cell 0 rfl
  have c1 := h.blk.cell 1 rfl
  have hF := h.blk.lt
  have H := Aside0.mk h
  have HSB := Aside0.mk hsb
  have HBG := Aside0.mk hbg
  have hrows := hs.rows
  have HS := Aside0.mk hs
  clear h hsb hbg hs
  obtain ⟨j, hj, hjs⟩ := info77
  have HJ := Aside0.mk hj
  clear hj
  go_enter Try.func39, Try.ntmps39
  go_wp2_with (go_at_call 41; (with_reducible refine (clone_calls HSB.out (by have := HS.out.sb g hg; omega)).mono ?_); rintro e w1 ⟨v1, rfl, ho, hbl⟩; have HO := Aside0.mk ho; have HB := Aside0.mk hbl; have c1' := (hbl.cell (p := ⟨F, 1, none⟩) hF).trans c1; clear ho hbl)
  go_loopg [5, 18] st.row.length (fun kq v5 v18 w' => ∃ i : Nat, i + kq = st.row.length ∧ v18 = .int .i64 i ∧ Aside0 (Own w' w.heap.size v5 (layAll (st.sb g) g (st.row.take i))) ∧ Aside0 (Below w.heap.size w w'))
  case atStart => exact ⟨0, by omega, rfl, ⟨HO.out⟩, HB⟩
  case round =>
    obtain ⟨i, hi, rfl, HO, HB⟩ := hrel
    cases gk with
    | zero =>
      have e1 : decide (i < st.row.length) = false := decide_eq_false (by omega)
      have htk : Aside0 (layAll (st.sb g) g (st.row.take i) = allL st g) := ⟨by rw [List.take_of_length_le (by omega)]; rfl⟩
      clear hi
      go_wp2
      go_ret
      have := HO.out
      rw [htk.out] at this
      exact ⟨_, rfl, this, HB.out⟩
    | succ d =>
      have hlt : i < st.row.length := by omega
      have e1 : decide (i < st.row.length) = true := decide_eq_true hlt
      obtain ⟨R, vb, rfl, r0, r1, r2, hvb⟩ := H.out.rowCell HB.out rfl hlt
      obtain ⟨Ab, cb, rfl⟩ : ∃ Ab cb, vb = .slice Ab st.row[i].b.length cb := by obtain ⟨Ab, cb, e, _⟩ := hvb; exact ⟨Ab, cb, e⟩
      have HVB := Aside0.mk hvb
      have htk : Aside0 (layAll (st.sb g) g (st.row.take (i + 1)) = if st.row[i].tgt = g then laidL (layAll (st.sb g) g (st.row.take i)) st.row[i].at_ st.row[i].b else layAll (st.sb g) g (st.row.take i)) := ⟨by rw [List.take_succ_eq_append_getElem hlt, layAll_snoc]⟩
      have HI := Aside0.mk hi
      clear hvb hi
      by_cases ht : st.row[i].tgt = g
      · rw [ht] at r0
        have heq : ∀ W, (binOp .eql 71 (.pointer (some ⟨g, 0, none⟩)) (.pointer (some ⟨g, 0, none⟩))).run Try.prog W = .ok (.bool true) W := fun W => run_eql_ptr_same W _ Try.underlying71 HJ.out
        have HT := Aside0.mk ht
        clear ht
        have hb1 : (layAll (st.sb g) g (st.row.take i)).length ≤ 65536 := layAll_le (HS.out.sb g hg) (fun y hy => HS.out.row y (List.mem_of_mem_take hy))
        have hb2 := HS.out.row _ (List.getElem_mem hlt)
        have XC := Aside0.mk (fun o => laid_calls (base := base) (Lz := NoL) ((RB.of_R HO.out (fun _ _ h => h)).below (below_alloc (Below.refl wr.heap.size wr) o)) (HVB.out.noL.below (below_alloc HB.out o)) (k := st.row[i].at_) (by omega) (by omega) (by omega))
        clear hb1 hb2
        go_wp2_with fail
        go_at_call 42
        with_reducible refine (XC.out _).mono ?_
        rintro e w2 ⟨v2, rfl, ho, hbl⟩
        have HB2 := Aside0.mk ((below_alloc HB.out _).trans (hbl.mono (below_alloc HB.out _).size))
        have HO2 := Aside0.mk (Kd.R_lower ho (below_alloc HB.out _).size)
        clear ho hbl
        go_wp2
        go_roundg d
        case measure => omega
        case rel => exact ⟨i + 1, by have := HI.out; omega, by go_num, ⟨by rw [htk.out, if_pos HT.out]; exact HO2.out⟩, HB2⟩
      · have hlive : st.row[i].tgt ∈ st.live := H.out.rowLive _ (List.getElem_mem hlt)
        obtain ⟨vt, hbt, _⟩ := H.out.ino _ hlive
        have heq : ∀ o, (binOp .eql 71 (.pointer (some ⟨st.row[i].tgt, 0, none⟩)) (.pointer (some ⟨g, 0, none⟩))).run Try.prog (wr.alloc o) = .ok (.bool false) (wr.alloc o) := fun o =>
          run_eql_ptr_other _ Try.underlying71 HJ.out hjs (fun e => ht (congrArg Addr.block e)) (((below_alloc HB.out o).block _ hbt.lt).trans hbt) (((below_alloc HB.out o).block _ HBG.out.lt).trans HBG.out)
        have HT := Aside0.mk ht
        have HBT := Aside0.mk hbt
        clear ht hbt
        go_wp2
        go_roundg d
        case measure => omega
        case rel => exact ⟨i + 1, by have := HI.out; omega, by go_num, ⟨by rw [htk.out, if_neg HT.out]; exact Kd.R_alloc HO.out _⟩, ⟨below_alloc HB.out _⟩⟩

theorem zero71 : ∀ w, (zeroValue 71).run Try.prog w = .ok (.pointer none) w := fun _ => by kernel_rfl
abbrev ptr (g : Nat) : Value := .pointer (some ⟨g, 0, none⟩)
theorem fnd_map {β γ : Type} (f : β → γ) (s : ByteArray) : ∀ l : List (ByteArray × β), fnd s (l.map fun p => (p.1, f p.2)) = (fnd s l).map f
  | [] => rfl
  | p :: r => by
    by_cases h : p.1 = s
    · simp [fnd, h]
    · simp [fnd, h, fnd_map f s r]
theorem fnd_mem {β : Type} {s : ByteArray} {b : β} : ∀ {l : List (ByteArray × β)}, fnd s l = some b → (s, b) ∈ l
  | [], h => by cases h
  | p :: r, h => by
    by_cases hp : p.1 = s
    · simp only [fnd, hp, if_true, Option.some.injEq] at h
      subst h
      subst hp
      exact List.mem_cons_self ..
    · simp only [fnd, hp, if_false] at h
      exact List.mem_cons_of_mem _ (fnd_mem h)
/-- What the look-up of a name comes to. -/
theorem FRepX.look {base : Nat} {Lz : Nat → Prop} {w : World} {F : Nat} {fp : Nat → Prop} {st : FS} {M : Nat} {rv : Value} {cells : List Value} (h : FRepX base Lz w F fp st M rv cells) (s : ByteArray) :
    (fnd s st.files = none ∧ (Instr.lookup 64 (.map (some M)) (.string s) true).run Try.prog w = .ok (.tuple #[.pointer none, .bool false]) w) ∨
    ∃ g, fnd s st.files = some g ∧ g ∈ st.live ∧ (Instr.lookup 64 (.map (some M)) (.string s) true).run Try.prog w = .ok (.tuple #[ptr g, .bool true]) w := by
  have hl := h.map.look Try.underlying64 Try.underlying9 s zero71
  rw [fnd_map (fun g => ptr g)] at hl
  cases hf : fnd s st.files with
  | none => rw [hf] at hl; exact .inl ⟨rfl, hl⟩
  | some g => rw [hf] at hl; exact .inr ⟨g, rfl, h.filesLive _ (fnd_mem hf), hl⟩

/-- What Read tells. -/
def readL (st : FS) (s : ByteArray) : List Int × Int :=
  if st.down = true then ([], 100) else match fnd s st.files with | none => ([], 101) | some g => (allL st g, 0)

set_option maxRecDepth 100000 in
theorem read_calls {base : Nat} {Lz : Nat → Prop} {w : World} {F : Nat} {fp : Nat → Prop} {st : FS} (h : FRep base Lz w F fp st) (hs : Sized st) (s : ByteArray) :
    Calls Try.prog 18 #[ptr F, .string s] w fun e w' => ∃ v', e = .returned (.tuple #[v', .int .i64 (readL st s).2]) ∧ Own w' w.heap.size v' (readL st s).1 ∧ Below w.heap.size w w' := by
  have HR := Aside0.mk h
  obtain ⟨M, rv, cells, h⟩ := h
  have c0 := h.blk.cell 0 rfl
  have c5 := h.blk.cell 5 rfl
  have hl := h.look s
  clear h
  cases hd : st.down with
  | true =>
    rw [hd] at c5
    have e1 : readL st s = ([], 100) := by simp [readL, hd]
    rw [e1]
    rcases hl with ⟨_, hl⟩ | ⟨g, _, _, hl⟩
    all_goals
      clear hd e1
      go_enter Try.func18, Try.ntmps18
      go_wp2
      go_ret2
      exact ⟨_, rfl, Kd.R_nil _ _ _ _ _, Below.refl _ _⟩
  | false =>
    rw [hd] at c5
    rcases hl with ⟨hf, hl⟩ | ⟨g, hf, hg, hl⟩
    · have e1 : readL st s = ([], 101) := by simp [readL, hd, hf]
      rw [e1]
      clear hd e1 hf
      go_enter Try.func18, Try.ntmps18
      go_wp2
      go_ret2
      exact ⟨_, rfl, Kd.R_nil _ _ _ _ _, Below.refl _ _⟩
    · have e1 : readL st s = (allL st g, 0) := by simp [readL, hd, hf]
      rw [e1]
      clear hd e1 hf
      go_enter Try.func18, Try.ntmps18
      go_wp2_with (go_at_call 39; (with_reducible refine (all_calls HR.out hs hg).mono ?_); rintro e w1 ⟨v1, rfl, ho, hb⟩)
      go_ret2
      exact ⟨_, rfl, ho, hb⟩

end Go.Proofs.Ytcpkoajnepijkaa
