/- Parts of the proof of the law that the last file states; declarations that nothing mentions are left out by a program. No conditions. -/
import Derived.Test.YtcpkoajnepijkaaIterq
import Derived.Test.YtcpkoajnepijkaaSimq
set_option linter.unusedVariables false
set_option linter.unusedSimpArgs false
section
namespace Go.Proofs.Ytcpkoajnepijkaa
open Go.RowKit Go.Proofs.YtcpkoajnepijkaaL Go.Proofs.YtcpkoajnepijkaaW.PrintWords Go.Maps Go.MapKept
def WellP (S : PS) : Prop := (∀ f ∈ S.l, namedB f.name = true) ∧ S.l.length ≤ 8
theorem WellP.of {S S' : PS} (h : WellP S) (e : S'.l = S.l) : WellP S' := by unfold WellP; rw [e]; exact h
theorem WellP.without {S S' : PS} (h : WellP S) {s : ByteArray} (e : S'.l = withoutP s S.l) : WellP S' := by
  unfold WellP
  rw [e]
  exact ⟨fun f hf => h.1 f (mem_withoutP.1 hf).1, Nat.le_trans (List.length_filter_le _ _) h.2⟩
theorem length_without_in {s : ByteArray} : ∀ {l : List PF} {f : PF}, f ∈ l → f.name = s → (withoutP s l).length + 1 ≤ l.length
  | x :: l, f, hf, e => by
    unfold withoutP
    rcases List.mem_cons.1 hf with rfl | hf
    · rw [List.filter_cons_of_neg (by simp [e])]
      have := List.length_filter_le (fun f => !decide (f.name = s)) l
      simp only [List.length_cons]
      omega
    · have ih := length_without_in hf e
      unfold withoutP at ih
      have : ((x :: l).filter fun f => !decide (f.name = s)).length ≤ (l.filter fun f => !decide (f.name = s)).length + 1 := by
        rw [List.filter_cons]
        split <;> simp
      simp only [List.length_cons]
      omega
theorem WellP.with_ {S S' : PS} (h : WellP S) {f g : PF} (hg : g ∈ S.l) (hn : g.name = f.name) (e : S'.l = withP f S.l) : WellP S' := by
  unfold WellP
  rw [e]
  refine ⟨fun x hx => ?_, ?_⟩
  · rcases mem_withP.1 hx with rfl | hx
    · rw [← hn]; exact h.1 _ hg
    · exact h.1 x hx.1
  · unfold withP
    rw [length_insP]
    exact Nat.le_trans (length_without_in hg hn) h.2
theorem beginP_cases (S : PS) (s : ByteArray) (may : Bool) : (∃ n S', beginP S s may = (none, n, S') ∧ S'.l = S.l) ∨ (∃ f, beginP S s may = (some f, 0, countP S) ∧ findP s S.l = some f ∧ may = true) := by
  unfold beginP
  split
  · exact .inl ⟨_, _, rfl, rfl⟩
  · split
    · exact .inl ⟨_, _, rfl, rfl⟩
    · rename_i f hf
      split
      · exact .inl ⟨_, _, rfl, rfl⟩
      · split
        · exact .inl ⟨_, _, rfl, rfl⟩
        · exact .inr ⟨f, rfl, hf, by rename_i h _; simpa using h⟩
theorem well_new : WellP newP := ⟨(fun f hf => by simp [newP] at hf), by decide⟩
theorem WellP.sync {S : PS} (h : WellP S) (s : ByteArray) : WellP (syncP S s).2 := by
  unfold syncP
  rcases beginP_cases S s true with ⟨n, S', e, el⟩ | ⟨f, e, hf, _⟩
  · rw [e]; exact h.of el
  · rw [e]
    obtain ⟨h1, h2⟩ := findP_some hf
    exact h.with_ (f := { f with b := bytesP f, row := [] }) h1 rfl rfl
theorem WellP.cut {S : PS} (h : WellP S) (s : ByteArray) (k : Int) : WellP (cutP S s k).2 := by
  unfold cutP
  rcases beginP_cases S s true with ⟨n, S', e, el⟩ | ⟨f, e, hf, _⟩
  · rw [e]; exact h.of el
  · rw [e]
    obtain ⟨h1, h2⟩ := findP_some hf
    exact h.with_ (f := { f with b := (bytesP f).take (cutN k (bytesP f).length), row := [] }) h1 rfl rfl
theorem WellP.remove {S : PS} (h : WellP S) (s : ByteArray) : WellP (removeP S s).2 := by
  unfold removeP
  rcases beginP_cases S s true with ⟨n, S', e, el⟩ | ⟨f, e, hf, _⟩
  · rw [e]; exact h.of el
  · rw [e]; exact h.without rfl
theorem WellP.rename {S : PS} (h : WellP S) (s t : ByteArray) : WellP (renameP S s t).2 := by
  unfold renameP
  rcases beginP_cases S s (namedB t) with ⟨n, S', e, el⟩ | ⟨f, e, hf, ht⟩
  · rw [e]; exact h.of el
  · rw [e]
    obtain ⟨h1, h2⟩ := findP_some hf
    refine ⟨fun x hx => ?_, ?_⟩
    · rcases mem_withP.1 hx with rfl | hx
      · exact ht
      · exact h.1 x (mem_withoutP.1 hx.1).1
    · show (withP { f with name := t } (withoutP s S.l)).length ≤ 8
      unfold withP
      rw [length_insP]
      have := length_without_in h1 h2
      have h3 : (withoutP t (withoutP s S.l)).length ≤ (withoutP s S.l).length := List.length_filter_le _ _
      have := h.2
      show (withoutP t (withoutP s S.l)).length + 1 ≤ 8
      omega
theorem WellP.write {S : PS} (h : WellP S) (s : ByteArray) (b : List Int) : WellP (writeP S s b).2 := by
  unfold writeP
  split
  · exact h
  split
  · exact h
  rename_i hn
  have hn1 : namedB s = true := by
    cases hb : namedB s
    · exact absurd (.inl hb) hn
    · rfl
  simp only
  split
  · exact h
  split
  · exact h
  cases hf : findP s S.l with
  | some f =>
    obtain ⟨h1, h2⟩ := findP_some hf
    exact h.with_ (f := { f with row := f.row ++ [⟨S.no, (bytesP f).length, b⟩] }) h1 rfl rfl
  | none =>
    have hl : S.l.length < 8 := by
      rcases Nat.lt_or_ge S.l.length 8 with hl | hl
      · exact hl
      · exact absurd (.inr ⟨hf, hl⟩) hn
    refine ⟨fun x hx => ?_, ?_⟩
    · rcases mem_withP.1 hx with rfl | hx
      · exact hn1
      · exact h.1 x hx.1
    · show (withP _ S.l).length ≤ 8
      unfold withP
      rw [length_insP]
      have h3 : (withoutP s S.l).length ≤ S.l.length := List.length_filter_le _ _
      show (withoutP s S.l).length + 1 ≤ 8
      omega
theorem WellP.crash {S : PS} (h : WellP S) (keep : List Bool) : WellP (crashP S keep) := by
  refine ⟨fun x hx => ?_, ?_⟩
  · obtain ⟨f, hf, rfl⟩ := List.mem_map.1 hx
    exact h.1 f hf
  · show (S.l.map _).length ≤ 8
    rw [List.length_map]
    exact h.2
end Go.Proofs.Ytcpkoajnepijkaa
namespace Go.Proofs.Ytcpkoajnepijkaa
open Go.RowKit Go.Proofs.YtcpkoajnepijkaaL Go.Proofs.YtcpkoajnepijkaaW.PrintWords Go.Maps Go.MapKept
open Go.WideElems (rg)
open Go.WideShapes (sorted_perm)
def anyR (_ : Value) : Option (DataW Unit × List MemPlace) := some (.nil, [])
theorem toList_data (s : ByteArray) : s.toList = s.data.toList := ByteArray.toList_eq s
theorem mapStr_owns {w : World} {M : Nat} {l : List (ByteArray × Value)} (h : MapStr w M l) (hs : ∀ p ∈ l, p.1.size ≤ 20) (hl : l.length ≤ 1000) :
    ∃ D : DataW Unit, w.ownsMap Try.prog 9 anyR M l.length D ∧ (strKeys D).Perm (l.map (·.1.data.toList)) ∧ Maps.size D = l.length := by
  obtain ⟨es, clock, hM, hst, hl'⟩ := h
  have hsz : es.size = l.length := by
    have := congrArg List.length hl'
    simpa using this
  have hk : ∀ x ∈ es.toList, ∃ s : ByteArray, x.key = .string s ∧ s.size ≤ 20 := fun x hx => by
    have : (x.key, x.val) ∈ l.map (fun p => (Value.string p.1, p.2)) := hl' ▸ List.mem_map.2 ⟨x, hx, rfl⟩
    obtain ⟨p, hp, e⟩ := List.mem_map.1 this
    injection e with e1 e2
    exact ⟨p.1, e1.symm, hs p hp⟩
  have hrd : ∀ x ∈ es.toList, ∀ s : ByteArray, x.key = .string s → s.size ≤ 20 → WideElems.rd Try.prog 9 anyR x = some (.string s.data.toList, .nil) := fun x hx s e hs => by
    have : s.size ≤ maxLen := by unfold maxLen; omega
    unfold WideElems.rd anyR
    rw [e]
    simp [keyOf, Try.underlying9, mapKey, this]
  refine ⟨.map ((es.toList.map (rg Try.prog 9 anyR)).foldr DataW.insert []), ⟨es, clock, hM, ⟨by unfold maxLen; omega, hst, fun x hx => ?_⟩, by omega, rfl⟩, ?_, ?_⟩
  · obtain ⟨s, e, h20⟩ := hk x hx
    exact ⟨_, hrd x hx s e h20⟩
  · have h1 : (((es.toList.map (rg Try.prog 9 anyR)).foldr DataW.insert []).map fun p => strOf p.1).Perm ((es.toList.map (rg Try.prog 9 anyR)).map fun p => strOf p.1) := (sorted_perm _).map _
    refine h1.trans (List.Perm.of_eq ?_)
    have e1 : (es.toList.map (rg Try.prog 9 anyR)).map (fun p => strOf p.1) = es.toList.map (fun x => match x.key with | .string s => s.data.toList | _ => []) := by
      rw [List.map_map]
      refine List.map_congr_left fun x hx => ?_
      obtain ⟨s, e, h20⟩ := hk x hx
      simp only [Function.comp_apply, rg, hrd x hx s e h20, Option.getD_some, e, strOf]
    rw [e1]
    have e2 : es.toList.map (fun x => match x.key with | .string s => s.data.toList | _ => []) = (es.toList.map (fun e => (e.key, e.val))).map (fun p => match p.1 with | .string s => s.data.toList | _ => []) := by
      rw [List.map_map]; rfl
    rw [e2, hl', List.map_map]
    rfl
  · show ((es.toList.map (rg Try.prog 9 anyR)).foldr DataW.insert []).length = _
    rw [(sorted_perm _).length_eq]
    simp [hsz]
theorem Rel.well {st : FS} {S : PS} {nos : List Nat} (h : Rel st S nos) (hw : WellP S) : (∀ p ∈ st.files, p.1.size ≤ 20) ∧ st.files.length ≤ 8 := by
  refine ⟨fun p hp => ?_, by rw [h.len]; exact hw.2⟩
  obtain ⟨f, hf, e⟩ := h.bwd p hp
  have := hw.1 f hf
  rw [e] at this
  simp only [namedB, Bool.and_eq_true, decide_eq_true_eq] at this
  exact this.2
theorem FSat.names {base : Nat} {Lz : Nat → Prop} {w : World} {F : Nat} {fp : Nat → Prop} {S : PS} {k : Nat} (h : FSat base Lz w F fp S k) (hw : WellP S) :
    Calls Try.prog 27 #[ptr F] w fun e w' => ∃ v, e = .returned v ∧ w'.ownsRow w.heap.size 9 1 v S.l.length (S.l.map fun f => .string f.name) ∧ Below w.heap.size w w' := by
  obtain ⟨st, nos, ⟨M, rv, cells, h1⟩, h2, h3⟩ := h
  obtain ⟨hw1, hw2⟩ := h2.well hw
  obtain ⟨D, hown, hperm, hsize⟩ := mapStr_owns h1.map (fun p hp => by obtain ⟨q, hq, rfl⟩ := List.mem_map.1 hp; exact hw1 q hq) (by rw [List.length_map]; omega)
  rw [List.length_map] at hsize
  have XK := Zz.mk (callsIn_wide.1 (Try.maps_Keys_47 (some M) w))
  have XS := Zz.mk (callsIn_wide.1 (Try.slices_Sorted_keys_46_47 M _ D anyR w hown (by unfold maxLen; omega) (by omega)))
  have hps : ∀ ss : List (List UInt8), ss.Perm (strKeys D) → (ss.mergeSort (fun x y => decide (x ≤ y))).map encStr = S.l.map fun f => .string f.name := fun ss hs => by
    have e1 : ss.Perm (st.files.map (·.1.toList)) := by
      refine hs.trans (hperm.trans (List.Perm.of_eq ?_))
      rw [List.map_map]
      refine List.map_congr_left fun p _ => ?_
      exact (toList_data p.1).symm
    rw [h2.namesSorted e1, List.map_map]
    refine List.map_congr_left fun f _ => ?_
    simp only [Function.comp_apply, toList_data, encStr]
  have HPS := Zz.mk hps
  have HN : Zz (∀ ss : List (List UInt8), ss.Perm (strKeys D) → ss.length = S.l.length) := ⟨fun ss hs => by
    have := congrArg List.length (hps ss hs)
    simpa [List.length_mergeSort] using this⟩
  have c0 := h1.blk.cell 0 (v := .map (some M)) rfl
  clear h1 h2 h3 hw hw1 hw2 hown hperm hsize hps
  go_enter Try.func27, Try.ntmps27
  go_wp2_with fail
  go_at_call 47
  with_reducible refine (XK.out).mono ?_
  rintro e w1 ⟨rfl, rfl⟩
  go_wp2_with fail
  go_at_call 46
  with_reducible refine (XS.out).mono ?_
  rintro e w2 ⟨v, ss, rfl, hS, hrow, _, hb⟩
  have HR : Zz (w2.ownsRow w.heap.size 9 1 v S.l.length (S.l.map fun f => .string f.name)) := ⟨by
    rw [HPS.out ss hS, HN.out ss hS] at hrow
    exact own_lower hrow (by simp)⟩
  have HB : Zz (Below w.heap.size w w2) := ⟨(below_alloc (Below.refl _ _) _).trans (hb.mono (by simp))⟩
  clear hrow hb hS
  go_wp2
  go_ret
  exact ⟨_, rfl, HR.out, HB.out⟩
end Go.Proofs.Ytcpkoajnepijkaa
end
section
namespace Go.Proofs.Ytcpkoajnepijkaa
open Go.RowKit Go.Proofs.YtcpkoajnepijkaaL
def nA : ByteArray := ⟨#[97]⟩
def nB : ByteArray := ⟨#[98]⟩
def aS1 : PS := (writeP newP nA [1]).2
def aS2 : PS := (writeP aS1 nA [2]).2
def aS3 : PS := crashP aS2 [false, true]
def aS4 : PS := { aS3 with fuse := 0 }
def aS5 : PS := (syncP aS4 nA).2
def aC1 : PS := { aS2 with fault := 0 }
def aC2 : PS := (writeP aC1 nA []).2
def aC3 : PS := (renameP aC2 nA nB).2
def aC4 : PS := (cutP aC3 nB 1).2
def aC5 : PS := (removeP aC4 nB).2
theorem alive_facts : (writeP newP nA [1]).1 = 0 ∧ (writeP aS1 nA [2]).1 = 0 ∧ readP aS3 nA = ([0, 2], 0) ∧ (syncP aS4 nA).1 = 100 ∧ aS5.down = true ∧ readP aS2 nA = ([1, 2], 0) ∧ pendingP aC1 = 2 ∧ (writeP aC1 nA []).1 = 102 ∧ (renameP aC2 nA nB).1 = 0 ∧ aC3.l.map (·.name) = [nB] ∧ (cutP aC3 nB 1).1 = 0 ∧ (removeP aC4 nB).1 = 0 ∧ aC5.ops = 6 := by
  refine ⟨?_, ?_, ?_, ?_, ?_, ?_, ?_, ?_, ?_, ?_, ?_, ?_, ?_⟩ <;> decide +kernel
end Go.Proofs.Ytcpkoajnepijkaa
end
