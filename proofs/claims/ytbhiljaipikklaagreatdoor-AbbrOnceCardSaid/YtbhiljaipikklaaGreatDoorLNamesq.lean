/- Parts of the proof of the law that the last file states; declarations that nothing mentions are left out by a program. No conditions. -/
import Derived.Test.YtbhiljaipikklaaGreatDoorIterq
import Derived.Test.YtbhiljaipikklaaGreatDoorLTableq
set_option linter.unusedVariables false
set_option linter.unusedSimpArgs false
namespace Go.Proofs.YtbhiljaipikklaaGreatDoorL
open Go Go.RowKit Go.Proofs.YtbhiljaipikklaaGreatDoor Go.Proofs.YtbhiljaipikklaaGreatDoorW.PrintWords Go.Maps Go.MapKept
open Go.WideElems (rg)
open Go.WideShapes (sorted_perm)
theorem eq_of_sorted_perm {l l' : List (List UInt8)} (hp : l.Perm l') (h : l.Pairwise (· ≤ ·)) (h' : l'.Pairwise (· ≤ ·)) : l = l' := by
  induction l generalizing l' with
  | nil => exact hp.nil_eq
  | cons a l ih =>
    cases l' with
    | nil => exact absurd hp.length_eq (by simp)
    | cons b l' =>
      have h1 := List.pairwise_cons.1 h
      have h2 := List.pairwise_cons.1 h'
      have hab : a = b := by
        have ha : a ∈ b :: l' := hp.subset List.mem_cons_self
        have hb : b ∈ a :: l := hp.symm.subset List.mem_cons_self
        rcases List.mem_cons.1 ha with e | ha
        · exact e
        · rcases List.mem_cons.1 hb with e | hb
          · exact e.symm
          · exact List.le_antisymm (h1.1 b hb) (h2.1 a ha)
      subst hab
      rw [ih (List.Perm.cons_inv hp) h1.2 h2.2]
theorem own_lower {w : World} {B B' e size n : Nat} {v : Value} {xs : List Value} (h : w.ownsRow B e size v n xs) (hB : B' ≤ B) : w.ownsRow B' e size v n xs := by
  refine ⟨h.1, ?_⟩
  rcases h.2 with h | ⟨g, cap, cur, hv, hb, hr⟩
  · exact .inl h
  · exact .inr ⟨g, cap, cur, hv, by omega, hr⟩
def sortB (l : List (List UInt8)) : List (List UInt8) := l.mergeSort (fun x y => decide (x ≤ y))
theorem sortB_pairwise (l : List (List UInt8)) : (sortB l).Pairwise (· ≤ ·) := by
  have := List.pairwise_mergeSort (le := fun x y : List UInt8 => decide (x ≤ y)) (fun a b c h1 h2 => by
    simp only [decide_eq_true_eq] at *
    exact List.le_trans h1 h2) (fun a b => by
    simp only [Bool.or_eq_true, decide_eq_true_eq]
    exact List.le_total a b) l
  exact this.imp (fun h => by simpa using h)
theorem sortB_perm (l : List (List UInt8)) : (sortB l).Perm l := List.mergeSort_perm l _
theorem sortB_eq {l l' : List (List UInt8)} (h : l.Perm l') : sortB l = sortB l' :=
  eq_of_sorted_perm ((sortB_perm l).trans (h.trans (sortB_perm l').symm)) (sortB_pairwise l) (sortB_pairwise l')
def namesP (l : List (ByteArray × ByteArray)) : List (List UInt8) := sortB (l.map (·.1.data.toList))
def anyR (_ : Value) : Option (DataW Unit × List MemPlace) := some (.nil, [])
theorem toList_data (s : ByteArray) : s.toList = s.data.toList := ByteArray.toList_eq s
theorem mapStr_owns {w : World} {M : Nat} {l : List (ByteArray × Value)} (h : MapStr w M l) (hs : ∀ p ∈ l, p.1.size ≤ 20) (hl : l.length ≤ 1000) :
    ∃ D : DataW Unit, w.ownsMap Tryz.prog 9 anyR M l.length D ∧ (strKeys D).Perm (l.map (·.1.data.toList)) ∧ Maps.size D = l.length := by
  obtain ⟨es, clock, hM, hst, hl'⟩ := h
  have hsz : es.size = l.length := by
    have := congrArg List.length hl'
    simpa using this
  have hk : ∀ x ∈ es.toList, ∃ s : ByteArray, x.key = .string s ∧ s.size ≤ 20 := fun x hx => by
    have : (x.key, x.val) ∈ l.map (fun p => (Value.string p.1, p.2)) := hl' ▸ List.mem_map.2 ⟨x, hx, rfl⟩
    obtain ⟨p, hp, e⟩ := List.mem_map.1 this
    injection e with e1 e2
    exact ⟨p.1, e1.symm, hs p hp⟩
  have hrd : ∀ x ∈ es.toList, ∀ s : ByteArray, x.key = .string s → s.size ≤ 20 → WideElems.rd Tryz.prog 9 anyR x = some (.string s.data.toList, .nil) := fun x hx s e hs => by
    have : s.size ≤ maxLen := by unfold maxLen; omega
    unfold WideElems.rd anyR
    rw [e]
    simp [keyOf, Tryz.underlying9, mapKey, this]
  refine ⟨.map ((es.toList.map (rg Tryz.prog 9 anyR)).foldr DataW.insert []), ⟨es, clock, hM, ⟨by unfold maxLen; omega, hst, fun x hx => ?_⟩, by omega, rfl⟩, ?_, ?_⟩
  · obtain ⟨s, e, h20⟩ := hk x hx
    exact ⟨_, hrd x hx s e h20⟩
  · have h1 : (((es.toList.map (rg Tryz.prog 9 anyR)).foldr DataW.insert []).map fun p => strOf p.1).Perm ((es.toList.map (rg Tryz.prog 9 anyR)).map fun p => strOf p.1) := (sorted_perm _).map _
    refine h1.trans (List.Perm.of_eq ?_)
    have e1 : (es.toList.map (rg Tryz.prog 9 anyR)).map (fun p => strOf p.1) = es.toList.map (fun x => match x.key with | .string s => s.data.toList | _ => []) := by
      rw [List.map_map]
      refine List.map_congr_left fun x hx => ?_
      obtain ⟨s, e, h20⟩ := hk x hx
      simp only [Function.comp_apply, rg, hrd x hx s e h20, Option.getD_some, e, strOf]
    rw [e1]
    have e2 : es.toList.map (fun x => match x.key with | .string s => s.data.toList | _ => []) = (es.toList.map (fun e => (e.key, e.val))).map (fun p => match p.1 with | .string s => s.data.toList | _ => []) := by
      rw [List.map_map]; rfl
    rw [e2, hl', List.map_map]
    rfl
  · show ((es.toList.map (rg Tryz.prog 9 anyR)).foldr DataW.insert []).length = _
    rw [(sorted_perm _).length_eq]
    simp [hsz]
set_option maxRecDepth 100000 in
set_option maxHeartbeats 1000000 in
theorem names_calls {w : World} {T : Nat} {mo : Option Nat} {l : List (ByteArray × ByteArray)} (h : TRep w T mo l) (hs : ∀ p ∈ l, p.1.size ≤ 20) (hl : l.length ≤ 100) :
    Calls Tryz.prog 9 #[.pointer (some ⟨T, 0, none⟩)] w fun e w' => ∃ v, e = .returned v ∧ w'.ownsRow w.heap.size 9 1 v l.length ((namesP l).map encStr) ∧ Below w.heap.size w w' := by
  have XK := Hd.mk (callsIn_wide.1 (Tryz.maps_Keys_21 mo w))
  have XS : Hd (Calls Tryz.prog 20 #[.func (.func 41) #[] #[.pointer (some ⟨w.heap.size, 0, none⟩)]] (w.alloc (.cells #[.map mo] 25)) fun e w' => ∃ v, e = .returned v ∧ w'.ownsRow w.heap.size 9 1 v l.length ((namesP l).map encStr) ∧ Below w.heap.size w w') := by
    have h2 := h.2
    cases mo with
    | none =>
      obtain rfl : l = [] := h2
      refine ⟨(callsIn_wide.1 (Tryz.slices_Sorted_keys_nil_20_21 w)).mono ?_⟩
      rintro e w2 ⟨v, ss, rfl, rfl, hrow, _, hb⟩
      exact ⟨v, rfl, own_lower hrow (by simp), (below_alloc (Below.refl _ _) _).trans (hb.mono (by simp))⟩
    | some M =>
      obtain ⟨D, hown, hperm, hsize⟩ := mapStr_owns h2 (fun p hp => by
        unfold vvL at hp
        obtain ⟨q, hq, rfl⟩ := List.mem_map.1 hp
        exact hs q hq) (by rw [vvL_len]; omega)
      rw [vvL_len] at hown hsize
      refine ⟨(callsIn_wide.1 (Tryz.slices_Sorted_keys_20_21 M _ D anyR w hown (by unfold maxLen; omega) (by omega))).mono ?_⟩
      rintro e w2 ⟨v, ss, rfl, hS, hrow, _, hb⟩
      have hp : ss.Perm (l.map (·.1.data.toList)) := by
        refine hS.trans (hperm.trans (List.Perm.of_eq ?_))
        unfold vvL
        rw [List.map_map]
        rfl
      have hsl : ss.length = l.length := by rw [hp.length_eq, List.length_map]
      rw [hsl] at hrow
      have e1 : ss.mergeSort (fun x y => decide (x ≤ y)) = namesP l := sortB_eq hp
      rw [e1] at hrow
      exact ⟨v, rfl, own_lower hrow (by simp), (below_alloc (Below.refl _ _) _).trans (hb.mono (by simp))⟩
  have c0 := h.1.cell 0 (v := .map mo) rfl
  clear hs hl
  go_enter Tryz.func9, Tryz.ntmps9
  go_wp2_with fail
  go_at_call 21
  with_reducible refine (XK.out).mono ?_
  rintro e w1 ⟨rfl, rfl⟩
  go_wp2_with fail
  go_at_call 20
  with_reducible refine (XS.out).mono ?_
  rintro e w2 ⟨v, rfl, hrow, hb⟩
  have HR := Hd.mk hrow
  have HB := Hd.mk hb
  clear hrow hb
  go_wp2
  go_ret
  exact ⟨_, rfl, HR.out, HB.out⟩
end Go.Proofs.YtbhiljaipikklaaGreatDoorL

