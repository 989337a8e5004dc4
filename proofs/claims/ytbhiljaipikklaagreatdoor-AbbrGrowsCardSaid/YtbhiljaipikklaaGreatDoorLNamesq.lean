/- Parts of the proof of the law that the last file states; declarations that nothing mentions are left out by a program. No conditions. -/
import Derived.Test.YtbhiljaipikklaaGreatDoorIterq
import Derived.Test.YtbhiljaipikklaaGreatDoorLTableq
import Derived.Test.YtbhiljaipikklaaGreatDoorLGrowq
set_option linter.unusedVariables false
set_option linter.unusedSimpArgs false
section
namespace Go.Proofs.YtbhiljaipikklaaGreatDoorL
open Go Go.RowKit Go.Proofs.YtbhiljaipikklaaGreatDoor Go.Proofs.YtbhiljaipikklaaGreatDoorW.PrintWords Go.Maps Go.MapKept
open Go.WideElems (rg)
open Go.WideShapes (sorted_perm)
theorem eq_of_sorted_perm {l l' : List (List UInt8)} (hp : l.Perm l') (h : l.Pairwise (· ≤ ·)) (h' : l'.Pairwise (· ≤ ·)) : l = l' := by
  induction l generalizing l' with
  | nil => exact hp.nil_eq
  | cons a l ih =>
    cases l' with
    | nil => exact absurd hp.length_eq (by simp)
    | cons b l' =>
      have h1 := List.pairwise_cons.1 h
      have h2 := List.pairwise_cons.1 h'
      have hab : a = b := by
        have ha : a ∈ b :: l' := hp.subset List.mem_cons_self
        have hb : b ∈ a :: l := hp.symm.subset List.mem_cons_self
        rcases List.mem_cons.1 ha with e | ha
        · exact e
        · rcases List.mem_cons.1 hb with e | hb
          · exact e.symm
          · exact List.le_antisymm (h1.1 b hb) (h2.1 a ha)
      subst hab
      rw [ih (List.Perm.cons_inv hp) h1.2 h2.2]
theorem own_lower {w : World} {B B' e size n : Nat} {v : Value} {xs : List Value} (h : w.ownsRow B e size v n xs) (hB : B' ≤ B) : w.ownsRow B' e size v n xs := by
  refine ⟨h.1, ?_⟩
  rcases h.2 with h | ⟨g, cap, cur, hv, hb, hr⟩
  · exact .inl h
  · exact .inr ⟨g, cap, cur, hv, by omega, hr⟩
def sortB (l : List (List UInt8)) : List (List UInt8) := l.mergeSort (fun x y => decide (x ≤ y))
theorem sortB_pairwise (l : List (List UInt8)) : (sortB l).Pairwise (· ≤ ·) := by
  have := List.pairwise_mergeSort (le := fun x y : List UInt8 => decide (x ≤ y)) (fun a b c h1 h2 => by
    simp only [decide_eq_true_eq] at *
    exact List.le_trans h1 h2) (fun a b => by
    simp only [Bool.or_eq_true, decide_eq_true_eq]
    exact List.le_total a b) l
  exact this.imp (fun h => by simpa using h)
theorem sortB_perm (l : List (List UInt8)) : (sortB l).Perm l := List.mergeSort_perm l _
theorem sortB_eq {l l' : List (List UInt8)} (h : l.Perm l') : sortB l = sortB l' :=
  eq_of_sorted_perm ((sortB_perm l).trans (h.trans (sortB_perm l').symm)) (sortB_pairwise l) (sortB_pairwise l')
def namesP (l : List (ByteArray × ByteArray)) : List (List UInt8) := sortB (l.map (·.1.data.toList))
def anyR (_ : Value) : Option (DataW Unit × List MemPlace) := some (.nil, [])
theorem toList_data (s : ByteArray) : s.toList = s.data.toList := ByteArray.toList_eq s
theorem mapStr_owns {w : World} {M : Nat} {l : List (ByteArray × Value)} (h : MapStr w M l) (hs : ∀ p ∈ l, p.1.size ≤ 20) (hl : l.length ≤ 1000) :
    ∃ D : DataW Unit, w.ownsMap Tryz.prog 9 anyR M l.length D ∧ (strKeys D).Perm (l.map (·.1.data.toList)) ∧ Maps.size D = l.length := by
  obtain ⟨es, clock, hM, hst, hl'⟩ := h
  have hsz : es.size = l.length := by
    have := congrArg List.length hl'
    simpa using this
  have hk : ∀ x ∈ es.toList, ∃ s : ByteArray, x.key = .string s ∧ s.size ≤ 20 := fun x hx => by
    have : (x.key, x.val) ∈ l.map (fun p => (Value.string p.1, p.2)) := hl' ▸ List.mem_map.2 ⟨x, hx, rfl⟩
    obtain ⟨p, hp, e⟩ := List.mem_map.1 this
    injection e with e1 e2
    exact ⟨p.1, e1.symm, hs p hp⟩
  have hrd : ∀ x ∈ es.toList, ∀ s : ByteArray, x.key = .string s → s.size ≤ 20 → WideElems.rd Tryz.prog 9 anyR x = some (.string s.data.toList, .nil) := fun x hx s e hs => by
    have : s.size ≤ maxLen := by unfold maxLen; omega
    unfold WideElems.rd anyR
    rw [e]
    simp [keyOf, Tryz.underlying9, mapKey, this]
  refine ⟨.map ((es.toList.map (rg Tryz.prog 9 anyR)).foldr DataW.insert []), ⟨es, clock, hM, ⟨by unfold maxLen; omega, hst, fun x hx => ?_⟩, by omega, rfl⟩, ?_, ?_⟩
  · obtain ⟨s, e, h20⟩ := hk x hx
    exact ⟨_, hrd x hx s e h20⟩
  · have h1 : (((es.toList.map (rg Tryz.prog 9 anyR)).foldr DataW.insert []).map fun p => strOf p.1).Perm ((es.toList.map (rg Tryz.prog 9 anyR)).map fun p => strOf p.1) := (sorted_perm _).map _
    refine h1.trans (List.Perm.of_eq ?_)
    have e1 : (es.toList.map (rg Tryz.prog 9 anyR)).map (fun p => strOf p.1) = es.toList.map (fun x => match x.key with | .string s => s.data.toList | _ => []) := by
      rw [List.map_map]
      refine List.map_congr_left fun x hx => ?_
      obtain ⟨s, e, h20⟩ := hk x hx
      simp only [Function.comp_apply, rg, hrd x hx s e h20, Option.getD_some, e, strOf]
    rw [e1]
    have e2 : es.toList.map (fun x => match x.key with | .string s => s.data.toList | _ => []) = (es.toList.map (fun e => (e.key, e.val))).map (fun p => match p.1 with | .string s => s.data.toList | _ => []) := by
      rw [List.map_map]; rfl
    rw [e2, hl', List.map_map]
    rfl
  · show ((es.toList.map (rg Tryz.prog 9 anyR)).foldr DataW.insert []).length = _
    rw [(sorted_perm _).length_eq]
    simp [hsz]
set_option maxRecDepth 100000 in
set_option maxHeartbeats 1000000 in
theorem names_calls {w : World} {T : Nat} {mo : Option Nat} {l : List (ByteArray × ByteArray)} (h : TRep w T mo l) (hs : ∀ p ∈ l, p.1.size ≤ 20) (hl : l.length ≤ 100) :
    Calls Tryz.prog 9 #[.pointer (some ⟨T, 0, none⟩)] w fun e w' => ∃ v, e = .returned v ∧ w'.ownsRow w.heap.size 9 1 v l.length ((namesP l).map encStr) ∧ Below w.heap.size w w' := by
  have XK := Hd.mk (callsIn_wide.1 (Tryz.maps_Keys_21 mo w))
  have XS : Hd (Calls Tryz.prog 20 #[.func (.func 41) #[] #[.pointer (some ⟨w.heap.size, 0, none⟩)]] (w.alloc (.cells #[.map mo] 25)) fun e w' => ∃ v, e = .returned v ∧ w'.ownsRow w.heap.size 9 1 v l.length ((namesP l).map encStr) ∧ Below w.heap.size w w') := by
    have h2 := h.2
    cases mo with
    | none =>
      obtain rfl : l = [] := h2
      refine ⟨(callsIn_wide.1 (Tryz.slices_Sorted_keys_nil_20_21 w)).mono ?_⟩
      rintro e w2 ⟨v, ss, rfl, rfl, hrow, _, hb⟩
      exact ⟨v, rfl, own_lower hrow (by simp), (below_alloc (Below.refl _ _) _).trans (hb.mono (by simp))⟩
    | some M =>
      obtain ⟨D, hown, hperm, hsize⟩ := mapStr_owns h2 (fun p hp => by
        unfold vvL at hp
        obtain ⟨q, hq, rfl⟩ := List.mem_map.1 hp
        exact hs q hq) (by rw [vvL_len]; omega)
      rw [vvL_len] at hown hsize
      refine ⟨(callsIn_wide.1 (Tryz.slices_Sorted_keys_20_21 M _ D anyR w hown (by unfold maxLen; omega) (by omega))).mono ?_⟩
      rintro e w2 ⟨v, ss, rfl, hS, hrow, _, hb⟩
      have hp : ss.Perm (l.map (·.1.data.toList)) := by
        refine hS.trans (hperm.trans (List.Perm.of_eq ?_))
        unfold vvL
        rw [List.map_map]
        rfl
      have hsl : ss.length = l.length := by rw [hp.length_eq, List.length_map]
      rw [hsl] at hrow
      have e1 : ss.mergeSort (fun x y => decide (x ≤ y)) = namesP l := sortB_eq hp
      rw [e1] at hrow
      exact ⟨v, rfl, own_lower hrow (by simp), (below_alloc (Below.refl _ _) _).trans (hb.mono (by simp))⟩
  have c0 := h.1.cell 0 (v := .map mo) rfl
  clear hs hl
  go_enter Tryz.func9, Tryz.ntmps9
  go_wp2_with fail
  go_at_call 21
  with_reducible refine (XK.out).mono ?_
  rintro e w1 ⟨rfl, rfl⟩
  go_wp2_with fail
  go_at_call 20
  with_reducible refine (XS.out).mono ?_
  rintro e w2 ⟨v, rfl, hrow, hb⟩
  have HR := Hd.mk hrow
  have HB := Hd.mk hb
  clear hrow hb
  go_wp2
  go_ret
  exact ⟨_, rfl, HR.out, HB.out⟩
end Go.Proofs.YtbhiljaipikklaaGreatDoorL
end
section
namespace Go.Proofs.YtbhiljaipikklaaGreatDoorL
open Go Go.RowKit Go.MapKept Go.Maps Go.Proofs.YtbhiljaipikklaaGreatDoorW.PrintWords
def WellT (l : List (ByteArray × ByteArray)) : Prop := (∀ p ∈ l, namedS p.1 = true ∧ (∃ t : ByteArray, t.size ≤ 4294967296 ∧ p.2 = plainS t) ∧ p.2.size ≤ 100) ∧ l.length ≤ 16 ∧ (l.map (·.1)).Nodup
theorem WellT.nil : WellT [] := ⟨fun p hp => (List.not_mem_nil hp).elim, Nat.zero_le _, List.nodup_nil⟩
theorem named_size {s : ByteArray} (h : namedS s = true) : 0 < s.size ∧ s.size ≤ 20 ∧ plainS s = s := by
  unfold namedS at h
  simp only [Bool.and_eq_true, decide_eq_true_eq] at h
  exact ⟨h.1, h.2.1, h.2.2.1⟩
theorem mem_drop {p : ByteArray × ByteArray} {s : ByteArray} : ∀ {l : List (ByteArray × ByteArray)}, p ∈ drop_ s l → p ∈ l
  | [], h => h
  | q :: l, h => by
    unfold drop_ at h
    split at h
    · exact List.mem_cons_of_mem _ h
    · rcases List.mem_cons.1 h with rfl | h
      · exact List.mem_cons_self
      · exact List.mem_cons_of_mem _ (mem_drop h)
theorem drop_sublist (s : ByteArray) : ∀ l : List (ByteArray × ByteArray), (drop_ s l).Sublist l
  | [] => List.Sublist.slnil
  | q :: l => by
    unfold drop_
    split
    · exact List.sublist_cons_self _ _
    · exact (drop_sublist s l).cons_cons q
theorem WellT.drop {l : List (ByteArray × ByteArray)} (h : WellT l) (s : ByteArray) : WellT (drop_ s l) :=
  ⟨fun p hp => h.1 p (mem_drop hp), Nat.le_trans (drop_sublist s l).length_le h.2.1, h.2.2.sublist ((drop_sublist s l).map _)⟩
theorem mem_put {p : ByteArray × ByteArray} {s t : ByteArray} : ∀ {l : List (ByteArray × ByteArray)}, p ∈ put s t l → p = (s, t) ∨ p ∈ l
  | [], h => by
    unfold put at h
    exact .inl (List.mem_singleton.1 h)
  | q :: l, h => by
    unfold put at h
    split at h
    · rcases List.mem_cons.1 h with rfl | h
      · exact .inl rfl
      · exact .inr (List.mem_cons_of_mem _ h)
    · rcases List.mem_cons.1 h with rfl | h
      · exact .inr List.mem_cons_self
      · rcases mem_put h with h | h
        · exact .inl h
        · exact .inr (List.mem_cons_of_mem _ h)
theorem put_names {s t : ByteArray} : ∀ {l : List (ByteArray × ByteArray)}, (put s t l).map (·.1) = if fnd s l = none then l.map (·.1) ++ [s] else l.map (·.1)
  | [] => rfl
  | q :: l => by
    have ih := put_names (s := s) (t := t) (l := l)
    unfold put fnd
    by_cases e : q.1 = s
    · simp [e]
    · simp only [e, if_false, List.map_cons, ih]
      split <;> rfl
theorem fnd_none {s : ByteArray} : ∀ {l : List (ByteArray × ByteArray)}, fnd s l = none ↔ s ∉ l.map (·.1)
  | [] => by simp [fnd]
  | q :: l => by
    unfold fnd
    by_cases e : q.1 = s
    · simp [e]
    · have e2 : ¬ s = q.1 := fun x => e x.symm
      simp only [e, if_false, List.map_cons, List.mem_cons, e2, false_or]
      exact fnd_none
theorem put_length {s t : ByteArray} {l : List (ByteArray × ByteArray)} : (put s t l).length = if fnd s l = none then l.length + 1 else l.length := by
  have := congrArg List.length (put_names (s := s) (t := t) (l := l))
  rw [List.length_map] at this
  rw [this]
  split <;> simp
theorem getP_is {s : ByteArray} {l : List (ByteArray × ByteArray)} : (getP s l).2 = false ↔ fnd s l = none := by
  unfold getP
  cases fnd s l <;> simp
theorem WellT.set {l : List (ByteArray × ByteArray)} (h : WellT l) (s t : ByteArray) (ht : t.size ≤ 4294967296) : WellT (setP s t l).2 := by
  unfold setP
  split
  · exact h
  split
  · exact h
  split
  · exact h
  rename_i h1 h2 h3
  have hn : namedS s = true := by
    cases e : namedS s
    · exact absurd e h1
    · rfl
  refine ⟨fun p hp => ?_, ?_, ?_⟩
  · rcases mem_put hp with rfl | hp
    · exact ⟨hn, ⟨t, ht, rfl⟩, Nat.le_of_not_lt h2⟩
    · exact h.1 p hp
  · rw [put_length]
    have := h.2.1
    split
    · rename_i hf
      have h4 : (getP s l).2 = false := getP_is.2 hf
      have h5 : ¬ 16 ≤ l.length := fun x => h3 ⟨h4, x⟩
      omega
    · exact this
  · rw [put_names]
    split
    · rename_i hf
      have h4 := fnd_none.1 hf
      rw [List.nodup_append]
      refine ⟨h.2.2, by simp, fun a ha b hb e => ?_⟩
      rw [List.mem_singleton] at hb
      subst hb
      subst e
      exact h4 ha
    · exact h.2.2
def TS (P : Nat → Prop) (w : World) (T : Nat) (l : List (ByteArray × ByteArray)) : Prop := WellT l ∧ ∃ mo, TRep w T mo l ∧ P T ∧ ∀ M, mo = some M → P M
section
variable {P : Nat → Prop} {w w' : World} {T : Nat} {l : List (ByteArray × ByteArray)}
theorem TS.below (h : TS P w T l) (hb : Below w.heap.size w w') : TS P w' T l := by
  obtain ⟨h0, mo, h1, h2⟩ := h
  exact ⟨h0, mo, h1.below hb, h2⟩
theorem TS.new (hB : Blk w T 27 #[.map none]) (hP : P T) : TS P w T [] := ⟨WellT.nil, none, ⟨hB, rfl⟩, hP, fun M e => by cases e⟩
theorem TS.bound (h : TS P w T l) : TS (fun k => P k ∧ k < w.heap.size) w T l := by
  obtain ⟨h0, mo, h1, h2, h3⟩ := h
  exact ⟨h0, mo, h1, ⟨h2, h1.lt.1⟩, fun M e => ⟨h3 M e, h1.lt.2 M e⟩⟩
theorem TS.mono {Q : Nat → Prop} (h : TS P w T l) (hQ : ∀ k, P k → Q k) : TS Q w T l := by
  obtain ⟨h0, mo, h1, h2, h3⟩ := h
  exact ⟨h0, mo, h1, hQ _ h2, fun M e => hQ M (h3 M e)⟩
theorem TS.lt (h : TS P w T l) : T < w.heap.size := by
  obtain ⟨_, _, h1, _⟩ := h
  exact h1.lt.1
theorem TS.store {g : Nat} {t : TypeId} {cs : Array Value} (h : TS P w T l) (hB : Blk w g t cs) (hT : T ≠ g) (hk : YtbhiljaipikklaaGreatDoorW.PrintWords.Kept w w' (fun k => k = g)) : TS P w' T l := by
  obtain ⟨h0, mo, h1, h2⟩ := h
  refine ⟨h0, mo, ?_, h2⟩
  obtain ⟨b, m⟩ := h1
  refine ⟨(hk.2 T b.lt hT).trans b, ?_⟩
  cases mo with
  | none => exact m
  | some M => exact MapStr.to m (hk.2 M (MapStr.lt m) (MapStr.ne_blk m hB))
def KB (w : World) (T : Nat) (w' : World) : Prop := ∀ g t cs, Blk w g t cs → T ≠ g → Blk w' g t cs
theorem KB.of {mo : Option Nat} (h : TRep w T mo l) (ho : Only (fun k => k = T ∨ mo = some k) w w') : KB w T w' := fun g t cs hB hne => by
  refine hB.to (ho.block g hB.lt (fun e => ?_))
  rcases e with e | e
  · exact hne e.symm
  · subst e
    exact MapStr.ne_blk h.2 hB rfl
theorem get_ts (h : TS P w T l) (s : ByteArray) : Calls Tryz.prog 10 #[.pointer (some ⟨T, 0, none⟩), .string s] w fun e w' => e = .returned (.tuple #[.string (getP s l).1, .bool (getP s l).2]) ∧ TS P w' T l ∧ Below w.heap.size w w' := by
  obtain ⟨h0, mo, h1, h2, h3⟩ := id h
  refine (get_calls h1 s).mono ?_
  rintro e w' ⟨rfl, hb⟩
  exact ⟨rfl, h.below hb, hb⟩
theorem names_ts (h : TS P w T l) : Calls Tryz.prog 9 #[.pointer (some ⟨T, 0, none⟩)] w fun e w' => (∃ v, e = .returned v ∧ w'.ownsRow w.heap.size 9 1 v l.length ((namesP l).map encStr)) ∧ TS P w' T l ∧ Below w.heap.size w w' := by
  obtain ⟨h0, mo, h1, h2, h3⟩ := id h
  refine (names_calls h1 (fun p hp => (named_size (h0.1 p hp).1).2.1) (by have := h0.2.1; omega)).mono ?_
  rintro e w' ⟨v, rfl, hr, hb⟩
  exact ⟨⟨v, rfl, hr⟩, h.below hb, hb⟩
theorem grow_ts (h : TS P w T l) (S : ByteArray) (hS : S.size ≤ 4294967296) (at_ : Int) (hT : Lib.Utf8Tabs 0 1 w) :
    Calls Tryz.prog 11 #[.pointer (some ⟨T, 0, none⟩), .agg #[.string S, .int .i64 at_]] w fun e w' => e = .returned (growV (growP (makeS S) (backL (makeS S) at_) l)) ∧ TS P w' T l ∧ Below w.heap.size w w' := by
  obtain ⟨h0, mo, h1, h2, h3⟩ := id h
  refine (grow_calls h1 S hS at_ (fun p hp => by have := (h0.1 p hp).2.2; omega) hT).mono ?_
  rintro e w' ⟨rfl, hb⟩
  exact ⟨rfl, h.below hb, hb⟩
theorem drop_ts (h : TS P w T l) (s : ByteArray) : Calls Tryz.prog 17 #[.pointer (some ⟨T, 0, none⟩), .string s] w fun e w' => e = .returned (.bool (getP s l).2) ∧ TS P w' T (drop_ s l) ∧ Only P w w' ∧ KB w T w' := by
  obtain ⟨h0, mo, h1, h2, h3⟩ := h
  refine (drop_calls h1 s).mono ?_
  rintro e w' ⟨rfl, hr, ho⟩
  exact ⟨rfl, ⟨h0.drop s, mo, hr, h2, h3⟩, ho.mono (fun i _ hi => h3 i hi), KB.of h1 (ho.mono (fun i _ hi => .inr hi))⟩
theorem set_ts (h : TS P w T l) (hP : ∀ k, w.heap.size ≤ k → P k) (s to_ : ByteArray) (hs : s.size ≤ 4294967296) (ht : to_.size ≤ 4294967296) (hT : Lib.Utf8Tabs 0 1 w) :
    Calls Tryz.prog 16 #[.pointer (some ⟨T, 0, none⟩), .string s, .string to_] w fun e w' => e = .returned (.int .i64 (setP s to_ l).1) ∧ TS P w' T (setP s to_ l).2 ∧ Only P w w' ∧ KB w T w' := by
  obtain ⟨h0, mo, h1, h2, h3⟩ := h
  refine (set_calls h1 (by have := h0.2.1; omega) s to_ hs ht hT).mono ?_
  rintro e w' ⟨rfl, ⟨mo', hr, hm⟩, ho⟩
  refine ⟨rfl, ⟨h0.set s to_ ht, mo', hr, h2, fun M e => ?_⟩, ho.mono (fun i _ hi => ?_), KB.of h1 ho⟩
  · rcases hm with rfl | ⟨M', rfl, hM⟩
    · exact h3 M e
    · injection e with e
      exact hP M (e ▸ hM)
  · rcases hi with rfl | hi
    · exact h2
    · exact h3 i hi
end
end Go.Proofs.YtbhiljaipikklaaGreatDoorL
end
