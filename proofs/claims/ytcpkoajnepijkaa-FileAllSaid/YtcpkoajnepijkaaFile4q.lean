/- Parts of the proof of the law that the last file states; declarations that nothing mentions are left out by a program. No conditions. -/
import Derived.Test.YtcpkoajnepijkaaFileAq
set_option linter.unusedVariables false
set_option linter.unusedSimpArgs false
namespace Go.Proofs.Ytcpkoajnepijkaa
open Go.RowKit Go.Proofs.YtcpkoajnepijkaaL Go.Proofs.YtcpkoajnepijkaaW.PrintWords
structure El where
  t : Nat
  a : Nat
  s : Option Addr
  n : Nat
  c : Nat
abbrev El.v (e : El) : Value := .slice e.s e.n e.c
def cellsE : List El → List Value
  | [] => []
  | e :: r => ptr e.t :: .int .i64 e.a :: e.v :: cellsE r
theorem cellsE_length : ∀ l, (cellsE l).length = l.length * 3
  | [] => rfl
  | e :: r => by simp [cellsE, cellsE_length r]; omega
theorem cellsE_take : ∀ (l : List El) (i : Nat), cellsE (l.take i) = (cellsE l).take (i * 3)
  | [], i => by simp [cellsE]
  | e :: l, 0 => by simp [cellsE]
  | e :: l, i + 1 => by
    have : (i + 1) * 3 = i * 3 + 3 := by omega
    rw [this]
    simp [cellsE, cellsE_take l i]
theorem cellsE_get : ∀ (l : List El) (i : Nat) (h : i < l.length), (cellsE l)[i * 3]? = some (ptr l[i].t) ∧ (cellsE l)[i * 3 + 1]? = some (.int .i64 l[i].a) ∧ (cellsE l)[i * 3 + 2]? = some l[i].v
  | e :: l, 0, _ => ⟨rfl, rfl, rfl⟩
  | e :: l, i + 1, h => by
    have := cellsE_get l i (by simpa using h)
    have e0 : (i + 1) * 3 = i * 3 + 3 := by omega
    have e1 : i * 3 + 3 + 1 = i * 3 + 1 + 3 := by omega
    have e2 : i * 3 + 3 + 2 = i * 3 + 2 + 3 := by omega
    rw [e0, e1, e2]
    simpa [cellsE] using this
theorem cellsE_set : ∀ (l : List El) (i : Nat) (e : El), i < l.length → cellsE (l.set i e) = (((cellsE l).set (i * 3) (ptr e.t)).set (i * 3 + 1) (.int .i64 e.a)).set (i * 3 + 2) e.v
  | x :: l, 0, e, _ => rfl
  | x :: l, i + 1, e, h => by
    have := cellsE_set l i e (by simpa using h)
    have e0 : (i + 1) * 3 = i * 3 + 3 := by omega
    have e1 : i * 3 + 3 + 1 = i * 3 + 1 + 3 := by omega
    have e2 : i * 3 + 3 + 2 = i * 3 + 2 + 3 := by omega
    rw [e0, e1, e2]
    simp [cellsE, this]
def RowE (base : Nat) (Lz : Nat → Prop) (w : World) : List Wr → List El → Prop
  | [], [] => True
  | x :: r, e :: l => e.t = x.tgt ∧ e.a = x.at_ ∧ RB base Lz w e.v x.b ∧ RowE base Lz w r l
  | _, _ => False
theorem rowE_of {base : Nat} {Lz : Nat → Prop} {w : World} : ∀ {row : List Wr} {cs : List Value}, RowIs base Lz w row cs → ∃ els, cs = cellsE els ∧ RowE base Lz w row els
  | [], [], _ => ⟨[], rfl, trivial⟩
  | x :: r, p :: a :: v :: cs, ⟨h1, h2, h3, h4⟩ => by
    obtain ⟨els, rfl, he⟩ := rowE_of h4
    obtain ⟨A, c, rfl, _⟩ := id h3
    exact ⟨⟨x.tgt, x.at_, A, x.b.length, c⟩ :: els, by rw [h1, h2]; rfl, rfl, rfl, h3, he⟩
theorem rowE_is {base : Nat} {Lz : Nat → Prop} {w : World} : ∀ {row : List Wr} {els : List El}, RowE base Lz w row els → RowIs base Lz w row (cellsE els)
  | [], [], _ => trivial
  | x :: r, e :: l, ⟨h1, h2, h3, h4⟩ => ⟨by rw [← h1], by rw [← h2], h3, rowE_is h4⟩
theorem rowE_len {base : Nat} {Lz : Nat → Prop} {w : World} : ∀ {row : List Wr} {els : List El}, RowE base Lz w row els → els.length = row.length
  | [], [], _ => rfl
  | x :: r, e :: l, ⟨_, _, _, h4⟩ => by simp [rowE_len h4]
theorem rowE_filter {base : Nat} {Lz : Nat → Prop} {w : World} (g : Nat) : ∀ {row : List Wr} {els : List El}, RowE base Lz w row els → RowE base Lz w (row.filter fun x => !(x.tgt == g)) (els.filter fun e => !(e.t == g))
  | [], [], _ => trivial
  | x :: r, e :: l, ⟨h1, h2, h3, h4⟩ => by
    have ih := rowE_filter g h4
    by_cases h : x.tgt = g
    · simp [h, h1, ih]
    · simp [h, h1]
      exact ⟨h1, h2, h3, ih⟩
theorem rowE_mem {base : Nat} {Lz : Nat → Prop} {w : World} : ∀ {row : List Wr} {els : List El}, RowE base Lz w row els → ∀ e ∈ els, ∃ x ∈ row, e.t = x.tgt
  | [], [], _, e', he' => by cases he'
  | x :: r, e :: l, ⟨h1, h2, h3, h4⟩, e', he' => by
    rcases List.mem_cons.1 he' with rfl | he'
    · exact ⟨x, List.mem_cons_self .., h1⟩
    · obtain ⟨y, hy, hh⟩ := rowE_mem h4 e' he'
      exact ⟨y, List.mem_cons_of_mem _ hy, hh⟩
theorem info80 : (Try.prog.info? 80).map (fun i => (i.zero, i.size, i.bytes)) = some (some (.agg #[.pointer none, .int .i64 0, .slice none 0 0]), 3, 40) := by kernel_rfl
theorem zero80 : ∀ w, (zeroValue 80).run Try.prog w = .ok (.agg #[.pointer none, .int .i64 0, .slice none 0 0]) w := fun _ => by kernel_rfl
theorem z80one : ∀ v ∈ (Value.agg #[.pointer none, .int .i64 0, .slice none 0 0]).cells.toList, v.oneCell' = true := by
  intro v hv
  simp [Value.cells] at hv
  rcases hv with rfl | rfl | rfl <;> rfl
def IsC (w : World) (g : Nat) : Prop := ∃ cs t, w.heap[g]? = some (.cells cs t (0, 0))
theorem IsC.to {w w' : World} {g : Nat} (h : IsC w g) (he : w'.heap[g]? = w.heap[g]?) : IsC w' g := by
  obtain ⟨cs, t, h⟩ := h
  exact ⟨cs, t, he.trans h⟩
theorem IsC.lt {w : World} {g : Nat} (h : IsC w g) : g < w.heap.size := by
  obtain ⟨cs, t, h⟩ := h
  exact (Array.getElem?_eq_some_iff.1 h).1
theorem eql_ptr {w : World} {a b : Nat} (ha : IsC w a) (hb : IsC w b) : (binOp .eql 71 (ptr a) (ptr b)).run Try.prog w = .ok (.bool (a == b)) w := by
  obtain ⟨j, hj, hjs⟩ := info77
  by_cases h : a = b
  · subst h
    rw [run_eql_ptr_same w _ Try.underlying71 hj]
    simp
  · obtain ⟨ca, ta, ha⟩ := ha
    obtain ⟨cb, tb, hb⟩ := hb
    rw [run_eql_ptr_other w Try.underlying71 hj hjs (fun e => h (congrArg Addr.block e)) ha hb]
    simp [h]
theorem del_calls {w : World} {X g : Nat} (e : El) (hX : w.cell? ⟨X, 0, none⟩ = some (ptr g)) (he : IsC w e.t) (hg : IsC w g) :
    Calls Try.prog 62 #[.agg #[ptr e.t, .int .i64 e.a, e.v], ptr X] w fun r w' => r = .returned (.bool (e.t == g)) ∧ Below w.heap.size w w' := by
  have hXl := World.block_lt_of_cell? w _ hX
  have heq : ∀ o, (binOp .eql 71 (ptr e.t) (ptr g)).run Try.prog (w.alloc o) = .ok (.bool (e.t == g)) (w.alloc o) := fun o => eql_ptr (he.to (Below.heap_alloc w o _ he.lt)) (hg.to (Below.heap_alloc w o _ hg.lt))
  go_enter Try.func62, Try.ntmps62
  go_wp2
  go_ret
  exact ⟨rfl, below_alloc (Below.refl _ _) _⟩
theorem cellsE_one : ∀ (l : List El), ∀ u ∈ cellsE l, u.oneCell' = true
  | [], u, h => by cases h
  | e :: l, u, h => by
    simp only [cellsE, List.mem_cons] at h
    rcases h with rfl | rfl | rfl | h
    · rfl
    · rfl
    · rfl
    · exact cellsE_one l u h
set_option maxRecDepth 100000 in
theorem cloneW_calls {w : World} {B : Nat} {v : Value} {els : List El} (h : w.ownsRow B 80 3 v els.length (cellsE els)) (hl : els.length ≤ 1000000) :
    Calls Try.prog 61 #[v] w fun e w' => ∃ v', e = .returned v' ∧ w'.ownsRow w.heap.size 80 3 v' els.length (cellsE els) ∧ Below w.heap.size w w' := by
  have HO := Zz.mk h
  rcases h.2 with ⟨rfl, hz⟩ | ⟨R, cap, cur, rfl, hB, hh, hnc, hcap, hs, hx⟩
  · have hnil : ∀ W, (binOp .eql 65 (.slice none 0 0) (.slice none 0 0)).run Try.prog W = .ok (.bool true) W := fun W => Lib.run_eql_slice_nil W 65 80 none 0 0 0 0 Try.underlying65
    have hr : Zz (els = []) := ⟨List.eq_nil_of_length_eq_zero hz⟩
    clear hz h
    go_enter Try.func61, Try.ntmps61
    go_wp2
    go_ret
    exact ⟨_, rfl, by rw [hr.out]; exact own_nil _ _ _ _, Below.refl _ _⟩
  · have hnil : ∀ W, (binOp .eql 65 (.slice (some ⟨R, 0, none⟩) els.length cap) (.slice none 0 0)).run Try.prog W = .ok (.bool false) W := fun W => Lib.run_eql_slice_nil W 65 80 (some ⟨R, 0, none⟩) els.length cap 0 0 Try.underlying65
    obtain ⟨i0, hi0, hz0, hz1, hz2⟩ := info_parts info80
    have HI := Zz.mk hi0
    have HZ := Zz.mk hz0
    have HZ1 := Zz.mk hz1
    have HZ2 := Zz.mk hz2
    have HL := Zz.mk hl
    clear hi0 hz0 hz1 hz2 hx hh hl h
    go_enter Try.func61, Try.ntmps61
    go_wp2_with (at_builtin; refine wpList_append_own _ rfl (.tmp 5) (.tmp 6) 65 rfl w.heap.size 80 i0 _ 3 40 Try.underlying65 HI.out HZ.out HZ1.out HZ2.out rfl (by omega) (.slice (some ⟨w.heap.size, 0, none⟩) 0 0) 0 [] rfl (World.ownsRow_lit w #[] 0 (Nat.le_refl _) (by unfold maxLen; omega) (by simp)) ⟨R, 0, none⟩ els.length cap (cellsE els) rfl (cellsE_length els) (fun j u hu => (HO.out.alloc _).cells rfl j u hu) (cellsE_one els) (by have := HL.out; unfold maxLen; omega) (by have := HL.out; omega) (by simp) ?_; intro v1 w1 ho hg _)
    go_ret
    refine ⟨_, rfl, by simpa using ho, (below_alloc (Below.refl _ _) _).grown hg (by simp) (fun k hk => ?_)⟩
    have : w.heap.size = k := by simpa [Value.ownBlock] using hk
    omega
set_option maxRecDepth 100000 in
theorem indexW_calls {w : World} {B X g : Nat} {v : Value} {els : List El} (h : w.ownsRow B 80 3 v els.length (cellsE els)) (hl : els.length ≤ 1000000) (hX : w.cell? ⟨X, 0, none⟩ = some (ptr g)) (hE : ∀ e ∈ els, IsC w e.t) (hg : IsC w g) :
    Calls Try.prog 66 #[v, .func (.func 62) #[] #[ptr X]] w fun e w' => Below w.heap.size w w' ∧ ((e = .returned (.int .i64 (-1)) ∧ ∀ x ∈ els, x.t ≠ g) ∨ ∃ i : Nat, ∃ hi : i < els.length, e = .returned (.int .i64 i) ∧ els[i].t = g ∧ ∀ x ∈ els.take i, x.t ≠ g) := by
  have HO := Zz.mk h
  obtain ⟨A, c, rfl, hc⟩ := own_slice h
  have HE := Zz.mk hE
  have hXl := World.block_lt_of_cell? w _ hX
  clear h hE
  go_enter Try.func66, Try.ntmps66
  go_wp2
  go_loopg [8] els.length (fun kq v8 w' => ∃ i : Nat, i + kq = els.length ∧ v8 = .int .i64 i ∧ Zz (∀ x ∈ els.take i, x.t ≠ g) ∧ Zz (Below w.heap.size w w'))
  case atStart => exact ⟨0, by omega, rfl, ⟨by simp⟩, ⟨Below.refl _ _⟩⟩
  case round =>
    obtain ⟨i, hi, rfl, HN, HB⟩ := hrel
    have HI := Zz.mk hi
    cases gk with
    | zero =>
      have e1 : decide (i < els.length) = false := decide_eq_false (by omega)
      have htk : Zz (els.take i = els) := ⟨List.take_of_length_le (by omega)⟩
      clear hi
      go_wp2
      go_ret
      refine ⟨HB.out, .inl ⟨rfl, ?_⟩⟩
      have := HN.out
      rwa [htk.out] at this
    | succ d =>
      have hlt : i < els.length := by omega
      have e1 : decide (i < els.length) = true := decide_eq_true hlt
      obtain ⟨R, hA, k0, k1, k2⟩ : ∃ R, A = some ⟨R, 0, none⟩ ∧ wr.cell? ⟨R, i * 3, none⟩ = some (ptr els[i].t) ∧ wr.cell? ⟨R, i * 3 + 1, none⟩ = some (.int .i64 els[i].a) ∧ wr.cell? ⟨R, i * 3 + 2, none⟩ = some els[i].v := by
        rcases HO.out.2 with ⟨_, hz⟩ | ⟨R, cap, cur, hv, _, hh, _⟩
        · omega
        · injection hv with hA _ _
          subst hA
          have hR : R < w.heap.size := (Array.getElem?_eq_some_iff.1 hh).1
          have hk : ∀ j u, (cellsE els)[j]? = some u → wr.cell? ⟨R, j, none⟩ = some u := fun j u hu => by
            rw [HB.out.cell (p := ⟨R, j, none⟩) hR]
            have := HO.out.cells (g := R) rfl j u hu
            rwa [add_plain] at this
          obtain ⟨g0, g1, g2⟩ := cellsE_get els i hlt
          exact ⟨R, rfl, hk _ _ g0, hk _ _ g1, hk _ _ g2⟩
      subst hA
      have hXr : wr.cell? ⟨X, 0, none⟩ = some (ptr g) := (HB.out.cell (p := ⟨X, 0, none⟩) hXl).trans hX
      have hEr : IsC wr els[i].t := (HE.out _ (List.getElem_mem hlt)).to (HB.out.block _ (HE.out _ (List.getElem_mem hlt)).lt)
      have hgr : IsC wr g := hg.to (HB.out.block _ hg.lt)
      have htk : Zz (els.take (i + 1) = els.take i ++ [els[i]]) := ⟨List.take_succ_eq_append_getElem hlt⟩
      have XC := Zz.mk (del_calls els[i] hXr hEr hgr)
      clear hi hXr hEr hgr
      cases ht : (els[i].t == g) with
      | true =>
        rw [ht] at XC
        have HT := Zz.mk ht
        clear ht
        go_wp2_with (go_at_call 62; (with_reducible refine (XC.out).mono ?_); rintro e w2 ⟨rfl, hb⟩; have HB2 := Zz.mk (HB.out.trans (hb.mono HB.out.size)); clear hb)
        go_ret
        exact ⟨HB2.out, .inr ⟨i, hlt, rfl, by simpa using HT.out, HN.out⟩⟩
      | false =>
        rw [ht] at XC
        have HT := Zz.mk ht
        clear ht
        go_wp2_with (go_at_call 62; (with_reducible refine (XC.out).mono ?_); rintro e w2 ⟨rfl, hb⟩; have HB2 := Zz.mk (HB.out.trans (hb.mono HB.out.size)); clear hb)
        go_roundg d
        case measure => omega
        case rel => exact ⟨i + 1, by have := HI.out; omega, by go_num, ⟨fun x hx => by
          rw [htk.out] at hx
          rcases List.mem_append.1 hx with hx | hx
          · exact HN.out x hx
          · rw [List.mem_singleton.1 hx]
            simpa using HT.out⟩, HB2⟩
abbrev keepE (g : Nat) (e : El) : Bool := !(e.t == g)
theorem own_at {w : World} {B R n cap : Nat} {xs : List Value} (h : w.ownsRow B 80 3 (.slice (some ⟨R, 0, none⟩) n cap) n xs) {j : Nat} {u : Value} (hu : xs[j]? = some u) : w.cell? ⟨R, j, none⟩ = some u := by
  have := h.cells (g := R) rfl j u hu
  rwa [add_plain] at this
theorem own_frozen {w : World} {B R n cap : Nat} {xs : List Value} (h : w.ownsRow B 80 3 (.slice (some ⟨R, 0, none⟩) n cap) n xs) (j : Nat) : w.frozen? ⟨R, j, none⟩ = false := h.frozenAt j
theorem filter_none {g : Nat} {els : List El} (h : ∀ x ∈ els, x.t ≠ g) : els.filter (keepE g) = els := by
  rw [List.filter_eq_self]
  intro x hx
  simp [keepE, h x hx]
set_option maxRecDepth 100000 in
set_option maxHeartbeats 2000000 in
theorem deleteW_calls {w : World} {B X g : Nat} {v : Value} {els : List El} (h : w.ownsRow B 80 3 v els.length (cellsE els)) (hl : els.length ≤ 1000000) (hX : w.cell? ⟨X, 0, none⟩ = some (ptr g)) (hXR : v.ownBlock ≠ some X) (hE : ∀ e ∈ els, IsC w e.t ∧ v.ownBlock ≠ some e.t) (hg : IsC w g) (hgR : v.ownBlock ≠ some g) :
    Calls Try.prog 60 #[v, .func (.func 62) #[] #[ptr X]] w fun e w' => ∃ v', e = .returned v' ∧ w'.ownsRow B 80 3 v' (els.filter (keepE g)).length (cellsE (els.filter (keepE g))) ∧ Only (fun k => v.ownBlock = some k) w w' ∧ v'.ownBlock = v.ownBlock := by
  have XI := Zz.mk (indexW_calls h hl hX (fun e he => (hE e he).1) hg)
  have HO := Zz.mk h
  have hXl := World.block_lt_of_cell? w _ hX
  by_cases hall : ∀ x ∈ els, x.t ≠ g
  · have HF := Zz.mk (filter_none hall)
    have XI' : Zz (Calls Try.prog 66 #[v, .func (.func 62) #[] #[ptr X]] w fun e w' => e = .returned (.int .i64 (-1)) ∧ Below w.heap.size w w') := ⟨XI.out.mono fun e w' ⟨hb, hh⟩ => by
      rcases hh with ⟨he, _⟩ | ⟨i, hi, _, ht, _⟩
      · exact ⟨he, hb⟩
      · exact absurd ht (hall _ (List.getElem_mem hi))⟩
    obtain ⟨A, c, rfl, hc⟩ := own_slice h
    clear h hE hall XI
    go_enter Try.func60, Try.ntmps60
    go_wp2_with (go_at_call 66; (with_reducible refine (XI'.out).mono ?_); rintro e w2 ⟨rfl, hb⟩)
    go_ret
    refine ⟨_, rfl, ?_, Only.of_below hb, rfl⟩
    rw [HF.out]
    exact own_move HO.out (fun k hk => hb.block k (own_lt HO.out k hk))
  · have XI' : Zz (Calls Try.prog 66 #[v, .func (.func 62) #[] #[ptr X]] w fun e w' => ∃ i : Nat, e = .returned (.int .i64 i) ∧ Below w.heap.size w w' ∧ ∃ hi : i < els.length, els[i].t = g ∧ ∀ x ∈ els.take i, x.t ≠ g) := ⟨XI.out.mono fun e w' ⟨hb, hh⟩ => by
      rcases hh with ⟨_, hh⟩ | ⟨i, hi, he, ht, hn⟩
      · exact absurd hh hall
      · exact ⟨i, he, hb, hi, ht, hn⟩⟩
    rcases h.2 with ⟨_, hz⟩ | ⟨R, cap, cur, rfl, hB, hh, hnc, hcap, hs, hx⟩
    · exact absurd (fun x hx => by rw [List.eq_nil_of_length_eq_zero hz] at hx; cases hx) hall
    have HE := Zz.mk hE
    have hRl : R < w.heap.size := (Array.getElem?_eq_some_iff.1 hh).1
    have hXR' : ¬ X = R := fun e => hXR (by rw [e]; rfl)
    have hgR' : ¬ g = R := fun e => hgR (by rw [e]; rfl)
    clear h hE hall XI hh hs hx hXR hgR
    go_enter Try.func60, Try.ntmps60
    go_wp2_with (go_at_call 66; (with_reducible refine (XI'.out).mono ?_); rintro e w2 ⟨i0, rfl, hb, hi0, hit, hin⟩; have HB := Zz.mk hb; have HT0 := Zz.mk hit; have HN0 := Zz.mk hin; clear hb hit hin)
    go_loopg [5, 6] (els.length - (i0 + 1)) (fun kq v5 v6 w' => ∃ (i j : Nat) (L : List El), j + kq = els.length ∧ v5 = .int .i64 i ∧ v6 = .int .i64 j ∧ i < j ∧ j ≤ els.length ∧ Zz (L.length = els.length ∧ L.take i = (els.take j).filter (keepE g) ∧ L.drop j = els.drop j) ∧ Zz (w'.ownsRow B 80 3 (.slice (some ⟨R, 0, none⟩) els.length cap) els.length (cellsE L)) ∧ Zz (Only (· = R) w w'))
    case atStart =>
      refine ⟨i0, i0 + 1, els, by omega, rfl, by go_num, by omega, by omega, ⟨rfl, ?_, rfl⟩, ⟨own_move HO.out (fun k hk => HB.out.block k (own_lt HO.out k hk))⟩, ⟨Only.of_below HB.out⟩⟩
      rw [List.take_succ_eq_append_getElem hi0, List.filter_append, filter_none HN0.out]
      simp [keepE, HT0.out]
    case round =>
      obtain ⟨i, j, L, hj, rfl, rfl, hij, hjn, HL, HO, HB⟩ := hrel
      have HI := Zz.mk hj
      cases gk with
      | zero =>
        have e1 : decide (j < els.length) = false := decide_eq_false (by omega)
        have hne : ¬ cap = i := by omega
        clear hj
        go_wp2_with (with_reducible refine wpList_clear HO.out i (by omega) rfl (.tmp 38) rfl Try.underlying65 zero80 rfl z80one (by decide) (cap - i) rfl ?_; intro w3 ho hb3)
        go_ret
        have htk : els.filter (keepE g) = L.take i := by rw [HL.out.2.1, List.take_of_length_le (by have := HI.out; omega)]
        have hti : (L.take i).length = i := by rw [List.length_take, HL.out.1]; omega
        refine ⟨_, rfl, ?_, ?_, rfl⟩
        · rw [htk, hti, cellsE_take]
          exact ho
        · refine (HB.out.trans hb3 (fun _ _ h => h)).mono (fun k _ hk => ?_)
          subst hk
          rfl
      | succ d =>
        have hlt : j < els.length := by omega
        have e1 : decide (j < els.length) = true := decide_eq_true hlt
        have hLj : j < L.length := by rw [HL.out.1]; exact hlt
        have hLi : i < L.length := by rw [HL.out.1]; omega
        have HLj : Zz (L[j]'hLj = els[j]) := ⟨by
          have h1 : (L.drop j)[0]? = (els.drop j)[0]? := by rw [HL.out.2.2]
          rw [List.getElem?_drop, List.getElem?_drop, Nat.add_zero, List.getElem?_eq_getElem hLj, List.getElem?_eq_getElem hlt] at h1
          exact Option.some.inj h1⟩
        obtain ⟨g0, g1, g2⟩ := cellsE_get L j hLj
        have k0 := own_at HO.out g0
        have k1 := own_at HO.out g1
        have k2 := own_at HO.out g2
        rw [HLj.out] at k0 k1 k2
        have hEj := HE.out _ (List.getElem_mem hlt)
        have hEr : IsC wr els[j].t := hEj.1.to (HB.out.block _ hEj.1.lt (fun e => hEj.2 (by rw [e]; rfl)))
        have hgr : IsC wr g := hg.to (HB.out.block _ hg.lt hgR')
        have hXr : wr.cell? ⟨X, 0, none⟩ = some (ptr g) := (World.cell?_of_block (HB.out.block X hXl hXR')).trans hX
        have HXC := Zz.mk (fun o => del_calls (w := wr.alloc o) els[j] ((Below.cell (Below.alloc (Below.refl wr.heap.size wr) (Nat.le_refl _) o) (World.block_lt_of_cell? wr _ hXr)).trans hXr) (hEr.to (Below.heap_alloc wr o _ hEr.lt)) (hgr.to (Below.heap_alloc wr o _ hgr.lt)))
        have htk : Zz (els.take (j + 1) = els.take j ++ [els[j]]) := ⟨List.take_succ_eq_append_getElem hlt⟩
        clear hj hEr hgr hXr hEj g0 g1 g2
        cases ht : (els[j].t == g) with
        | true =>
          rw [ht] at HXC
          have HT := Zz.mk ht
          clear ht
          go_wp2_with (go_at_call 62; (with_reducible refine (HXC.out _).mono ?_); rintro e w3 ⟨rfl, hb⟩; have HB3 := Zz.mk ((HB.out.alloc _).below hb); have HO3 := Zz.mk (own_move (HO.out.alloc _) (fun k hk => hb.block k (own_lt (HO.out.alloc _) k hk))); clear hb)
          go_roundg d
          case measure => omega
          case rel =>
            refine ⟨i, j + 1, L, by have := HI.out; omega, rfl, by go_num, by omega, by omega, ⟨HL.out.1, ?_, ?_⟩, HO3, HB3⟩
            · rw [htk.out, List.filter_append, HL.out.2.1]
              simp [keepE, HT.out]
            · have := congrArg (List.drop 1) HL.out.2.2
              rwa [List.drop_drop, List.drop_drop] at this
        | false =>
          rw [ht] at HXC
          have HT := Zz.mk ht
          clear ht
          obtain ⟨q0, q1, q2⟩ := cellsE_get L i hLi
          have Q0 := Zz.mk q0
          have Q1 := Zz.mk q1
          have Q2 := Zz.mk q2
          clear q0 q1 q2
          go_wp2_with (go_at_call 62; (with_reducible refine (HXC.out _).mono ?_); rintro e w3 ⟨rfl, hb⟩; have HB3 := Zz.mk ((HB.out.alloc _).below hb); have HO3 := Zz.mk (own_move (HO.out.alloc _) (fun k hk => hb.block k (own_lt (HO.out.alloc _) k hk))); have hbox : Blk w3 wr.heap.size 80 #[ptr els[j].t, .int .i64 els[j].a, els[j].v] := (hb.block _ (by simp)).trans (heap_alloc_new wr _); have b0 := hbox.cell 0 rfl; have b1 := hbox.cell 1 rfl; have b2 := hbox.cell 2 rfl; have s0 := own_at HO3.out Q0.out; have s1 := own_at HO3.out Q1.out; have s2 := own_at HO3.out Q2.out; have f0 := own_frozen HO3.out (i * 3); have f1 := own_frozen HO3.out (i * 3 + 1); have f2 := own_frozen HO3.out (i * 3 + 2); clear hb hbox)
          have HO4 := Zz.mk (((HO3.out.stored (i * 3) (ptr els[j].t)).1.stored (i * 3 + 1) (.int .i64 els[j].a)).1.stored (i * 3 + 2) els[j].v).1
          rw [← cellsE_set L i els[j] hLi] at HO4
          have HB4 := Zz.mk (((HB3.out.set1 (i * 3) (ptr els[j].t)).set1 (i * 3 + 1) (.int .i64 els[j].a)).set1 (i * 3 + 2) els[j].v)
          go_roundg d
          case measure => omega
          case rel =>
            refine ⟨i + 1, j + 1, L.set i els[j], by have := HI.out; omega, by go_num, by go_num, by omega, by omega, ⟨by rw [List.length_set]; exact HL.out.1, ?_, ?_⟩, HO4, HB4⟩
            · rw [htk.out, List.filter_append, ← HL.out.2.1, List.take_succ_eq_append_getElem (by rw [List.length_set]; exact hLi)]
              rw [List.take_set_of_le (Nat.le_refl i)]
              simp [keepE, HT.out]
            · rw [List.drop_set_of_lt (by omega)]
              have := congrArg (List.drop 1) HL.out.2.2
              rwa [List.drop_drop, List.drop_drop] at this
theorem own_lower {w : World} {B B' e size n : Nat} {v : Value} {xs : List Value} (h : w.ownsRow B e size v n xs) (hB : B' ≤ B) : w.ownsRow B' e size v n xs := by
  refine ⟨h.1, ?_⟩
  rcases h.2 with h | ⟨g, cap, cur, hv, hb, hr⟩
  · exact .inl h
  · exact .inr ⟨g, cap, cur, hv, by omega, hr⟩
section
variable {base : Nat} {Lz : Nat → Prop} {w w' : World} {F : Nat} {fp : Nat → Prop} {st : FS} {M : Nat} {rv : Value} {cells : List Value}
theorem FRepX.setRow (h : FRepX base Lz w F fp st M rv cells) (ho : Only (· = F) w w') {rv' : Value} {row' : List Wr} {cells' : List Value}
    (hb : Blk w' F 67 #[.map (some M), rv', .int .i64 st.ops, .int .i64 st.fuse, .int .i64 st.fault, .bool st.down]) (hr : w'.ownsRow w.heap.size 80 3 rv' row'.length cells') (hi : RowIs base Lz w' row' cells') (hlive : ∀ x ∈ row', x.tgt ∈ st.live) :
    FRepX base Lz w' F (fun k => fp k ∨ rv'.ownBlock = some k) { st with row := row' } M rv' cells' := by
  have hG : Mut base w (· = F) := fun g hg => hg ▸ h.fpb F h.fpF
  have hRB : ∀ v xs, RB base Lz w v xs → RB base Lz w' v xs := fun v xs hv => hv.only ho hG
  have hk : ∀ g, g < w.heap.size → g ≠ F → w'.heap[g]? = w.heap[g]? := fun g hg hne => ho.block g hg hne
  refine ⟨hb, h.map.to (hk _ h.map.lt (h.map.ne_blk h.blk)), own_lower hr h.hbase, hi, fun g hg => ?_, h.filesLive, hlive, .inl h.fpF, .inl h.fpM, fun k hk => .inr hk, fun g hg => .inl (h.fpI g hg), fun g hg => ?_, fun g hg => ?_, Nat.le_trans h.hbase ho.size, fun g hg => Nat.lt_of_lt_of_le (h.lz g hg) ho.size⟩
  · obtain ⟨v, h1, h2⟩ := h.ino g hg
    exact ⟨v, h1.to (hk _ h1.lt (h1.ne_ h.blk (by decide))), hRB _ _ h2⟩
  · rcases hg with hg | hg
    · obtain ⟨h1, h2⟩ := h.fpb g hg
      refine ⟨h1, fun h5 => ?_⟩
      by_cases hgF : g = F
      · subst hgF
        obtain ⟨c5, fr, h5⟩ := h5
        rw [hb] at h5
        injection h5 with h5
        injection h5 with _ h5
        exact absurd h5 (by decide)
      · unfold T5 at h5
        rw [hk g (h.fpl g hg) hgF] at h5
        exact h2 h5
    · refine ⟨Nat.le_trans h.hbase (own_base hr g hg), fun h5 => ?_⟩
      obtain ⟨c5, fr, h5⟩ := h5
      obtain ⟨cs, hh⟩ := own_typed hr g hg
      rw [hh] at h5
      injection h5 with h5
      injection h5 with _ h5
      exact absurd h5 (by decide)
  · rcases hg with hg | hg
    · exact Nat.lt_of_lt_of_le (h.fpl g hg) ho.size
    · exact own_lt hr g hg
end
def forgetS (st : FS) (g : Nat) : FS := { st with row := st.row.filter fun x => !(x.tgt == g) }
set_option maxRecDepth 100000 in
theorem forget_calls {base : Nat} {Lz : Nat → Prop} {w : World} {F : Nat} {fp : Nat → Prop} {st : FS} (h : FRep base Lz w F fp st) (hrows : st.row.length ≤ 1000000) {g : Nat} (hg : g ∈ st.live) :
    Calls Try.prog 49 #[ptr F, ptr g] w fun e w' => e = .returned (.tuple #[]) ∧ (∃ fp', FRep base Lz w' F fp' (forgetS st g) ∧ ∀ k, fp' k → fp k ∨ w.heap.size ≤ k) ∧ Only (· = F) w w' := by
  obtain ⟨M, rv, cells, h⟩ := h
  obtain ⟨els, rfl, hels⟩ := rowE_of h.rowIs
  have hlen := rowE_len hels
  obtain ⟨A, c, hrv, hc⟩ := own_slice h.row
  subst hrv
  have c1 := h.blk.cell 1 rfl
  have hF := h.blk.lt
  have hic : ∀ g ∈ st.live, IsC w g := fun g hg => by
    obtain ⟨v, h1, _⟩ := h.ino g hg
    exact ⟨_, _, h1⟩
  have hrow : w.ownsRow base 80 3 (.slice A st.row.length c) els.length (cellsE els) := by rw [hlen]; exact h.row
  have H := Zz.mk h
  have HLEN := Zz.mk hlen
  have HE := Zz.mk hels
  have HC := Zz.mk hic
  have XC := Zz.mk (cloneW_calls (hrow.alloc (.cells #[ptr g] 71)) (by omega))
  clear h hels hlen hrow hic
  go_enter Try.func49, Try.ntmps49
  go_wp2_with fail
  go_at_call 61
  with_reducible refine (XC.out).mono ?_
  rintro e w2 ⟨v2, rfl, ho, hb⟩
  have hbase : ∀ k, v2.ownBlock = some k → w.heap.size < k := fun k hk => by
    have := own_base ho k hk
    simp at this
    omega
  have HB2 : Zz (Below w.heap.size w w2) := ⟨((Below.refl _ _).alloc (Nat.le_refl _) _).trans (hb.mono (by simp))⟩
  have hX2 : w2.cell? ⟨w.heap.size, 0, none⟩ = some (ptr g) := by
    have h1 : Blk w2 w.heap.size 71 #[ptr g] := (hb.block _ (by simp)).trans (heap_alloc_new w _)
    exact h1.cell 0 rfl
  have hC2 : ∀ g ∈ st.live, IsC w2 g := fun g hg => (HC.out g hg).to (HB2.out.block _ (HC.out g hg).lt)
  have hlv : ∀ e ∈ els, e.t ∈ st.live := fun e he => by
    obtain ⟨x, hx, hh⟩ := rowE_mem HE.out e he
    rw [hh]
    exact H.out.rowLive x hx
  have XD := Zz.mk (deleteW_calls ho (by have := HLEN.out; omega) hX2 (fun hh => by have := hbase _ hh; omega) (fun e he => ⟨hC2 _ (hlv e he), fun hh => by have := hbase _ hh; have := (HC.out _ (hlv e he)).lt; omega⟩) (hC2 g hg) (fun hh => by have := hbase _ hh; have := (HC.out g hg).lt; omega))
  have HBS := Zz.mk hbase
  have HLV := Zz.mk hlv
  have HOO := Zz.mk ho
  clear ho hb hbase hX2 hC2 hlv
  go_wp2_with fail
  go_at_call 60
  with_reducible refine (XD.out).mono ?_
  rintro e w3 ⟨v3, rfl, ho3, ho, hv3⟩
  obtain ⟨A3, cp3, hv, _⟩ := own_slice ho3
  subst hv
  have hB3 : Blk w3 F 67 #[.map (some M), .slice A st.row.length c, .int .i64 st.ops, .int .i64 st.fuse, .int .i64 st.fault, .bool st.down] :=
    (H.out.blk.to (HB2.out.block _ hF)).to (ho.block _ (Nat.lt_of_lt_of_le hF HB2.out.size) (fun hh => by have := HBS.out _ hh; omega))
  have d1 := hB3.cell 1 rfl
  have f1 := hB3.frozen 1
  have HOnly : Zz (Only (· = F) w w3) := ⟨(Only.of_below HB2.out).trans ho (fun k hk hh => by have := HBS.out _ hh; omega)⟩
  have HB3 := Zz.mk hB3
  have HV3 := Zz.mk hv3
  have HO3 := Zz.mk ho3
  clear ho ho3 hB3 hv3
  go_wp2
  go_end0
  have hr3 := own_lower HO3.out (B' := w.heap.size) (by simp)
  have hflen : (els.filter (keepE g)).length = (st.row.filter fun x => !(x.tgt == g)).length := rowE_len (rowE_filter g HE.out)
  rw [hflen] at hr3 ⊢
  have hset : Only (· = F) w (w3.setCell ⟨F, 1, none⟩ (.slice A3 (st.row.filter fun x => !(x.tgt == g)).length cp3)) := HOnly.out.set1 1 _
  refine ⟨rfl, ⟨_, ⟨M, .slice A3 _ cp3, cellsE (els.filter (keepE g)), H.out.setRow hset (HB3.out.set_ 1 _) ?_ ((rowE_is (rowE_filter g HE.out)).imp fun v xs hv => hv.only hset (fun k hk => hk ▸ H.out.fpb F H.out.fpF)) ?_⟩, ?_⟩, hset⟩
  · exact own_move hr3 (fun k hk => Below.heap_setCell _ _ _ _ (fun e => by
      have h1 := own_base hr3 k hk
      simp at e
      omega))
  · intro x hx
    exact H.out.rowLive x (List.mem_filter.1 hx).1
  · intro k hk
    rcases hk with hk | hk
    · exact .inl hk
    · exact .inr (own_base hr3 k hk)
end Go.Proofs.Ytcpkoajnepijkaa

