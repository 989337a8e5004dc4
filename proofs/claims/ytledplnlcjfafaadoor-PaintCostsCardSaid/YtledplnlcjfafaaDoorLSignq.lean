/- Parts of the proof of the law that the last file states; declarations that nothing mentions are left out by a program. No conditions. -/
import Derived.Laws.Cover4
import Derived.Laws.RangeString
import Derived.Lib.OthersKept
import Derived.Lib.MapLaws
import Derived.Deep.LoopGhost
import Derived.Deep.DeepCutAuto
import Derived.IntWalk
import Derived.Maps.AppendAt
import Derived.Test.YtledplnlcjfafaaDoorLBoxq
set_option linter.unusedVariables false
set_option linter.unusedSimpArgs false
section
namespace Go.Proofs.YtledplnlcjfafaaDoorL
open Go Go.RowKit Go.Proofs.YtledplnlcjfafaaDoorW.PrintWords
def runesG : Nat → List UInt8 → List Nat
  | 0, _ => []
  | n + 1, l => if l = [] then [] else (Lib.decodeL l).1 :: runesG n (l.drop (Lib.decodeL l).2)
def runesL (l : List UInt8) : List Nat := runesG l.length l
theorem runesG_nil : ∀ n, runesG n [] = []
  | 0 => rfl
  | _ + 1 => by simp [runesG]
theorem runesG_fuel : ∀ (n m : Nat) (l : List UInt8), l.length ≤ n → l.length ≤ m → runesG n l = runesG m l
  | 0, m, l, hn, _ => by
    have : l = [] := List.eq_nil_of_length_eq_zero (by omega)
    subst this
    rw [runesG_nil, runesG_nil]
  | n + 1, 0, l, _, hm => by
    have : l = [] := List.eq_nil_of_length_eq_zero (by omega)
    subst this
    rw [runesG_nil, runesG_nil]
  | n + 1, m + 1, l, hn, hm => by
    by_cases hne : l = []
    · subst hne
      rw [runesG_nil, runesG_nil]
    · have hw := Lib.decodeL_width l
      have hl : 0 < l.length := List.length_pos_iff.2 hne
      simp only [runesG, if_neg hne]
      rw [runesG_fuel n m _ (by rw [List.length_drop]; omega) (by rw [List.length_drop]; omega)]
theorem runesL_nil : runesL [] = [] := rfl
theorem runesL_step {l : List UInt8} (hne : l ≠ []) : runesL l = (Lib.decodeL l).1 :: runesL (l.drop (Lib.decodeL l).2) := by
  have hl : 0 < l.length := List.length_pos_iff.2 hne
  have hw := Lib.decodeL_width l
  obtain ⟨n, hn⟩ : ∃ n, l.length = n + 1 := ⟨l.length - 1, by omega⟩
  unfold runesL
  rw [hn]
  simp only [runesG, if_neg hne]
  rw [runesG_fuel n _ _ (by rw [List.length_drop]; omega) (Nat.le_refl _)]
theorem info21r : (Tryd.prog.info? 21).map (fun i => (i.zero, i.size, i.bytes)) = some (some (.int .i32 0), 1, 4) := by kernel_rfl
def runeCells (l : List Nat) : List Value := l.map fun (r : Nat) => Value.int .i32 (r : Int)
theorem own_iter {w : World} {base e size n : Nat} {v : Value} {xs : List Value} {k : Nat} {s : ByteArray} {pos : Nat} (h : w.ownsRow base e size v n xs) (hk : w.heap[k]? = some (.stringIter s pos)) (pos' : Nat) : (w.iterAt k s pos').ownsRow base e size v n xs := by
  refine h.kept (row := some k) ⟨rfl, rfl, rfl, by rw [Lib.iterAt_size]; exact Nat.le_refl _, fun i hi hne => Lib.iterAt_other w k i s pos' (fun e => hne (by rw [e]))⟩ ?_
  rcases h.2 with ⟨rfl, _⟩ | ⟨g, cap, cur, rfl, _, hg, _⟩
  · exact .inl rfl
  · refine .inr (fun e => ?_)
    cases e
    rw [hk] at hg
    cases hg
theorem heap_old {w : World} {g : Nat} {x : Obj} (h : w.heap[g]? = some x) (o : Obj) : (w.alloc o).heap[g]? = some x := (Below.heap_alloc w o g (Array.getElem?_eq_some_iff.1 h).1).trans h
theorem own_iter_ne {w : World} {base e size n : Nat} {v : Value} {xs : List Value} {k : Nat} {s : ByteArray} {pos : Nat} (h : w.ownsRow base e size v n xs) (hk : w.heap[k]? = some (.stringIter s pos)) : v.ownBlock ≠ some k := by
  rcases h.2 with ⟨rfl, _⟩ | ⟨g, cap, cur, rfl, _, hg, _⟩
  · simp [Value.ownBlock]
  · intro e
    cases e
    rw [hk] at hg
    cases hg
set_option maxRecDepth 100000 in
set_option maxHeartbeats 2000000 in
theorem runes_calls (s : ByteArray) (hs : s.size ≤ 1099511627776) {A : Option Addr} {n c : Nat} (w : World) (hcv : (convert 43 9 (.slice A n c)).run Tryd.prog w = .ok (.string s) w) :
    Calls Tryd.prog 77 #[.slice A n c] w fun e w' => ∃ v, e = .returned v ∧ w'.ownsRow w.heap.size 21 1 v (runesL s.data.toList).length (runeCells (runesL s.data.toList)) ∧ Below w.heap.size w w' := by
  obtain ⟨i0, hi0, hz0, hz1, hz2⟩ := info_parts info21r
  have HS := Hd.mk hs
  have hlen : Hd (s.data.toList.length = s.size) := ⟨(Lib.size_eq s).symm⟩
  obtain ⟨R, hR⟩ : ∃ R, runesL s.data.toList = R := ⟨_, rfl⟩
  rw [hR]
  have HR := Hd.mk hR
  have hu := Tryd.underlying133
  clear hR hs
  go_enter Tryd.func77, Tryd.ntmps77
  go_wp2
  go_loopg [3] s.size (fun gk v3 wx => ∃ (pos : Nat) (pre : List Nat), wx.heap[w.heap.size]? = some (.stringIter s pos) ∧ Hd (Below w.heap.size w wx) ∧ Hd (wx.ownsRow w.heap.size 21 1 v3 pre.length (runeCells pre)) ∧ Hd (pre ++ runesL (s.data.toList.drop pos) = R) ∧ s.size ≤ pos + gk ∧ pos ≤ s.size ∧ pre.length ≤ pos)
  case atStart =>
    refine ⟨0, [], World.iter_heap w s 0, ⟨(Below.refl _ w).alloc (Nat.le_refl _) _⟩, ⟨by exact World.ownsRow_nil _ _ _ _⟩, ⟨by simpa using HR.out⟩, by omega, by omega, Nat.le_refl _⟩
  case round =>
    obtain ⟨pos, pre, hit, HB, HO, HP, hfu, hps, hpl⟩ := hrel
    by_cases hlt : pos < s.size
    · obtain ⟨g', rfl⟩ : ∃ g', gk = g' + 1 := ⟨gk - 1, by omega⟩
      have hnx : ∀ ty, (Instr.next (.pointer (some ⟨w.heap.size, 0, none⟩)) true ty).run Tryd.prog wr = _ := fun ty => Lib.run_next_any_at wr w.heap.size s pos ty hit hlt
      have hne : s.data.toList.drop pos ≠ [] := by
        intro h0
        have := congrArg List.length h0
        rw [List.length_drop, hlen.out] at this
        simp at this
        omega
      have hwd := Lib.width_pos s pos
      have hwn : pos + (Utf8.decode s pos).2 ≤ s.size := by
        have := Lib.decodeL_le _ hne
        rw [Lib.decodeL_drop, List.length_drop, hlen.out] at this
        omega
      have hst := runesL_step hne
      rw [Lib.decodeL_drop, List.drop_drop] at hst
      obtain ⟨r, hr⟩ : ∃ r, (Utf8.decode s pos).1 = r := ⟨_, rfl⟩
      obtain ⟨k, hk⟩ : ∃ k, (Utf8.decode s pos).2 = k := ⟨_, rfl⟩
      rw [hr, hk] at hnx hst
      rw [hk] at hwd hwn
      have HP2 : Hd ((pre ++ [r]) ++ runesL (s.data.toList.drop (pos + k)) = R) := ⟨by rw [← HP.out, hst, List.append_assoc]; rfl⟩
      have hit2 := Lib.iterAt_heap wr w.heap.size s pos (pos + k) hit
      have HB2 : Hd (Below w.heap.size w (wr.iterAt w.heap.size s (pos + k))) := ⟨Lib.below_iterAt HB.out (Nat.le_refl _) s (pos + k)⟩
      have hown2 := own_iter HO.out hit (pos + k)
      generalize wr.iterAt w.heap.size s (pos + k) = wi at hnx hit2 HB2 hown2
      have HO2 := Hd.mk (hown2.alloc (.cells #[.int .i32 (r : Int)] 21))
      have HI2 := Hd.mk hit2
      have HPL := Hd.mk hpl
      have HF := Hd.mk (And.intro hfu (And.intro hwn hwd))
      have hlen1 : Hd ((runeCells pre ++ [Value.int .i32 (r : Int)]) = runeCells (pre ++ [r])) := ⟨by simp [runeCells]⟩
      clear hit HO HP HB hst hr hk hown2 hit2 hne hfu hwn hwd hpl
      go_wp2_with (at_builtin; refine wpList_append_own _ rfl _ _ 133 rfl w.heap.size 21 i0 (.int .i32 0) 1 4 hu hi0 hz0 hz1 hz2 rfl (by decide) _ pre.length (runeCells pre) rfl HO2.out ⟨wi.heap.size, 0, none⟩ 1 1 [.int .i32 (r : Int)] rfl rfl (cell_one_new _ _ _) (by simp [Value.oneCell']) (by have h1 := HPL.out; have h2 := HS.out; unfold maxLen; omega) (by have h1 := HPL.out; have h2 := HS.out; omega) (by have h2 := HB2.out.size; simp; omega) ?_; intro v' w2 hown' hgrow hnil)
      have hg' : (wi.alloc (.cells #[.int .i32 (r : Int)] 21)).grownBy w2 u3.ownBlock := hgrow
      have hne : u3.ownBlock ≠ some w.heap.size := own_iter_ne HO2.out (heap_old HI2.out _)
      have hi3 : w2.heap[w.heap.size]? = some (.stringIter s (pos + k)) := (hg'.block _ (by have := (Array.getElem?_eq_some_iff.1 HI2.out).1; simp; omega) (fun e => hne e.symm)).trans (heap_old HI2.out _)
      have hb3 : Below w.heap.size w w2 := (HB2.out.alloc HB2.out.size _).grown hg' (by have := HB2.out.size; simp; omega) (fun g e => (HO2.out.lt g e).1)
      rw [hlen1.out] at hown'
      have hpl2 : pre.length + 1 = (pre ++ [r]).length := by simp
      rw [hpl2] at hown'
      have HI3 := Hd.mk hi3
      have HB3 := Hd.mk hb3
      have HO3 := Hd.mk hown'
      clear hgrow hnil hg' hne hi3 hb3 hown' hpl2 hnx HO2 HI2 HB2
      go_roundg g'
      case measure => have := HF.out; omega
      case rel => exact ⟨pos + k, pre ++ [r], HI3.out, HB3, HO3, HP2, by have := HF.out; omega, HF.out.2.1, by have h1 := HPL.out; have h2 := HF.out; simp; omega⟩
    · have hnx : ∀ ty, (Instr.next (.pointer (some ⟨w.heap.size, 0, none⟩)) true ty).run Tryd.prog wr = _ := fun ty => Lib.run_next_end_at wr w.heap.size s pos ty hit hlt
      have HE : Hd (pre = R) := ⟨by
        have h1 := HP.out
        rw [List.drop_eq_nil_of_le (by have := hlen.out; omega), runesL_nil, List.append_nil] at h1
        exact h1⟩
      clear hit hfu hps hpl hlt HP
      go_wp2
      go_ret
      exact ⟨_, rfl, by rw [← HE.out]; exact HO.out, HB.out⟩
def cleanL (l : List UInt8) : List UInt8 := Lib.mapD (fun r => r) l
theorem runesBytes_cons (n : Int) (ns : List Int) : runesBytes (n :: ns) = Utf8.encode n ++ runesBytes ns := by
  unfold runesBytes
  have h : ∀ (ns : List Int) (s t : ByteArray), ns.foldl (fun r n => r ++ Utf8.encode n) (s ++ t) = s ++ ns.foldl (fun r n => r ++ Utf8.encode n) t := by
    intro ns
    induction ns with
    | nil => intro s t; rfl
    | cons m ns ih => intro s t; simp only [List.foldl_cons]; rw [ByteArray.append_assoc, ih]
  simp only [List.foldl_cons]
  have := h ns (Utf8.encode n) ByteArray.empty
  rw [ByteArray.append_empty] at this
  rw [ByteArray.empty_append]
  exact this
theorem toByteN (z : Int) (m : Nat) (h : z = (m : Int)) : z.toNat.toUInt8 = UInt8.ofNat m := by
  subst h
  rfl
theorem encode_rune (r : Int) : (Utf8.encode r).data.toList = Lib.encodeRune r := by
  by_cases hv : Utf8.valid r = true
  · have hv' : (0 ≤ r ∧ r < 0xD800) ∨ (0xE000 ≤ r ∧ r ≤ 0x10FFFF) := by simpa [Utf8.valid] using hv
    obtain ⟨n, rfl⟩ := Int.eq_ofNat_of_zero_le (show 0 ≤ r by omega)
    unfold Utf8.encode Lib.encodeRune
    simp only [hv, if_true, Int.toNat_natCast]
    by_cases h1 : n < 128
    · rw [if_pos h1, Lib.encodeRuneZ_one (by omega) (by omega)]
      simp only [List.map_cons, List.map_nil]
      rw [toByteN _ n rfl]
    · rw [if_neg h1]
      by_cases h2 : n < 2048
      · rw [if_pos h2, Lib.encodeRuneZ_two (by omega) (by omega)]
        simp only [List.map_cons, List.map_nil]
        rw [toByteN _ (192 + n / 64) (by omega), toByteN _ (128 + n % 64) (by omega)]
      · rw [if_neg h2]
        by_cases h3 : n < 65536
        · rw [if_pos h3, Lib.encodeRuneZ_three (by omega)]
          simp only [List.map_cons, List.map_nil]
          rw [toByteN _ (224 + n / 4096) (by omega), toByteN _ (128 + n / 64 % 64) (by omega), toByteN _ (128 + n % 64) (by omega)]
        · rw [if_neg h3, Lib.encodeRuneZ_four (by omega) (by omega)]
          simp only [List.map_cons, List.map_nil]
          rw [toByteN _ (240 + n / 262144) (by omega), toByteN _ (128 + n / 4096 % 64) (by omega), toByteN _ (128 + n / 64 % 64) (by omega), toByteN _ (128 + n % 64) (by omega)]
  · have hv' : ¬ ((0 ≤ r ∧ r < 0xD800) ∨ (0xE000 ≤ r ∧ r ≤ 0x10FFFF)) := by simpa [Utf8.valid] using hv
    have hz : Lib.encodeRuneZ r = [239, 191, 189] := by
      unfold Lib.encodeRuneZ
      rw [if_neg (by omega), if_neg (by omega), if_neg (by omega), if_neg (by omega)]
    unfold Utf8.encode Lib.encodeRune
    rw [hz]
    simp only [hv, Bool.false_eq_true, if_false]
    decide
theorem clean_runes : ∀ (n : Nat) (l : List UInt8), l.length ≤ n → (runesBytes ((runesL l).map fun (r : Nat) => (r : Int))).data.toList = cleanL l := by
  intro n
  induction n with
  | zero =>
    intro l h
    have : l = [] := List.eq_nil_of_length_eq_zero (by omega)
    subst this
    rfl
  | succ n ih =>
    intro l h
    by_cases hne : l = []
    · subst hne; rfl
    · have hw := Lib.decodeL_width l
      have hl : 0 < l.length := List.length_pos_iff.2 hne
      rw [runesL_step hne, List.map_cons, runesBytes_cons]
      unfold cleanL
      rw [Lib.mapD_step _ _ hne, if_pos (by omega)]
      have h1 := ih (l.drop (Lib.decodeL l).2) (by rw [List.length_drop]; omega)
      unfold cleanL at h1
      rw [ByteArray.data_append, Array.toList_append, h1, encode_rune]
theorem runeCells_get (l : List Nat) (j : Nat) (hj : j < l.length) : (runeCells l)[j]? = some (.int .i32 ((l.map fun (r : Nat) => (r : Int)).getD j 0)) := by
  unfold runeCells
  simp [List.getElem?_map, hj]
theorem runes_convert {w : World} {v : Value} {l : List Nat} {base : Nat} (h : w.ownsRow base 21 1 v l.length (runeCells l)) :
    (convert 133 9 v).run Tryd.prog w = .ok (.string (runesBytes (l.map fun (r : Nat) => (r : Int)))) w := by
  rcases Nat.eq_zero_or_pos l.length with h0 | h0
  · have : l = [] := List.eq_nil_of_length_eq_zero h0
    subst this
    rcases h.2 with ⟨rfl, _⟩ | ⟨g, cap, cur, rfl, _⟩
    · exact run_convert_runes_nil w _ _ _ _ _ Tryd.underlying133 Tryd.underlying21 Tryd.underlying9
    · exact run_convert_runes w _ _ _ ⟨g, 0, none⟩ 0 cap [] (Nat.zero_le _) Tryd.underlying133 Tryd.underlying21 Tryd.underlying9 (fun j hj => by simp at hj)
  · obtain ⟨g, cap, rfl, _, _⟩ := World.ownsRow.form h h0
    have := run_convert_runes (P := Tryd.prog) w 133 9 21 ⟨g, 0, none⟩ l.length cap (l.map fun (r : Nat) => (r : Int)) (by simp) Tryd.underlying133 Tryd.underlying21 Tryd.underlying9 (fun j hj => by
      rw [List.length_map] at hj
      have h1 := World.ownsRow.cellAt h j (by omega)
      rw [runeCells_get l j hj] at h1
      rcases j with _ | j
      · exact h1
      · simpa [Addr.add] using h1)
    rw [this, List.take_of_length_le (by simp)]
end Go.Proofs.YtledplnlcjfafaaDoorL
end
section
namespace Go.Proofs.YtledplnlcjfafaaDoorL
open Go Go.RowKit Go.Proofs.YtledplnlcjfafaaDoorW.PrintWords
set_option maxRecDepth 100000 in
theorem clean_calls (s : ByteArray) (hs : s.size ≤ 1099511627776) {A : Option Addr} {n c : Nat} (w : World) (hcv : (convert 43 9 (.slice A n c)).run Tryd.prog w = .ok (.string s) w) :
    Calls Tryd.prog 61 #[.slice A n c] w fun e w' => e = .returned (.string ⟨(cleanL s.data.toList).toArray⟩) ∧ Below w.heap.size w w' := by
  have X := Hd.mk (runes_calls s hs w hcv)
  have HE : Hd (runesBytes ((runesL s.data.toList).map fun (r : Nat) => (r : Int)) = ⟨(cleanL s.data.toList).toArray⟩) := ⟨by
    have := clean_runes _ _ (Nat.le_refl s.data.toList.length)
    rw [← this]⟩
  generalize runesBytes ((runesL s.data.toList).map fun (r : Nat) => (r : Int)) = R at HE
  have HR : Hd (∀ w' v, w'.ownsRow w.heap.size 21 1 v (runesL s.data.toList).length (runeCells (runesL s.data.toList)) → (convert 133 9 v).run Tryd.prog w' = .ok (.string ⟨(cleanL s.data.toList).toArray⟩) w') := ⟨fun w' v h => by
    have h1 := runes_convert h
    have := clean_runes _ _ (Nat.le_refl s.data.toList.length)
    rw [h1, ← this]⟩
  clear hcv hs HE
  go_enter Tryd.func61, Tryd.ntmps61
  go_wp2_with fail
  go_at_call 77
  with_reducible refine (X.out).mono ?_
  rintro _ w2 ⟨v, rfl, hown, hb⟩
  have hcv := HR.out _ _ hown
  have HB := Hd.mk hb
  clear hown hb X HR
  go_wp2
  go_ret
  exact ⟨rfl, HB.out⟩
end Go.Proofs.YtledplnlcjfafaaDoorL
end
