/- Parts of the proof of the law that the last file states; declarations that nothing mentions are left out by a program. No conditions. -/
import Derived.Test.YtledplnlcjfafaaDoorLTermW2q
import Derived.Test.YtledplnlcjfafaaDoorShelfq
set_option linter.unusedVariables false
set_option linter.unusedSimpArgs false
namespace Go.Proofs.YtledplnlcjfafaaDoorL
open Go Go.RowKit Go.Proofs.YtledplnlcjfafaaDoorW.PrintWords
theorem rowV_take : ∀ (l : List TC) (m : Nat), rowV (l.take m) = (rowV l).take (m * 3)
  | [], m => by simp [rowV]
  | c :: l, 0 => by simp [rowV]
  | c :: l, m + 1 => by
    rw [List.take_succ_cons, rowV, rowV, rowV_take l m, show (m + 1) * 3 = (cV c).length + m * 3 by rw [show (cV c).length = 3 from rfl]; omega, List.take_length_add_append]
theorem rowV_drop : ∀ (l : List TC) (m : Nat), rowV (l.drop m) = (rowV l).drop (m * 3)
  | [], m => by simp [rowV]
  | c :: l, 0 => by simp
  | c :: l, m + 1 => by
    rw [List.drop_succ_cons, rowV_drop l m, rowV, show (m + 1) * 3 = (cV c).length + m * 3 by rw [show (cV c).length = 3 from rfl]; omega, List.drop_length_add_append]
theorem rowV_one : ∀ (l : List TC), ∀ u ∈ rowV l, u.oneCell' = true
  | [], u, h => by simp [rowV] at h
  | c :: l, u, h => by
    rw [rowV, List.mem_append] at h
    rcases h with h | h
    · unfold cV at h
      simp only [List.mem_cons, List.not_mem_nil, or_false] at h
      rcases h with rfl | rfl | rfl <;> rfl
    · exact rowV_one l u h
theorem RowAt.copied {w : World} {r : RR} {l x : List TC} (h : RowAt w r l) {n : Nat} (hn : n + x.length ≤ l.length) (hf : r.n = r.c) : ∃ w', (storeCells ⟨r.g, n * 3, none⟩ (rowV x)).run Tryd.prog w = .ok () w' ∧ RowAt w' r (l.take n ++ x ++ l.drop (n + x.length)) ∧ Only (· = r.g) w w' ∧ (∀ {B w0}, Below B w0 w → B ≤ r.g → Below B w0 w') := by
  obtain ⟨a, b, d, cur, hh, e, f⟩ := h
  have hcl : cur.toList.length = r.c * 3 := by rw [Array.length_toList, e]
  have hst := run_storeCells_at Tryd.prog r.g (n * 3) 42 (rowV x) 0 cur w hh (by rw [rowV_len]; omega) (rowV_one x)
  have hfull : cur.toList = rowV l := by rw [← f, List.take_of_length_le (by omega)]
  refine ⟨_, hst, ⟨?_, b, d, _, setRow_heap w r.g cur _ 42 (0, 0) hh, ?_, ?_⟩, ⟨rfl, rfl, rfl, by rw [size_setRow]; exact Nat.le_refl _, fun i _ hi => setRow_other w r.g i _ hi⟩, fun {B w0} hb hB => below_setRow hb hB _⟩
  · rw [List.length_append, List.length_append, List.length_take, List.length_drop]
    omega
  · simp only [List.size_toArray, List.length_append, List.length_take, List.length_drop, hcl, rowV_len]
    omega
  · simp only [List.toList_toArray]
    rw [List.take_of_length_le (by simp only [List.length_append, List.length_take, List.length_drop, hcl, rowV_len]; omega), Nat.add_zero, rowV_len, hfull, rowV_append, rowV_append, rowV_take, rowV_drop, show (n + x.length) * 3 = n * 3 + x.length * 3 by omega]
theorem run_copy3 {w : World} (ty : TypeId) {g o dLen dCap : Nat} {ad : Addr} {sLen sCap : Nat} {cs : List Value} (hn : cs.length = Nat.min sLen dLen * 3) (hsrc : ∀ j v, cs[j]? = some v → w.cell? (ad.add j) = some v) {w' : World} (hst : (storeCells ⟨g, o, none⟩ cs).run Tryd.prog w = .ok () w') :
    (Builtin.copy_ #[40, 40] ty #[.slice (some ⟨g, o, none⟩) dLen dCap, .slice (some ad) sLen sCap]).run Tryd.prog w = .ok (goInt (Nat.min sLen dLen)) w' := by
  have hl := run_loadCells_list (P := Tryd.prog) w ad cs hsrc
  cases hq : Tryd.prog.info? 42 with
  | none => have := infoCell; simp [hq] at this
  | some i =>
    have hi : i.size = 3 := by have := infoCell; simpa [hq] using this
    simp [Builtin.copy_, run_underlying Tryd.underlying40, Builtin.lenOf, Builtin.firstCells, sizeOf, typeInfo, hq, hi, ← hn, hl, hst]
theorem copy3_list {ops : Array Oper} {rest : List Oper} {o : Oper} {a : Act} {w : World} {Q : Exit → Act → World → Prop} {d s : Operand} (ho : o.op = .call { callee := .builtin .copy, args := #[d, s], argTypes := #[40, 40] }) (hgd : o.guard = none) {g p dLen dCap : Nat} {ad : Addr} {sLen sCap : Nat}
    (hd : a.eval d = .slice (some ⟨g, p, none⟩) dLen dCap) (hs : a.eval s = .slice (some ad) sLen sCap) {cs : List Value} (hn : cs.length = Nat.min sLen dLen * 3) (hsrc : ∀ j v, cs[j]? = some v → w.cell? (ad.add j) = some v) {w' : World} (hst : (storeCells ⟨g, p, none⟩ cs).run Tryd.prog w = .ok () w')
    (h : wpList Tryd.prog ops Q rest (a.put o.dst (goInt (Nat.min sLen dLen))) w') : wpList Tryd.prog ops Q (o :: rest) a w := by
  refine wpList_plain hgd fun K hK => ?_
  have hrun := run_copy3 (dCap := dCap) (sCap := sCap) o.type hn hsrc hst
  unfold Oper.wp
  simp [execOp, ho, resolve, invoke, builtin, hd, hs, hrun, Result.andThen]
  exact hK _ _ h
theorem copy3_step {ops : Array Oper} {o : Oper} {a : Act} {w : World} {K : Act → World → Prop} {Q : Exit → Act → World → Prop} {E : Prop} {d s : Operand} (ho : o.op = .call { callee := .builtin .copy, args := #[d, s], argTypes := #[40, 40] }) (hgd : o.guard = none) {g p dLen dCap : Nat} {ad : Addr} {sLen sCap : Nat}
    (hd : a.eval d = .slice (some ⟨g, p, none⟩) dLen dCap) (hs : a.eval s = .slice (some ad) sLen sCap) {cs : List Value} (hn : cs.length = Nat.min sLen dLen * 3) (hsrc : ∀ j v, cs[j]? = some v → w.cell? (ad.add j) = some v) {w' : World} (hst : (storeCells ⟨g, p, none⟩ cs).run Tryd.prog w = .ok () w')
    (h : K (a.put o.dst (goInt (Nat.min sLen dLen))) w') : if Region.wanted o (yielded ops a.tmps) = true then Oper.wp Tryd.prog o a w K Q else E := by
  have hw : Region.wanted o (yielded ops a.tmps) = true := by simp [Region.wanted, hgd]
  rw [if_pos hw]
  have hrun := run_copy3 (dCap := dCap) (sCap := sCap) o.type hn hsrc hst
  unfold Oper.wp
  simp [execOp, ho, resolve, invoke, builtin, hd, hs, hrun, Result.andThen]
  exact h
def zeroC : TC := ⟨⟨#[]⟩, 0, false⟩
def fillR (n c : Nat) : List TC := blankR n ++ List.replicate (c - n) zeroC
theorem fillR_len {n c : Nat} (h : n ≤ c) : (fillR n c).length = c := by unfold fillR; rw [List.length_append, blankR_len, List.length_replicate]; omega
theorem fillR_next {n m c : Nat} (h : n + m ≤ c) : (fillR n c).take n ++ blankR m ++ (fillR n c).drop (n + m) = fillR (n + m) c := by
  have e : blankR (n + m) = blankR n ++ blankR m := by unfold blankR; rw [List.replicate_append_replicate]
  have hb := blankR_len n
  unfold fillR
  rw [e, List.take_append_of_le_length (by omega), List.take_of_length_le (by omega), List.drop_append, List.drop_eq_nil_of_le (by omega), List.nil_append, hb, List.drop_replicate, show c - n - (n + m - n) = c - (n + m) by omega]
theorem fillR_take {n m c : Nat} (h : m ≤ n) : (fillR n c).take m = blankR m := by
  unfold fillR
  rw [List.take_append_of_le_length (by rw [blankR_len]; exact h)]
  unfold blankR
  rw [List.take_replicate, Nat.min_eq_left h]
theorem zero_rowV (c : Nat) : (madeCells #[.string ⟨#[]⟩, .int .i64 0, .bool false] (c * 3)).toList = rowV (fillR 0 c) := by
  refine List.ext_getElem? (fun i => ?_)
  have hg : ∀ k, k < c → getC (fillR 0 c) k = zeroC := fun k hk => by
    unfold fillR blankR getC
    rw [List.replicate_zero, List.nil_append, Nat.sub_zero, List.getD_eq_getElem?_getD, List.getElem?_replicate, if_pos hk]
    rfl
  by_cases hi : i < c * 3
  · have e2 := rowV_get (fillR 0 c) (i / 3) (i % 3) (by rw [fillR_len (Nat.zero_le _)]; omega) (by omega)
    rw [show i / 3 * 3 + i % 3 = i by omega, hg _ (by omega)] at e2
    rw [e2]
    have e1 : (madeCells #[.string ⟨#[]⟩, .int .i64 0, .bool false] (c * 3)).toList[i]? = some ((#[.string ⟨#[]⟩, .int .i64 0, .bool false] : Array Value)[i % 3]!) := by simp [madeCells, hi]
    rw [e1]
    rcases (show i % 3 = 0 ∨ i % 3 = 1 ∨ i % 3 = 2 by omega) with h | h | h <;> rw [h] <;> rfl
  · have e1 : (madeCells #[.string ⟨#[]⟩, .int .i64 0, .bool false] (c * 3)).toList[i]? = none := List.getElem?_eq_none (by simp [madeCells]; omega)
    rw [e1, List.getElem?_eq_none (by rw [rowV_len, fillR_len (Nat.zero_le _)]; omega)]
theorem make_rows (n : Nat) (h : n ≤ 1000) (w : World) : (Instr.makeSlice 40 (.int .i64 (n : Int)) (.int .i64 (n : Int))).run Tryd.prog w = .ok (.slice (some ⟨w.heap.size, 0, none⟩) n n) (w.alloc (.cells (rowV (fillR 0 n)).toArray 42)) := by
  obtain ⟨i0, hi, hz0, hz1, hz2⟩ := info_parts infoCellz
  have h1 := run_make w 40 42 i0 _ Tryd.underlying40 hi hz0 .i64 .i64 (n : Int) (n : Int) (by omega) (by omega) (by rw [hz2]; omega) (by omega)
  rw [Int.toNat_natCast, hz1] at h1
  rw [h1, ← zero_rowV]
  rfl
theorem made_row (n : Nat) (w : World) (h : n ≤ 1000) : RowAt (w.alloc (.cells (rowV (fillR 0 n)).toArray 42)) ⟨w.heap.size, n, n⟩ (fillR 0 n) :=
  ⟨(fillR_len (Nat.zero_le _)).symm, Nat.le_refl _, by unfold maxLen; show n ≤ _; omega, _, heap_alloc_new w _, by rw [List.size_toArray, rowV_len, fillR_len (Nat.zero_le _)], by rw [List.toList_toArray, List.take_of_length_le (by rw [rowV_len, fillR_len (Nat.zero_le _)]; exact Nat.le_refl _)]⟩
theorem mul_one_calls (n : Nat) (h : n ≤ 1000) (w : World) : Calls Tryd.prog 57 #[.int .u64 1, .int .u64 (n : Int)] w fun e w' => e = .returned (.tuple #[.int .u64 0, .int .u64 (n : Int)]) ∧ w' = w := by
  have h1 := Tryd.bits_Mul 1 n (by omega) (by omega) w
  rw [Nat.one_mul, Nat.div_eq_of_lt (by omega), Nat.mod_eq_of_lt (by omega)] at h1
  exact h1
set_option maxHeartbeats 2000000 in
set_option maxRecDepth 100000 in
theorem repeat_calls {w : World} {g : Nat} (hB : Blk w g 42 (cV blankC).toArray) {n : Nat} (h1 : 1 ≤ n) (h2 : n ≤ 1000) :
    Calls Tryd.prog 40 #[.slice (some ⟨g, 0, none⟩) 1 1, .int .i64 (n : Int)] w fun e w' => ∃ r : RR, e = .returned r.v ∧ r.n = n ∧ w.heap.size ≤ r.g ∧ RowAt w' r (blankR n) ∧ Below w.heap.size w w' := by
  have HB0 := Hd.mk hB
  have hn0 : (0 : Int) ≤ (n : Int) := Int.natCast_nonneg n
  clear hB
  go_enter Tryd.func40, Tryd.ntmps40
  have hn1 : (n : Int) ≤ 1000 := by omega
  have hn2 : (1 : Int) ≤ (n : Int) := by omega
  have q1 : decide ((n : Int) < 0) = false := decide_eq_false (by omega)
  have q2 : decide ((9223372036854775807 : Int) < (n : Int)) = false := decide_eq_false (by omega)
  go_upto_region 6 with (go_at_call 57; (with_reducible refine (mul_one_calls n h2 _).mono ?_); rintro _ w1 ⟨rfl, rfl⟩)
  have hmk := make_rows n h2 w1
  have HR : Hd (RowAt _ ⟨w1.heap.size, n, n⟩ (fillR 0 n)) := ⟨made_row n w1 h2⟩
  have HBz : Hd (Below w1.heap.size w1 (w1.alloc (.cells (rowV (fillR 0 n)).toArray 42))) := ⟨below_alloc (Below.refl _ _) _⟩
  have HBk := Hd.mk (HB0.out.alloc (.cells (rowV (fillR 0 n)).toArray 42))
  have HG : Hd (g ≠ w1.heap.size) := ⟨by have := HB0.out.lt; omega⟩
  go_upto_region 7 with fail
  clear hmk HB0
  have HZ : Hd (w1.heap.size ≤ w1.heap.size) := ⟨Nat.le_refl _⟩
  generalize w1.alloc (.cells (rowV (fillR 0 n)).toArray 42) = wz at *
  generalize hgz : w1.heap.size = gz at *
  go_upto_region 8 with (first | (obtain ⟨wc, hst, hra, hoc, hbc⟩ := HR.out.copied (x := [blankC]) (n := 0) (by rw [fillR_len (Nat.zero_le _)]; exact h1) rfl; refine copy3_list (w' := wc) (cs := cV blankC) rfl rfl rfl rfl ?_ ?_ ?_ ?_))
  case refine_1 => rfl
  case refine_2 =>
    intro j v hj
    exact HBk.out.cell j (by simpa using hj)
  case refine_3 => simpa [rowV] using hst
  have HC : Hd (RowAt wc ⟨gz, n, n⟩ (fillR 1 n)) := ⟨by
    have h := fillR_next (n := 0) (m := 1) (c := n) (by omega)
    rw [show blankR 1 = [blankC] from rfl] at h
    rw [show ([blankC] : List TC).length = 1 from rfl, h] at hra
    exact hra⟩
  have HBc : Hd (Below gz w1 wc) := ⟨hbc HBz.out (Nat.le_refl _)⟩
  clear hst hra hoc hbc HR HBz HBk HG
  go_loopg [8] n (fun kq v8 wx => ∃ k : Nat, v8 = .int .i64 (k : Int) ∧ 1 ≤ k ∧ k ≤ n ∧ n ≤ k + kq ∧ Hd (RowAt wx ⟨gz, n, n⟩ (fillR k n)) ∧ Hd (Below gz w1 wx))
  case atStart => exact ⟨1, rfl, Nat.le_refl _, h1, by omega, HC, HBc⟩
  case round =>
    clear HC HBc
    obtain ⟨k, rfl, hk1, hkn, hkq, HC, HBc⟩ := hrel
    by_cases hlt : k < n
    · obtain ⟨d, rfl⟩ : ∃ d, gk = d + 1 := ⟨gk - 1, by omega⟩
      have l1 : decide ((k : Int) < (n : Int)) = true := decide_eq_true (by omega)
      have l2 : decide (k < n) = true := decide_eq_true hlt
      have l3 : k ≤ n := hkn
      have l4 : ¬ n = k := by omega
      have l5 : (k : Int) ≤ (n : Int) := by omega
      have l6 : (0 : Int) ≤ (k : Int) := by omega
      go_upto_region 9 with fail
      rename_i KQ hKQ
      refine regionH (fun _ => True) (by kernel_rfl) (fun wd hb => ?_)
      replace HBc := Hd.mk (HBc.out.trans (hb.mono (Nat.le_of_lt HC.out.lt)))
      replace HC := Hd.mk (HC.out.to (hb.block gz HC.out.lt))
      have hHd : (fun _ : World => True) wd := trivial
      clear hb
      refine takeH (i := 0) (v := ?v1) rfl (by kernel_rfl) (by kernel_rfl) (by kernel_rfl) (fun _ _ _ h => h) (Or.inl ⟨by rfl, ?hy1⟩) (by assumption) ?rest1
      case hy1 => (intro w hSw; (try dsimp only at hSw); go_simp; try (with_reducible rfl))
      case rest1 =>
      try simp only [Act.put, List.setIfInBounds_toArray, List.set_cons_zero, List.set_cons_succ]
      refine takeH (i := 1) (v := ?v2) rfl (by kernel_rfl) (by kernel_rfl) (by kernel_rfl) (fun _ _ _ h => h) (Or.inl ⟨by rfl, ?hy2⟩) (by assumption) ?rest2
      case hy2 => (intro w hSw; (try dsimp only at hSw); go_simp; try (with_reducible rfl))
      case rest2 =>
      try simp only [Act.put, List.setIfInBounds_toArray, List.set_cons_zero, List.set_cons_succ]
      refine takeH (i := 2) (v := ?v3) rfl (by kernel_rfl) (by kernel_rfl) (by kernel_rfl) (fun _ _ _ h => h) (Or.inl ⟨by rfl, ?hy3⟩) (by assumption) ?rest3
      case hy3 => (intro w hSw; (try dsimp only at hSw); go_simp; try (with_reducible rfl))
      case rest3 =>
      try simp only [Act.put, List.setIfInBounds_toArray, List.set_cons_zero, List.set_cons_succ]
      refine takeH (i := 3) (v := .slice (some ⟨gz, k * 3, none⟩) (n - k) (n - k)) rfl (by kernel_rfl) (by kernel_rfl) (by kernel_rfl) (fun _ _ _ h => h) (Or.inl ⟨by rfl, ?hy4⟩) (by assumption) ?rest4
      case hy4 => (intro w hSw; clear hSw; go_simp; done)
      case rest4 =>
      try simp only [Act.put, List.setIfInBounds_toArray, List.set_cons_zero, List.set_cons_succ]
      refine takeH (i := 4) (v := ?v5) rfl (by kernel_rfl) (by kernel_rfl) (by kernel_rfl) (fun _ _ _ h => h) (Or.inl ⟨by rfl, ?hy5⟩) (by assumption) ?rest5
      case hy5 => (intro w hSw; (try dsimp only at hSw); go_simp; try (with_reducible rfl))
      case rest5 =>
      try simp only [Act.put, List.setIfInBounds_toArray, List.set_cons_zero, List.set_cons_succ]
      refine takeH (i := 5) (v := ?v6) rfl (by kernel_rfl) (by kernel_rfl) (by kernel_rfl) (fun _ _ _ h => h) (Or.inl ⟨by rfl, ?hy6⟩) (by assumption) ?rest6
      case hy6 => (intro w hSw; (try dsimp only at hSw); go_simp; try (with_reducible rfl))
      case rest6 =>
      try simp only [Act.put, List.setIfInBounds_toArray, List.set_cons_zero, List.set_cons_succ]
      refine takeH (i := 6) (v := .slice (some ⟨gz, 0, none⟩) k n) rfl (by kernel_rfl) (by kernel_rfl) (by kernel_rfl) (fun _ _ _ h => h) (Or.inl ⟨by rfl, ?hy7⟩) (by assumption) ?rest7
      case hy7 => (intro w hSw; clear hSw; go_simp; done)
      case rest7 =>
      try simp only [Act.put, List.setIfInBounds_toArray, List.set_cons_zero, List.set_cons_succ]
      refine wpAnyH_ready (rs := [7]) (by kernel_rfl) (by simp) ?_
      refine consH rfl (fun K hK => ?_) AllReadyH.nil
      obtain ⟨m, hm⟩ : ∃ m, m = Nat.min k (n - k) := ⟨_, rfl⟩
      have hm1 : 1 ≤ m ∧ m ≤ k ∧ k + m ≤ n := by
        rcases Nat.le_total k (n - k) with h | h
        · have e : Nat.min k (n - k) = k := Nat.min_eq_left h
          rw [hm, e]
          omega
        · have e : Nat.min k (n - k) = n - k := Nat.min_eq_right h
          rw [hm, e]
          omega
      obtain ⟨wc2, hst, hra, hoc, hbc⟩ := HC.out.copied (x := blankR m) (n := k) (by rw [fillR_len hkn, blankR_len]; omega) rfl
      rw [blankR_len, fillR_next hm1.2.2] at hra
      refine copy3_step (w' := wc2) (cs := rowV (blankR m)) rfl rfl rfl rfl (by rw [rowV_len, blankR_len, hm]) ?hs hst ?_
      case hs =>
        intro j v hj
        have hj3 : j < m * 3 := by
          have := (List.getElem?_eq_some_iff.1 hj).1
          rwa [rowV_len, blankR_len] at this
        have h1 := HC.out.cell (k := j / 3) (j := j % 3) (by rw [fillR_len hkn]; omega) (by omega)
        have h2 := rowV_get (blankR m) (j / 3) (j % 3) (by rw [blankR_len]; omega) (by omega)
        rw [show j / 3 * 3 + j % 3 = j by omega] at h1 h2
        rw [hj] at h2
        rw [Addr.add_lit_, Nat.zero_add, h1, h2]
        congr 2
        have h3 := fillR_take (n := k) (m := m) (c := n) hm1.2.1
        rw [← h3, getC_take (by omega)]
      rw [← hm]
      have HC2 := Hd.mk hra
      have HB2 := Hd.mk (hbc HBc.out (Nat.le_refl _))
      refine hK.out _ _ hHd ?_
      clear hK K
      clear HC HBc hra hoc hbc hst
      try simp only [Act.put, List.setIfInBounds_toArray, List.set_cons_zero, List.set_cons_succ]
      refine takeH (i := 8) (v := ?v8) rfl (by kernel_rfl) (by kernel_rfl) (by kernel_rfl) (fun _ _ _ h => h) (Or.inl ⟨by rfl, ?hy8⟩) (by assumption) ?rest8
      case hy8 => (intro w hSw; (try dsimp only at hSw); go_simp; try (with_reducible rfl))
      case rest8 =>
      try simp only [Act.put, List.setIfInBounds_toArray, List.set_cons_zero, List.set_cons_succ]
      refine takeH (i := 9) (v := ?v9) rfl (by kernel_rfl) (by kernel_rfl) (by kernel_rfl) (fun _ _ _ h => h) (Or.inl ⟨by rfl, ?hy9⟩) (by assumption) ?rest9
      case hy9 => (intro w hSw; (try dsimp only at hSw); go_simp; try (with_reducible rfl))
      case rest9 =>
      try simp only [Act.put, List.setIfInBounds_toArray, List.set_cons_zero, List.set_cons_succ]
      refine wpAnyH_done (by kernel_rfl) ?_ _
      refine hKQ _ _ ?_
      have hkm : (k : Int) + (m : Int) = ((k + m : Nat) : Int) := by omega
      go_wp2
      go_roundg d
      case measure => omega
      case rel =>
        have hw : IntKind.i64.wrap ((k : Int) + (m : Int)) = ((k + m : Nat) : Int) := by rw [IntKind.wrap_i64]; omega
        rw [hm] at hw
        exact ⟨k + m, by rw [hm, hw], by omega, hm1.2.2, by omega, HC2, HB2⟩
    · have l1 : decide ((k : Int) < (n : Int)) = false := decide_eq_false (by omega)
      have l2 : decide (k < n) = false := decide_eq_false hlt
      obtain rfl : k = n := by omega
      have HE : Hd (RowAt wr ⟨gz, k, k⟩ (blankR k)) := ⟨by
        have h := HC.out
        unfold fillR at h
        rw [Nat.sub_self, List.replicate_zero, List.append_nil] at h
        exact h⟩
      clear HC
      go_wp2
      go_ret
      exact ⟨⟨gz, k, k⟩, rfl, rfl, by rw [hgz]; exact Nat.le_refl _, HE.out, by rw [hgz]; exact HBc.out⟩
end Go.Proofs.YtledplnlcjfafaaDoorL

