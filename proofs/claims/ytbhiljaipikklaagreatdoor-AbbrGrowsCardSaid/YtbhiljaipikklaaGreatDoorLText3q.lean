/- Parts of the proof of the law that the last file states; declarations that nothing mentions are left out by a program. No conditions. -/
import Derived.Test.YtbhiljaipikklaaGreatDoorLText2q
set_option linter.unusedVariables false
set_option linter.unusedSimpArgs false
namespace Go.Proofs.YtbhiljaipikklaaGreatDoorL
open Go Go.RowKit Go.Proofs.YtbhiljaipikklaaGreatDoorW.PrintWords
def withoutS (m : ByteArray) (f t : Nat) : ByteArray := m.extract 0 f ++ m.extract t m.size
def cutAt (a f t : Nat) : Int := if f < a then max (f : Int) ((a : Int) - ((t - f : Nat) : Int)) else (a : Int)
def cutV (m : ByteArray) (a f t : Nat) : Value :=
  if t ≤ f then .tuple #[.agg (bufV m a), .string ⟨#[]⟩]
  else .tuple #[.agg (bufV (makeS (withoutS m f t)) (backL (makeS (withoutS m f t)) (cutAt a f t))), .string (m.extract f t)]
theorem cutV_no {m : ByteArray} {a f t : Nat} (h : t ≤ f) : cutV m a f t = .tuple #[.agg (bufV m a), .string ⟨#[]⟩] := by unfold cutV; rw [if_pos h]
theorem cutV_yes {m : ByteArray} {a f t : Nat} (h : ¬ t ≤ f) : cutV m a f t = .tuple #[.agg (bufV (makeS (withoutS m f t)) (backL (makeS (withoutS m f t)) (cutAt a f t))), .string (m.extract f t)] := by unfold cutV; rw [if_neg h]
theorem withoutS_size (m : ByteArray) (f t : Nat) (hf : f ≤ m.size) (ht : t ≤ m.size) : (withoutS m f t).size = f + (m.size - t) := by
  unfold withoutS
  rw [ByteArray.size_append, ByteArray.size_extract, ByteArray.size_extract]
  omega
theorem store_step {P : Program} {ops : Array Oper} {o : Oper} {a : Act} {w : World} {K : Act → World → Prop} {Q : Exit → Act → World → Prop} {ty : TypeId} {x y : Operand} (ho : o.op = .store ty x y) (hd : o.dst = none) {g : Nat} {cells : Array Value} (hx : a.eval x = .pointer (some ⟨g, 0, none⟩)) (hy : a.eval y = .agg cells)
    {t : TypeId} {old : Array Value} (hg : Blk w g t old) (hi : (P.info? ty).map (·.size) = some cells.size) (hold : old.size = cells.size) (h1 : cells.all (·.oneCell') = true)
    (h : ∀ w', Blk w' g t cells → YtbhiljaipikklaaGreatDoorW.PrintWords.Kept w w' (fun k => k = g) → w'.heap.size = w.heap.size → (∀ {B w0}, Below B w0 w → B ≤ g → Below B w0 w') → K a w') : Oper.wp P o a w K Q :=
  wp_store_row ty x y ho g cells hx hy t old hg hi hold h1 (show K (a.put o.dst undef) _ by rw [hd]; exact h _ (setRow_heap w g old cells t (0, 0) hg) ⟨by rw [size_setRow]; exact Nat.le_refl _, fun i _ hn => setRow_other w g i cells hn⟩ (size_setRow w g cells) (fun hb hB => below_setRow hb hB cells))
set_option maxRecDepth 100000 in
set_option maxHeartbeats 4000000 in
theorem cut_calls (S : ByteArray) (hS : S.size ≤ 4294967296) (at_ fr to_ : Int) (w : World) (hT : Lib.Utf8Tabs 0 1 w) :
    Calls Tryz.prog 24 #[.agg #[.string S, .int .i64 at_], .int .i64 fr, .int .i64 to_] w fun e w' =>
      e = .returned (cutV (makeS S) (backL (makeS S) at_) (backL (makeS S) fr) (backL (makeS S) to_)) ∧ Below w.heap.size w w' := by
  have XM := Hd.mk (fun w1 (hb : Below w.heap.size w w1) => make_calls S hS at_ w1 (Utf8Tabs_below hT hb))
  have HM : Hd ((makeS S).size ≤ 68719476736) := ⟨by have h1 := makeS_size S; have h2 := plainS_size S; omega⟩
  have HA := Hd.mk (backL_le (makeS S) at_)
  have HF := Hd.mk (backL_le (makeS S) fr)
  have HTO := Hd.mk (backL_le (makeS S) to_)
  have H6 : Hd ((makeS S).size ≤ 4294967296) := ⟨makeS_600 S⟩
  have XB1 := Hd.mk (fun w' => back_calls (makeS S) (by have := HM.out; omega) fr w')
  have XB2 := Hd.mk (fun w' => back_calls (makeS S) (by have := HM.out; omega) to_ w')
  have HTT := Hd.mk hT
  generalize backL (makeS S) fr = f at *
  generalize backL (makeS S) to_ = t at *
  generalize backL (makeS S) at_ = a at *
  generalize makeS S = m at *
  clear hS hT
  go_enter Tryz.func24, Tryz.ntmps24
  go_upto_region 2 with (first
    | ((with_reducible refine gate_dst (N := 3) rfl ?_); refine box_event ?hg (N := 3) ?hd (cs := #[.string S, .int .i64 at_]) (t := 42) ?hr ?_; (case hd => rfl); (case hg => rfl); (case hr => first | (go_simp; done) | (go_simp; rfl)); intro g3 hg wg3 hx hb; have C0 := Hd.mk (show Blk wg3 g3 42 _ from hx); have HG3 : Hd (w.heap.size ≤ g3) := ⟨hg ▸ Nat.le_refl _⟩; have HB3 := Hd.mk hb; clear hx hb hg)
    | ((with_reducible refine gate_dst (N := 6) rfl ?_); refine box_event ?hg (N := 6) ?hd (cs := #[.string ByteArray.empty, .int .i64 0]) (t := 42) ?hr ?_; (case hd => rfl); (case hg => rfl); (case hr => first | (go_simp; done) | (go_simp; rfl)); intro g6 hg wg6 hx hb; have B6 := Hd.mk (show Blk wg6 g6 42 _ from hx); have C3 := Hd.mk (Blk.belowW C0.out hb); have HG6 : Hd (w.heap.size ≤ g6 ∧ g3 ≠ g6) := ⟨⟨hg ▸ HB3.out.size, fun e => by have := C0.out.lt; omega⟩⟩; have HB6 := Hd.mk (HB3.out.trans (hb.mono HB3.out.size)); clear HB3 C0; obtain ⟨c0, c1, f0, f1⟩ := Blk.two C3.out; clear hx hb hg)
    | (go_at_call 22; (with_reducible refine (XM.out _ HB6.out).mono ?_); rintro _ w5 ⟨rfl, hb⟩; have B7 := Hd.mk (Blk.belowW B6.out hb); have C7 := Hd.mk (Blk.belowW C3.out hb); have HB7 := Hd.mk (HB6.out.trans (hb.mono HB6.out.size)); clear hb HB6 B6 C3 XM c0 c1 f0 f1)
    | ((with_reducible refine gate_store (t := 42) (p := 3) rfl ?_); refine store_event rfl rfl (g := g3) (cells := bufV m a) (by first | rfl | (go_simp; done) | (go_simp; rfl)) (by first | rfl | (go_simp; done) | (go_simp; rfl)) C7.out infoBuf rfl (by simp [bufV, Value.oneCell']) ?_; intro ws hx hk hz hb; have C8 := Hd.mk (show Blk ws g3 42 #[.string m, .int .i64 (a : Int)] from hx); have B8 := Hd.mk (show Blk ws g6 42 _ from (hk.2 g6 B7.out.lt (fun e => HG6.out.2 e.symm)).trans B7.out); have HB8 := Hd.mk (hb HB7.out HG3.out); clear hx hk hz hb HB7 C7 B7))
  rename_i KK hKK
  refine regionH (fun w' : World => w'.cell? ⟨g3, 0, none⟩ = some (.string m) ∧ w'.cell? ⟨g3, 1, none⟩ = some (.int .i64 (a : Int))) (by kernel_rfl) (fun wd hb => ?_)
  have C9 := Hd.mk (Blk.belowW C8.out hb)
  have B9 := Hd.mk (Blk.belowW B8.out hb)
  have HB9 := Hd.mk (HB8.out.trans (hb.mono HB8.out.size))
  clear hb C8 B8 HB8
  have hHd : (fun w' : World => w'.cell? ⟨g3, 0, none⟩ = some (.string m) ∧ w'.cell? ⟨g3, 1, none⟩ = some (.int .i64 (a : Int))) wd := ⟨C9.out.cell 0 rfl, C9.out.cell 1 rfl⟩
  refine takeH (i := 0) (v := ?v1) rfl (by kernel_rfl) (by kernel_rfl) (by kernel_rfl) (fun _ _ _ h => h) (Or.inl ⟨by rfl, ?hy1⟩) (by assumption) ?rest1
  case hy1 => (intro w hSw; (try dsimp only at hSw); go_simp; try (with_reducible rfl))
  case rest1 =>
  try simp only [Act.put, List.setIfInBounds_toArray, List.set_cons_zero, List.set_cons_succ]
  refine takeH (i := 1) (v := ?v2) rfl (by kernel_rfl) (by kernel_rfl) (by kernel_rfl) (fun _ _ _ h => h) (Or.inl ⟨by rfl, ?hy2⟩) (by assumption) ?rest2
  case hy2 => (intro w hSw; (try dsimp only at hSw); go_simp; try (with_reducible rfl))
  case rest2 =>
  try simp only [Act.put, List.setIfInBounds_toArray, List.set_cons_zero, List.set_cons_succ]
  refine takeH (i := 2) (v := ?v3) rfl (by kernel_rfl) (by kernel_rfl) (by kernel_rfl) (fun _ _ _ h => h) (Or.inl ⟨by rfl, ?hy3⟩) (by assumption) ?rest3
  case hy3 => (intro w hSw; (try dsimp only at hSw); go_simp; try (with_reducible rfl))
  case rest3 =>
  try simp only [Act.put, List.setIfInBounds_toArray, List.set_cons_zero, List.set_cons_succ]
  refine takeH (i := 4) (v := ?v4) rfl (by kernel_rfl) (by kernel_rfl) (by kernel_rfl) (fun _ _ _ h => h) (Or.inl ⟨by rfl, ?hy4⟩) (by assumption) ?rest4
  case hy4 => (intro w hSw; (try dsimp only at hSw); go_simp; try (with_reducible rfl))
  case rest4 =>
  try simp only [Act.put, List.setIfInBounds_toArray, List.set_cons_zero, List.set_cons_succ]
  refine takeH (i := 5) (v := ?v5) rfl (by kernel_rfl) (by kernel_rfl) (by kernel_rfl) (fun _ _ _ h => h) (Or.inl ⟨by rfl, ?hy5⟩) (by assumption) ?rest5
  case hy5 => (intro w hSw; (try dsimp only at hSw); go_simp; try (with_reducible rfl))
  case rest5 =>
  try simp only [Act.put, List.setIfInBounds_toArray, List.set_cons_zero, List.set_cons_succ]
  refine takeH (i := 6) (v := ?v6) rfl (by kernel_rfl) (by kernel_rfl) (by kernel_rfl) (fun _ _ _ h => h) (Or.inl ⟨by rfl, ?hy6⟩) (by assumption) ?rest6
  case hy6 => (intro w hSw; (try dsimp only at hSw); go_simp; try (with_reducible rfl))
  case rest6 =>
  try simp only [Act.put, List.setIfInBounds_toArray, List.set_cons_zero, List.set_cons_succ]
  refine wpAnyH_ready (rs := [3]) (by kernel_rfl) (by simp) ?_
  refine consH rfl (fun K hK => ?_) AllReadyH.nil
  go_simp
  go_at_call 42
  with_reducible refine (XB1.out _).mono ?_
  rintro _ wq3 ⟨rfl, hb⟩
  replace C9 := Hd.mk (Blk.belowW C9.out hb)
  replace B9 := Hd.mk (Blk.belowW B9.out hb)
  replace HB9 := Hd.mk (HB9.out.trans (hb.mono HB9.out.size))
  clear hb hHd XB1
  have hHd : (fun w' : World => w'.cell? ⟨g3, 0, none⟩ = some (.string m) ∧ w'.cell? ⟨g3, 1, none⟩ = some (.int .i64 (a : Int))) wq3 := ⟨C9.out.cell 0 rfl, C9.out.cell 1 rfl⟩
  go_simp
  refine hK.out _ _ hHd ?_
  clear hK K
  try simp only [Act.put, List.setIfInBounds_toArray, List.set_cons_zero, List.set_cons_succ]
  refine wpAnyH_ready (rs := [7]) (by kernel_rfl) (by simp) ?_
  refine consH rfl (fun K hK => ?_) AllReadyH.nil
  go_simp
  go_at_call 42
  with_reducible refine (XB2.out _).mono ?_
  rintro _ wq7 ⟨rfl, hb⟩
  replace C9 := Hd.mk (Blk.belowW C9.out hb)
  replace B9 := Hd.mk (Blk.belowW B9.out hb)
  replace HB9 := Hd.mk (HB9.out.trans (hb.mono HB9.out.size))
  clear hb hHd XB2
  have hHd : (fun w' : World => w'.cell? ⟨g3, 0, none⟩ = some (.string m) ∧ w'.cell? ⟨g3, 1, none⟩ = some (.int .i64 (a : Int))) wq7 := ⟨C9.out.cell 0 rfl, C9.out.cell 1 rfl⟩
  go_simp
  refine hK.out _ _ hHd ?_
  clear hK K
  try simp only [Act.put, List.setIfInBounds_toArray, List.set_cons_zero, List.set_cons_succ]
  refine takeH (i := 8) (v := ?v7) rfl (by kernel_rfl) (by kernel_rfl) (by kernel_rfl) (fun _ _ _ h => h) (Or.inl ⟨by rfl, ?hy7⟩) (by assumption) ?rest7
  case hy7 => (intro w hSw; (try dsimp only at hSw); go_simp; try (with_reducible rfl))
  case rest7 =>
  try simp only [Act.put, List.setIfInBounds_toArray, List.set_cons_zero, List.set_cons_succ]
  refine takeH (i := 9) (v := ?v8) rfl (by kernel_rfl) (by kernel_rfl) (by kernel_rfl) (fun _ _ _ h => h) (Or.inl ⟨by rfl, ?hy8⟩) (by assumption) ?rest8
  case hy8 => (intro w hSw; (try dsimp only at hSw); go_simp; try (with_reducible rfl))
  case rest8 =>
  try simp only [Act.put, List.setIfInBounds_toArray, List.set_cons_zero, List.set_cons_succ]
  refine wpAnyH_done (by kernel_rfl) ?_ _
  refine hKK _ _ ?_
  obtain ⟨c0, c1, f0, f1⟩ := Blk.two C9.out
  clear hHd
  by_cases htf : t ≤ f
  · have hb1 : decide ((t : Int) ≤ (f : Int)) = true := decide_eq_true (by omega)
    have hb2 : decide (t ≤ f) = true := decide_eq_true htf
    have HI := Hd.mk (cutV_no htf (m := m) (a := a))
    clear htf
    go_wp2_with (first
      | ((with_reducible refine gate_store (t := 42) (p := 6) rfl ?_); refine store_event rfl rfl (g := g6) (cells := bufV m a) (by first | rfl | (go_simp; done) | (go_simp; rfl)) (by first | rfl | (go_simp; done) | (go_simp; rfl)) B9.out infoBuf rfl (by simp [bufV, Value.oneCell']) ?_; intro ws hx hk hz hb; have BA := Hd.mk hx; have HBA := Hd.mk (hb HB9.out HG6.out.1); clear hx hk hz hb HB9 B9))
    exact ret_row_tmp (cs := bufV m a) (v := .string ⟨#[]⟩) rfl rfl Tryz.underlying42 infoBuf rfl BA.out rfl rfl ⟨by rw [HI.out], HBA.out⟩
  · have hb1 : decide ((t : Int) ≤ (f : Int)) = false := decide_eq_false (by omega)
    have hb2 : decide (t ≤ f) = false := decide_eq_false htf
    have HI := Hd.mk (cutV_yes htf (m := m) (a := a))
    have hf0 : (0 : Int) ≤ (f : Int) := Int.natCast_nonneg f
    have hft : (f : Int) ≤ (t : Int) := by omega
    have hfn : f ≤ t := by omega
    have htm : (t : Int) ≤ (m.size : Int) := by have := HTO.out; omega
    have htn : t ≤ m.size := HTO.out
    have hfm : f ≤ m.size := by omega
    have ham : (a : Int) ≤ 4294967296 := by have := HA.out; have := H6.out; omega
    have HTF := Hd.mk htf
    have XM2 := Hd.mk (fun (at2 : Int) w1 (hb : Below w.heap.size w w1) => make_calls (withoutS m f t) (by rw [withoutS_size m f t hfm htn]; have := H6.out; omega) at2 w1 (Utf8Tabs_below HTT.out hb))
    clear htf
    generalize hq : makeS (withoutS m f t) = q at *
    clear hq
    unfold withoutS at XM2
    have hms : (m.size : Int) ≤ 4294967296 := by have := H6.out; omega
    have hl1 : f + (m.size - t) ≤ 9223372036854775807 := by omega
    have hl2 : ¬ 9223372036854775807 < f + (m.size - t) := by omega
    by_cases hfa : f < a
    · have hq1 : decide ((f : Int) < (a : Int)) = true := decide_eq_true (by omega)
      have hq2 : decide (f < a) = true := decide_eq_true hfa
      have HC : Hd (cutAt a f t = max (f : Int) ((a : Int) - ((t - f : Nat) : Int))) := ⟨by unfold cutAt; rw [if_pos hfa]⟩
      clear hfa
      go_upto_region 9 with (fail)
      have hwr : wrap64 ((a : Int) - ((t - f : Nat) : Int)) = (a : Int) - ((t - f : Nat) : Int) := by unfold wrap64; omega
      try rw [hwr]
      clear hwr
      rw [HC.out] at HI
      generalize max (f : Int) ((a : Int) - ((t - f : Nat) : Int)) = at2 at HI ⊢
      rename_i KQ hKQ
      refine regionH (fun w' : World => w'.cell? ⟨g3, 0, none⟩ = some (.string m) ∧ w'.cell? ⟨g3, 1, none⟩ = some (.int .i64 (a : Int))) (by kernel_rfl) (fun wd hb => ?_)
      replace C9 := Hd.mk (Blk.belowW C9.out hb)
      replace B9 := Hd.mk (Blk.belowW B9.out hb)
      replace HB9 := Hd.mk (HB9.out.trans (hb.mono HB9.out.size))
      clear hb c0 c1 f0 f1
      have hHd : (fun w' : World => w'.cell? ⟨g3, 0, none⟩ = some (.string m) ∧ w'.cell? ⟨g3, 1, none⟩ = some (.int .i64 (a : Int))) wd := ⟨C9.out.cell 0 rfl, C9.out.cell 1 rfl⟩
      refine takeH (i := 0) (v := ?v21) rfl (by kernel_rfl) (by kernel_rfl) (by kernel_rfl) (fun _ _ _ h => h) (Or.inl ⟨by rfl, ?hy21⟩) (by assumption) ?rest21
      case hy21 => (intro w hSw; (try dsimp only at hSw); go_simp; try (with_reducible rfl))
      case rest21 =>
      try simp only [Act.put, List.setIfInBounds_toArray, List.set_cons_zero, List.set_cons_succ]
      refine takeH (i := 1) (v := ?v22) rfl (by kernel_rfl) (by kernel_rfl) (by kernel_rfl) (fun _ _ _ h => h) (Or.inl ⟨by rfl, ?hy22⟩) (by assumption) ?rest22
      case hy22 => (intro w hSw; (try dsimp only at hSw); go_simp; try (with_reducible rfl))
      case rest22 =>
      try simp only [Act.put, List.setIfInBounds_toArray, List.set_cons_zero, List.set_cons_succ]
      refine takeH (i := 2) (v := ?v23) rfl (by kernel_rfl) (by kernel_rfl) (by kernel_rfl) (fun _ _ _ h => h) (Or.inl ⟨by rfl, ?hy23⟩) (by assumption) ?rest23
      case hy23 => (intro w hSw; (try dsimp only at hSw); go_simp; try (with_reducible rfl))
      case rest23 =>
      try simp only [Act.put, List.setIfInBounds_toArray, List.set_cons_zero, List.set_cons_succ]
      refine takeH (i := 3) (v := ?v24) rfl (by kernel_rfl) (by kernel_rfl) (by kernel_rfl) (fun _ _ _ h => h) (Or.inl ⟨by rfl, ?hy24⟩) (by assumption) ?rest24
      case hy24 => (intro w hSw; (try dsimp only at hSw); go_simp; try (with_reducible rfl))
      case rest24 =>
      try simp only [Act.put, List.setIfInBounds_toArray, List.set_cons_zero, List.set_cons_succ]
      refine takeH (i := 4) (v := ?v25) rfl (by kernel_rfl) (by kernel_rfl) (by kernel_rfl) (fun _ _ _ h => h) (Or.inl ⟨by rfl, ?hy25⟩) (by assumption) ?rest25
      case hy25 => (intro w hSw; (try dsimp only at hSw); go_simp; try (with_reducible rfl))
      case rest25 =>
      try simp only [Act.put, List.setIfInBounds_toArray, List.set_cons_zero, List.set_cons_succ]
      refine takeH (i := 5) (v := ?v26) rfl (by kernel_rfl) (by kernel_rfl) (by kernel_rfl) (fun _ _ _ h => h) (Or.inl ⟨by rfl, ?hy26⟩) (by assumption) ?rest26
      case hy26 => (intro w hSw; (try dsimp only at hSw); go_simp; try (with_reducible rfl))
      case rest26 =>
      try simp only [Act.put, List.setIfInBounds_toArray, List.set_cons_zero, List.set_cons_succ]
      refine takeH (i := 6) (v := ?v27) rfl (by kernel_rfl) (by kernel_rfl) (by kernel_rfl) (fun _ _ _ h => h) (Or.inl ⟨by rfl, ?hy27⟩) (by assumption) ?rest27
      case hy27 => (intro w hSw; (try dsimp only at hSw); go_simp; try (with_reducible rfl))
      case rest27 =>
      try simp only [Act.put, List.setIfInBounds_toArray, List.set_cons_zero, List.set_cons_succ]
      refine takeH (i := 7) (v := ?v28) rfl (by kernel_rfl) (by kernel_rfl) (by kernel_rfl) (fun _ _ _ h => h) (Or.inl ⟨by rfl, ?hy28⟩) (by assumption) ?rest28
      case hy28 => (intro w hSw; (try dsimp only at hSw); go_simp; try (with_reducible rfl))
      case rest28 =>
      try simp only [Act.put, List.setIfInBounds_toArray, List.set_cons_zero, List.set_cons_succ]
      refine takeH (i := 8) (v := ?v29) rfl (by kernel_rfl) (by kernel_rfl) (by kernel_rfl) (fun _ _ _ h => h) (Or.inl ⟨by rfl, ?hy29⟩) (by assumption) ?rest29
      case hy29 => (intro w hSw; (try dsimp only at hSw); go_simp; try (with_reducible rfl))
      case rest29 =>
      try simp only [Act.put, List.setIfInBounds_toArray, List.set_cons_zero, List.set_cons_succ]
      refine takeH (i := 9) (v := ?v30) rfl (by kernel_rfl) (by kernel_rfl) (by kernel_rfl) (fun _ _ _ h => h) (Or.inl ⟨by rfl, ?hy30⟩) (by assumption) ?rest30
      case hy30 => (intro w hSw; (try dsimp only at hSw); go_simp; try (with_reducible rfl))
      case rest30 =>
      try simp only [Act.put, List.setIfInBounds_toArray, List.set_cons_zero, List.set_cons_succ]
      refine takeH (i := 11) (v := ?v31) rfl (by kernel_rfl) (by kernel_rfl) (by kernel_rfl) (fun _ _ _ h => h) (Or.inl ⟨by rfl, ?hy31⟩) (by assumption) ?rest31
      case hy31 => (intro w hSw; (try dsimp only at hSw); go_simp; try (with_reducible rfl))
      case rest31 =>
      try simp only [Act.put, List.setIfInBounds_toArray, List.set_cons_zero, List.set_cons_succ]
      refine wpAnyH_ready (rs := [10]) (by kernel_rfl) (by simp) ?_
      refine consH rfl (fun K hK => ?_) AllReadyH.nil
      go_simp
      go_at_call 22
      with_reducible refine (XM2.out _ _ HB9.out).mono ?_
      rintro _ wm ⟨rfl, hb⟩
      replace C9 := Hd.mk (Blk.belowW C9.out hb)
      replace B9 := Hd.mk (Blk.belowW B9.out hb)
      replace HB9 := Hd.mk (HB9.out.trans (hb.mono HB9.out.size))
      clear hb hHd XM2
      have hHd : (fun w' : World => w'.cell? ⟨g3, 0, none⟩ = some (.string m) ∧ w'.cell? ⟨g3, 1, none⟩ = some (.int .i64 (a : Int))) wm := ⟨C9.out.cell 0 rfl, C9.out.cell 1 rfl⟩
      go_simp
      refine hK.out _ _ hHd ?_
      clear hK K
      try simp only [Act.put, List.setIfInBounds_toArray, List.set_cons_zero, List.set_cons_succ]
      refine wpAnyH_ready (rs := [12]) (by kernel_rfl) (by simp) ?_
      refine consH rfl (fun K hK => ?_) AllReadyH.nil
      rw [if_pos (by first | rfl | (go_simp; done) | (go_simp; rfl))]
      refine store_step (ops := #[]) rfl rfl (g := g6) (cells := bufV q (backL q at2)) (by first | rfl | (go_simp; done) | (go_simp; rfl)) (by first | rfl | (go_simp; done) | (go_simp; rfl)) B9.out infoBuf rfl (by simp [bufV, Value.oneCell']) ?_
      intro ws hx hk hz hb
      have BA := Hd.mk hx
      have CA := Hd.mk (show Blk ws g3 42 _ from (hk.2 g3 C9.out.lt HG6.out.2).trans C9.out)
      have HBA := Hd.mk (hb HB9.out HG6.out.1)
      clear hx hk hz hb hHd B9 C9 HB9
      have hHd : (fun w' : World => w'.cell? ⟨g3, 0, none⟩ = some (.string m) ∧ w'.cell? ⟨g3, 1, none⟩ = some (.int .i64 (a : Int))) ws := ⟨CA.out.cell 0 rfl, CA.out.cell 1 rfl⟩
      refine hK.out _ _ hHd ?_
      clear hK K
      try simp only [Act.put, List.setIfInBounds_toArray, List.set_cons_zero, List.set_cons_succ]
      refine takeH (i := 13) (v := ?v32) rfl (by kernel_rfl) (by kernel_rfl) (by kernel_rfl) (fun _ _ _ h => h) (Or.inl ⟨by rfl, ?hy32⟩) (by assumption) ?rest32
      case hy32 => (intro w hSw; (try dsimp only at hSw); go_simp; try (with_reducible rfl))
      case rest32 =>
      try simp only [Act.put, List.setIfInBounds_toArray, List.set_cons_zero, List.set_cons_succ]
      refine wpAnyH_done (by kernel_rfl) ?_ _
      refine hKQ _ _ ?_
      clear hHd
      go_wp2
      exact ret_row_tmp (cs := bufV q (backL q at2)) (v := .string (m.extract f t)) rfl rfl Tryz.underlying42 infoBuf rfl BA.out rfl rfl ⟨by rw [HI.out], HBA.out⟩
    · have hq1 : decide ((f : Int) < (a : Int)) = false := decide_eq_false (by omega)
      have hq2 : decide (f < a) = false := decide_eq_false hfa
      have HC : Hd (cutAt a f t = (a : Int)) := ⟨by unfold cutAt; rw [if_neg hfa]⟩
      clear hfa
      go_upto_region 9 with (fail)
      rw [HC.out] at HI
      rename_i KQ hKQ
      refine regionH (fun w' : World => w'.cell? ⟨g3, 0, none⟩ = some (.string m) ∧ w'.cell? ⟨g3, 1, none⟩ = some (.int .i64 (a : Int))) (by kernel_rfl) (fun wd hb => ?_)
      replace C9 := Hd.mk (Blk.belowW C9.out hb)
      replace B9 := Hd.mk (Blk.belowW B9.out hb)
      replace HB9 := Hd.mk (HB9.out.trans (hb.mono HB9.out.size))
      clear hb c0 c1 f0 f1
      have hHd : (fun w' : World => w'.cell? ⟨g3, 0, none⟩ = some (.string m) ∧ w'.cell? ⟨g3, 1, none⟩ = some (.int .i64 (a : Int))) wd := ⟨C9.out.cell 0 rfl, C9.out.cell 1 rfl⟩
      refine takeH (i := 0) (v := ?v9) rfl (by kernel_rfl) (by kernel_rfl) (by kernel_rfl) (fun _ _ _ h => h) (Or.inl ⟨by rfl, ?hy9⟩) (by assumption) ?rest9
      case hy9 => (intro w hSw; (try dsimp only at hSw); go_simp; try (with_reducible rfl))
      case rest9 =>
      try simp only [Act.put, List.setIfInBounds_toArray, List.set_cons_zero, List.set_cons_succ]
      refine takeH (i := 1) (v := ?v10) rfl (by kernel_rfl) (by kernel_rfl) (by kernel_rfl) (fun _ _ _ h => h) (Or.inl ⟨by rfl, ?hy10⟩) (by assumption) ?rest10
      case hy10 => (intro w hSw; (try dsimp only at hSw); go_simp; try (with_reducible rfl))
      case rest10 =>
      try simp only [Act.put, List.setIfInBounds_toArray, List.set_cons_zero, List.set_cons_succ]
      refine takeH (i := 2) (v := ?v11) rfl (by kernel_rfl) (by kernel_rfl) (by kernel_rfl) (fun _ _ _ h => h) (Or.inl ⟨by rfl, ?hy11⟩) (by assumption) ?rest11
      case hy11 => (intro w hSw; (try dsimp only at hSw); go_simp; try (with_reducible rfl))
      case rest11 =>
      try simp only [Act.put, List.setIfInBounds_toArray, List.set_cons_zero, List.set_cons_succ]
      refine takeH (i := 3) (v := ?v12) rfl (by kernel_rfl) (by kernel_rfl) (by kernel_rfl) (fun _ _ _ h => h) (Or.inl ⟨by rfl, ?hy12⟩) (by assumption) ?rest12
      case hy12 => (intro w hSw; (try dsimp only at hSw); go_simp; try (with_reducible rfl))
      case rest12 =>
      try simp only [Act.put, List.setIfInBounds_toArray, List.set_cons_zero, List.set_cons_succ]
      refine takeH (i := 4) (v := ?v13) rfl (by kernel_rfl) (by kernel_rfl) (by kernel_rfl) (fun _ _ _ h => h) (Or.inl ⟨by rfl, ?hy13⟩) (by assumption) ?rest13
      case hy13 => (intro w hSw; (try dsimp only at hSw); go_simp; try (with_reducible rfl))
      case rest13 =>
      try simp only [Act.put, List.setIfInBounds_toArray, List.set_cons_zero, List.set_cons_succ]
      refine takeH (i := 5) (v := ?v14) rfl (by kernel_rfl) (by kernel_rfl) (by kernel_rfl) (fun _ _ _ h => h) (Or.inl ⟨by rfl, ?hy14⟩) (by assumption) ?rest14
      case hy14 => (intro w hSw; (try dsimp only at hSw); go_simp; try (with_reducible rfl))
      case rest14 =>
      try simp only [Act.put, List.setIfInBounds_toArray, List.set_cons_zero, List.set_cons_succ]
      refine takeH (i := 6) (v := ?v15) rfl (by kernel_rfl) (by kernel_rfl) (by kernel_rfl) (fun _ _ _ h => h) (Or.inl ⟨by rfl, ?hy15⟩) (by assumption) ?rest15
      case hy15 => (intro w hSw; (try dsimp only at hSw); go_simp; try (with_reducible rfl))
      case rest15 =>
      try simp only [Act.put, List.setIfInBounds_toArray, List.set_cons_zero, List.set_cons_succ]
      refine takeH (i := 7) (v := ?v16) rfl (by kernel_rfl) (by kernel_rfl) (by kernel_rfl) (fun _ _ _ h => h) (Or.inl ⟨by rfl, ?hy16⟩) (by assumption) ?rest16
      case hy16 => (intro w hSw; (try dsimp only at hSw); go_simp; try (with_reducible rfl))
      case rest16 =>
      try simp only [Act.put, List.setIfInBounds_toArray, List.set_cons_zero, List.set_cons_succ]
      refine takeH (i := 8) (v := ?v17) rfl (by kernel_rfl) (by kernel_rfl) (by kernel_rfl) (fun _ _ _ h => h) (Or.inl ⟨by rfl, ?hy17⟩) (by assumption) ?rest17
      case hy17 => (intro w hSw; (try dsimp only at hSw); go_simp; try (with_reducible rfl))
      case rest17 =>
      try simp only [Act.put, List.setIfInBounds_toArray, List.set_cons_zero, List.set_cons_succ]
      refine takeH (i := 9) (v := ?v18) rfl (by kernel_rfl) (by kernel_rfl) (by kernel_rfl) (fun _ _ _ h => h) (Or.inl ⟨by rfl, ?hy18⟩) (by assumption) ?rest18
      case hy18 => (intro w hSw; (try dsimp only at hSw); go_simp; try (with_reducible rfl))
      case rest18 =>
      try simp only [Act.put, List.setIfInBounds_toArray, List.set_cons_zero, List.set_cons_succ]
      refine takeH (i := 11) (v := ?v19) rfl (by kernel_rfl) (by kernel_rfl) (by kernel_rfl) (fun _ _ _ h => h) (Or.inl ⟨by rfl, ?hy19⟩) (by assumption) ?rest19
      case hy19 => (intro w hSw; (try dsimp only at hSw); go_simp; try (with_reducible rfl))
      case rest19 =>
      try simp only [Act.put, List.setIfInBounds_toArray, List.set_cons_zero, List.set_cons_succ]
      refine wpAnyH_ready (rs := [10]) (by kernel_rfl) (by simp) ?_
      refine consH rfl (fun K hK => ?_) AllReadyH.nil
      go_simp
      go_at_call 22
      with_reducible refine (XM2.out _ _ HB9.out).mono ?_
      rintro _ wm ⟨rfl, hb⟩
      replace C9 := Hd.mk (Blk.belowW C9.out hb)
      replace B9 := Hd.mk (Blk.belowW B9.out hb)
      replace HB9 := Hd.mk (HB9.out.trans (hb.mono HB9.out.size))
      clear hb hHd XM2
      have hHd : (fun w' : World => w'.cell? ⟨g3, 0, none⟩ = some (.string m) ∧ w'.cell? ⟨g3, 1, none⟩ = some (.int .i64 (a : Int))) wm := ⟨C9.out.cell 0 rfl, C9.out.cell 1 rfl⟩
      go_simp
      refine hK.out _ _ hHd ?_
      clear hK K
      try simp only [Act.put, List.setIfInBounds_toArray, List.set_cons_zero, List.set_cons_succ]
      refine wpAnyH_ready (rs := [12]) (by kernel_rfl) (by simp) ?_
      refine consH rfl (fun K hK => ?_) AllReadyH.nil
      rw [if_pos (by first | rfl | (go_simp; done) | (go_simp; rfl))]
      refine store_step (ops := #[]) rfl rfl (g := g6) (cells := bufV q (backL q (a : Int))) (by first | rfl | (go_simp; done) | (go_simp; rfl)) (by first | rfl | (go_simp; done) | (go_simp; rfl)) B9.out infoBuf rfl (by simp [bufV, Value.oneCell']) ?_
      intro ws hx hk hz hb
      have BA := Hd.mk hx
      have CA := Hd.mk (show Blk ws g3 42 _ from (hk.2 g3 C9.out.lt HG6.out.2).trans C9.out)
      have HBA := Hd.mk (hb HB9.out HG6.out.1)
      clear hx hk hz hb hHd B9 C9 HB9
      have hHd : (fun w' : World => w'.cell? ⟨g3, 0, none⟩ = some (.string m) ∧ w'.cell? ⟨g3, 1, none⟩ = some (.int .i64 (a : Int))) ws := ⟨CA.out.cell 0 rfl, CA.out.cell 1 rfl⟩
      refine hK.out _ _ hHd ?_
      clear hK K
      try simp only [Act.put, List.setIfInBounds_toArray, List.set_cons_zero, List.set_cons_succ]
      refine takeH (i := 13) (v := ?v20) rfl (by kernel_rfl) (by kernel_rfl) (by kernel_rfl) (fun _ _ _ h => h) (Or.inl ⟨by rfl, ?hy20⟩) (by assumption) ?rest20
      case hy20 => (intro w hSw; (try dsimp only at hSw); go_simp; try (with_reducible rfl))
      case rest20 =>
      try simp only [Act.put, List.setIfInBounds_toArray, List.set_cons_zero, List.set_cons_succ]
      refine wpAnyH_done (by kernel_rfl) ?_ _
      refine hKQ _ _ ?_
      clear hHd
      go_wp2
      exact ret_row_tmp (cs := bufV q (backL q (a : Int))) (v := .string (m.extract f t)) rfl rfl Tryz.underlying42 infoBuf rfl BA.out rfl rfl ⟨by rw [HI.out], HBA.out⟩
end Go.Proofs.YtbhiljaipikklaaGreatDoorL

