/- Parts of the proof of the law that the last file states; declarations that nothing mentions are left out by a program. No conditions. -/
import Derived.Test.YtbhiljaipikklaaGreatDoorLRefGrow2q
import Derived.Test.YtbhiljaipikklaaGreatDoorLText2q
set_option linter.unusedVariables false
set_option linter.unusedSimpArgs false
namespace Go.Proofs.YtbhiljaipikklaaGreatDoorL
open Go Go.RowKit Go.Proofs.YtbhiljaipikklaaGreatDoorW.PrintWords
theorem natCells_get {l : List Nat} {j : Nat} (h : j < l.length) : (natCells l)[j]? = some (.int .i64 ((natI l).getD j 0)) := by
  unfold natCells natI
  simp [List.getElem?_map, List.getElem?_eq_getElem h]
theorem natI_has {l : List Nat} {a : Nat} (h : a ∈ l) : ((natI l).take l.length).contains (a : Int) = true := by
  rw [List.take_of_length_le (by rw [natI_len]; exact Nat.le_refl _)]
  simp only [List.contains_iff_mem]
  exact List.mem_map.2 ⟨a, h, rfl⟩
set_option maxRecDepth 100000 in
set_option maxHeartbeats 2000000 in
theorem right_calls (s : ByteArray) (a : Nat) (hp : plainS s = s) (h6 : s.size ≤ 600) (ha : a ∈ boundsL s) (w : World) (hT : Lib.Utf8Tabs 0 1 w) :
    Calls Tryz.prog 15 #[.agg #[.string s, .int .i64 (a : Int)]] w fun e w' => e = .returned (.bool true) ∧ Below w.heap.size w w' := by
  have XP := Hd.mk (fun w1 (hb : Below w.heap.size w w1) => plain_calls s (by omega) w1 (Utf8Tabs_below hT hb))
  have HPS : Hd ((⟨(plainL s.data.toList).toArray⟩ : ByteArray) = s) := ⟨hp⟩
  rw [HPS.out] at XP
  have XB := Hd.mk (fun w1 => bounds_calls s (by omega) w1)
  have HA := Hd.mk (natI_has ha)
  have HZ := Hd.mk (boundsL_pos s)
  have HL : Hd ((boundsL s).length ≤ 602) := ⟨by have := boundsL_len s; omega⟩
  have hs1 : (s.size : Int) ≤ 600 := by omega
  have hs2 : decide ((s.size : Int) ≤ 600) = true := decide_eq_true hs1
  have hs3 : decide (s.size ≤ 600) = true := decide_eq_true h6
  generalize boundsL s = l at *
  clear hp ha hT HPS
  go_enter Tryz.func15, Tryz.ntmps15
  go_upto_region 1 with (first
    | ((with_reducible refine gate_dst (N := 1) rfl ?_); refine box_event ?hg (N := 1) ?hd (cs := #[.string s, .int .i64 (a : Int)]) (t := 42) ?hr ?_; (case hd => rfl); (case hg => rfl); (case hr => first | (go_simp; done) | (go_simp; rfl)); intro g1 hg wg1 hx hb; have Bg := Hd.mk (show Blk wg1 g1 42 #[.string s, .int .i64 (a : Int)] from hx); have HB := Hd.mk hb; clear hx hb hg))
  rename_i KQ hKQ
  refine regionH (fun w' : World => w'.cell? ⟨g1, 0, none⟩ = some (.string s) ∧ w'.cell? ⟨g1, 1, none⟩ = some (.int .i64 (a : Int))) (by kernel_rfl) (fun wd hb => ?_)
  replace HB := Hd.mk (HB.out.trans (hb.mono HB.out.size))
  replace Bg := Hd.mk (Blk.belowW Bg.out hb)
  have hHd : (fun w' : World => w'.cell? ⟨g1, 0, none⟩ = some (.string s) ∧ w'.cell? ⟨g1, 1, none⟩ = some (.int .i64 (a : Int))) wd := ⟨Bg.out.cell 0 rfl, Bg.out.cell 1 rfl⟩
  clear hb
  refine takeH (i := 0) (v := ?v1) rfl (by kernel_rfl) (by kernel_rfl) (by kernel_rfl) (fun _ _ _ h => h) (Or.inl ⟨by rfl, ?hy1⟩) (by assumption) ?rest1
  case hy1 => (intro w hSw; (try dsimp only at hSw); go_simp; try (with_reducible rfl))
  case rest1 =>
  try simp only [Act.put, List.setIfInBounds_toArray, List.set_cons_zero, List.set_cons_succ]
  refine takeH (i := 1) (v := ?v2) rfl (by kernel_rfl) (by kernel_rfl) (by kernel_rfl) (fun _ _ _ h => h) (Or.inl ⟨by rfl, ?hy2⟩) (by assumption) ?rest2
  case hy2 => (intro w hSw; (try dsimp only at hSw); go_simp; try (with_reducible rfl))
  case rest2 =>
  try simp only [Act.put, List.setIfInBounds_toArray, List.set_cons_zero, List.set_cons_succ]
  refine takeH (i := 3) (v := ?v3) rfl (by kernel_rfl) (by kernel_rfl) (by kernel_rfl) (fun _ _ _ h => h) (Or.inl ⟨by rfl, ?hy3⟩) (by assumption) ?rest3
  case hy3 => (intro w hSw; (try dsimp only at hSw); go_simp; try (with_reducible rfl))
  case rest3 =>
  try simp only [Act.put, List.setIfInBounds_toArray, List.set_cons_zero, List.set_cons_succ]
  refine takeH (i := 4) (v := ?v4) rfl (by kernel_rfl) (by kernel_rfl) (by kernel_rfl) (fun _ _ _ h => h) (Or.inl ⟨by rfl, ?hy4⟩) (by assumption) ?rest4
  case hy4 => (intro w hSw; (try dsimp only at hSw); go_simp; try (with_reducible rfl))
  case rest4 =>
  try simp only [Act.put, List.setIfInBounds_toArray, List.set_cons_zero, List.set_cons_succ]
  refine wpAnyH_ready (rs := [2]) (by kernel_rfl) (by simp) ?_
  refine consH rfl (fun K hK => ?_) AllReadyH.nil
  go_simp
  go_at_call 33
  with_reducible refine (XP.out _ HB.out).mono ?_
  rintro _ wq2 ⟨rfl, hb⟩
  replace HB := Hd.mk (HB.out.trans (hb.mono HB.out.size))
  replace Bg := Hd.mk (Blk.belowW Bg.out hb)
  clear XP
  clear hb hHd
  have hHd : (fun w' : World => w'.cell? ⟨g1, 0, none⟩ = some (.string s) ∧ w'.cell? ⟨g1, 1, none⟩ = some (.int .i64 (a : Int))) wq2 := ⟨Bg.out.cell 0 rfl, Bg.out.cell 1 rfl⟩
  go_simp
  refine hK.out _ _ hHd ?_
  clear hK K
  try simp only [Act.put, List.setIfInBounds_toArray, List.set_cons_zero, List.set_cons_succ]
  refine takeH (i := 5) (v := ?v5) rfl (by kernel_rfl) (by kernel_rfl) (by kernel_rfl) (fun _ _ _ h => h) (Or.inl ⟨by rfl, ?hy5⟩) (by assumption) ?rest5
  case hy5 => (intro w hSw; (try dsimp only at hSw); go_simp; try (with_reducible rfl))
  case rest5 =>
  try simp only [Act.put, List.setIfInBounds_toArray, List.set_cons_zero, List.set_cons_succ]
  refine takeH (i := 6) (v := ?v6) rfl (by kernel_rfl) (by kernel_rfl) (by kernel_rfl) (fun _ _ _ h => h) (Or.inl ⟨by rfl, ?hy6⟩) (by assumption) ?rest6
  case hy6 => (intro w hSw; (try dsimp only at hSw); go_simp; try (with_reducible rfl))
  case rest6 =>
  try simp only [Act.put, List.setIfInBounds_toArray, List.set_cons_zero, List.set_cons_succ]
  refine takeH (i := 7) (v := ?v7) rfl (by kernel_rfl) (by kernel_rfl) (by kernel_rfl) (fun _ _ _ h => h) (Or.inl ⟨by rfl, ?hy7⟩) (by assumption) ?rest7
  case hy7 => (intro w hSw; (try dsimp only at hSw); go_simp; try (with_reducible rfl))
  case rest7 =>
  try simp only [Act.put, List.setIfInBounds_toArray, List.set_cons_zero, List.set_cons_succ]
  refine takeH (i := 8) (v := ?v8) rfl (by kernel_rfl) (by kernel_rfl) (by kernel_rfl) (fun _ _ _ h => h) (Or.inl ⟨by rfl, ?hy8⟩) (by assumption) ?rest8
  case hy8 => (intro w hSw; (try dsimp only at hSw); go_simp; try (with_reducible rfl))
  case rest8 =>
  try simp only [Act.put, List.setIfInBounds_toArray, List.set_cons_zero, List.set_cons_succ]
  refine takeH (i := 9) (v := ?v9) rfl (by kernel_rfl) (by kernel_rfl) (by kernel_rfl) (fun _ _ _ h => h) (Or.inl ⟨by rfl, ?hy9⟩) (by assumption) ?rest9
  case hy9 => (intro w hSw; (try dsimp only at hSw); go_simp; try (with_reducible rfl))
  case rest9 =>
  try simp only [Act.put, List.setIfInBounds_toArray, List.set_cons_zero, List.set_cons_succ]
  refine takeH (i := 10) (v := ?v10) rfl (by kernel_rfl) (by kernel_rfl) (by kernel_rfl) (fun _ _ _ h => h) (Or.inl ⟨by rfl, ?hy10⟩) (by assumption) ?rest10
  case hy10 => (intro w hSw; (try dsimp only at hSw); go_simp; try (with_reducible rfl))
  case rest10 =>
  try simp only [Act.put, List.setIfInBounds_toArray, List.set_cons_zero, List.set_cons_succ]
  refine takeH (i := 11) (v := ?v11) rfl (by kernel_rfl) (by kernel_rfl) (by kernel_rfl) (fun _ _ _ h => h) (Or.inl ⟨by rfl, ?hy11⟩) (by assumption) ?rest11
  case hy11 => (intro w hSw; (try dsimp only at hSw); go_simp; try (with_reducible rfl))
  case rest11 =>
  try simp only [Act.put, List.setIfInBounds_toArray, List.set_cons_zero, List.set_cons_succ]
  refine takeH (i := 12) (v := ?v12) rfl (by kernel_rfl) (by kernel_rfl) (by kernel_rfl) (fun _ _ _ h => h) (Or.inl ⟨by rfl, ?hy12⟩) (by assumption) ?rest12
  case hy12 => (intro w hSw; (try dsimp only at hSw); go_simp; try (with_reducible rfl))
  case rest12 =>
  try simp only [Act.put, List.setIfInBounds_toArray, List.set_cons_zero, List.set_cons_succ]
  refine takeH (i := 13) (v := ?v13) rfl (by kernel_rfl) (by kernel_rfl) (by kernel_rfl) (fun _ _ _ h => h) (Or.inl ⟨by rfl, ?hy13⟩) (by assumption) ?rest13
  case hy13 => (intro w hSw; (try dsimp only at hSw); go_simp; try (with_reducible rfl))
  case rest13 =>
  try simp only [Act.put, List.setIfInBounds_toArray, List.set_cons_zero, List.set_cons_succ]
  refine takeH (i := 14) (v := ?v14) rfl (by kernel_rfl) (by kernel_rfl) (by kernel_rfl) (fun _ _ _ h => h) (Or.inl ⟨by rfl, ?hy14⟩) (by assumption) ?rest14
  case hy14 => (intro w hSw; (try dsimp only at hSw); go_simp; try (with_reducible rfl))
  case rest14 =>
  try simp only [Act.put, List.setIfInBounds_toArray, List.set_cons_zero, List.set_cons_succ]
  refine takeH (i := 16) (v := ?v15) rfl (by kernel_rfl) (by kernel_rfl) (by kernel_rfl) (fun _ _ _ h => h) (Or.inl ⟨by rfl, ?hy15⟩) (by assumption) ?rest15
  case hy15 => (intro w hSw; (try dsimp only at hSw); go_simp; try (with_reducible rfl))
  case rest15 =>
  try simp only [Act.put, List.setIfInBounds_toArray, List.set_cons_zero, List.set_cons_succ]
  refine takeH (i := 17) (v := ?v16) rfl (by kernel_rfl) (by kernel_rfl) (by kernel_rfl) (fun _ _ _ h => h) (Or.inl ⟨by rfl, ?hy16⟩) (by assumption) ?rest16
  case hy16 => (intro w hSw; (try dsimp only at hSw); go_simp; try (with_reducible rfl))
  case rest16 =>
  try simp only [Act.put, List.setIfInBounds_toArray, List.set_cons_zero, List.set_cons_succ]
  refine wpAnyH_ready (rs := [15]) (by kernel_rfl) (by simp) ?_
  refine consH rfl (fun K hK => ?_) AllReadyH.nil
  go_simp
  go_at_call 35
  with_reducible refine (XB.out _).mono ?_
  rintro _ wq15 ⟨v, rfl, hown, hb⟩
  replace HB := Hd.mk (HB.out.trans (hb.mono HB.out.size))
  replace Bg := Hd.mk (Blk.belowW Bg.out hb)
  obtain ⟨g, cap, rfl, _, _⟩ := World.ownsRow.form hown HZ.out
  have XC := Hd.mk (Tryz.slices_Contains_int g 0 l.length cap (natI l) (a : Int) wq15 (by rw [natI_len]; exact Nat.le_refl _) (by have := HL.out; omega) (fun j hj => by rw [natI_len] at hj; rw [Nat.zero_add, World.ownsRow.cellAt hown j (by omega), natCells_get hj]))
  rw [HA.out] at XC
  clear hown XB
  clear hb hHd
  have hHd : (fun w' : World => w'.cell? ⟨g1, 0, none⟩ = some (.string s) ∧ w'.cell? ⟨g1, 1, none⟩ = some (.int .i64 (a : Int))) wq15 := ⟨Bg.out.cell 0 rfl, Bg.out.cell 1 rfl⟩
  go_simp
  refine hK.out _ _ hHd ?_
  clear hK K
  try simp only [Act.put, List.setIfInBounds_toArray, List.set_cons_zero, List.set_cons_succ]
  refine wpAnyH_ready (rs := [18]) (by kernel_rfl) (by simp) ?_
  refine consH rfl (fun K hK => ?_) AllReadyH.nil
  go_simp
  go_at_call 34
  with_reducible refine (XC.out).mono ?_
  rintro _ wz ⟨rfl, rfl⟩
  go_simp
  refine hK.out _ _ hHd ?_
  clear hK K
  try simp only [Act.put, List.setIfInBounds_toArray, List.set_cons_zero, List.set_cons_succ]
  refine takeH (i := 19) (v := ?v17) rfl (by kernel_rfl) (by kernel_rfl) (by kernel_rfl) (fun _ _ _ h => h) (Or.inl ⟨by rfl, ?hy17⟩) (by assumption) ?rest17
  case hy17 => (intro w hSw; (try dsimp only at hSw); go_simp; try (with_reducible rfl))
  case rest17 =>
  try simp only [Act.put, List.setIfInBounds_toArray, List.set_cons_zero, List.set_cons_succ]
  refine takeH (i := 20) (v := ?v18) rfl (by kernel_rfl) (by kernel_rfl) (by kernel_rfl) (fun _ _ _ h => h) (Or.inl ⟨by rfl, ?hy18⟩) (by assumption) ?rest18
  case hy18 => (intro w hSw; (try dsimp only at hSw); go_simp; try (with_reducible rfl))
  case rest18 =>
  try simp only [Act.put, List.setIfInBounds_toArray, List.set_cons_zero, List.set_cons_succ]
  refine wpAnyH_done (by kernel_rfl) ?_ _
  refine hKQ _ _ ?_
  clear hHd
  go_wp2
  go_ret
  exact ⟨rfl, HB.out⟩
end Go.Proofs.YtbhiljaipikklaaGreatDoorL

