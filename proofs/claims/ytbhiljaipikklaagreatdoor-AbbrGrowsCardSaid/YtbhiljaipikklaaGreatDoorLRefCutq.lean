/- Parts of the proof of the law that the last file states; declarations that nothing mentions are left out by a program. No conditions. -/
import Derived.Test.YtbhiljaipikklaaGreatDoorLRefCutPq
import Derived.Test.YtbhiljaipikklaaGreatDoorLRefPlain2q
set_option linter.unusedVariables false
set_option linter.unusedSimpArgs false
namespace Go.Proofs.YtbhiljaipikklaaGreatDoorL
open Go Go.RowKit Go.Lib Go.Proofs.YtbhiljaipikklaaGreatDoorW.PrintWords Go.Proofs.YtbhiljaipikklaaGreatDoor.R
theorem info_str : (Tryz.prog.info? 9).map (fun i => (i.zero, i.size, i.bytes)) = some (some (.string ⟨#[]⟩), 1, 16) := by kernel_rfl
theorem info_str1 : (Tryz.prog.info? 9).map (·.size) = some 1 := by kernel_rfl
theorem cell_step {P : Program} {o : Oper} {a : Act} {w : World} {K : Act → World → Prop} {Q : Exit → Act → World → Prop} {ty : TypeId} {x y : Operand} (ho : o.op = .store ty x y) (hd : o.dst = none) {g i : Nat} {u v : Value} (hx : a.eval x = .pointer (some ⟨g, i, none⟩)) (hy : a.eval y = v)
    (hc : w.cell? ⟨g, i, none⟩ = some u) (hf : w.frozen? ⟨g, i, none⟩ = false) (hs : (P.info? ty).map (·.size) = some 1) (h1 : v.oneCell' = true) (h : K a (w.setCell ⟨g, i, none⟩ v)) : Oper.wp P o a w K Q := by
  have hcs : v.cells = #[v] := by cases v <;> first | rfl | cases h1
  have hr : (storeVar ty ⟨g, i, none⟩ v).run P w = .ok () (w.setCell ⟨g, i, none⟩ v) := by
    cases hq : P.info? ty with
    | none => simp [hq] at hs
    | some ii =>
      have hs' : ii.size = 1 := by simpa [hq] using hs
      simp [storeVar, sizeOf, typeInfo, hq, hcs, hs', storeCells, Sem.run_bind, Addr.add]
      rw [run_store P _ _ v _ h1, hc]
      simp [hf]
  unfold Oper.wp execOp
  simp only [ho, hx, hy, Instr.storeAt, Instr.sureAddr, Sem.run_bind, Sem.run_pure, Result.andThen_ok, hr]
  show K (a.put o.dst undef) _
  rw [hd]
  exact h
theorem addC_last {i : List ByteArray} {c p : ByteArray} : addC 0 (i ++ [c]) p = i ++ [c ++ p] := by
  unfold addC
  rw [if_pos ⟨rfl, by simp⟩]
  simp
theorem addC_new {z : Int} {o : List ByteArray} {p : ByteArray} (h : z ≠ 0 ∨ o = []) : addC z o p = o ++ [p] := by
  unfold addC
  rw [if_neg (by rintro ⟨h1, h2⟩; rcases h with h | h; exact h h1; exact h2 h)]
theorem cutR_step (n : Nat) (out : List ByteArray) (s : ByteArray) : cutR (n + 1) out s = if s.size = 0 then out else cutR n (addC (ofR ((decodeL s.data.toList).1 : Int)) out (s.extract 0 (decodeL s.data.toList).2)) (s.extract (decodeL s.data.toList).2 s.size) := rfl
set_option maxRecDepth 100000 in
set_option maxHeartbeats 4000000 in
theorem rcut_calls (s : ByteArray) (hs : s.size ≤ 1000000) (w : World) :
    Calls Tryz.prog 93 #[.string s] w fun e w' => ∃ v, e = .returned v ∧ Kd.R Kd.string 9 w' w.heap.size (fun _ => True) v (cutR (s.size + 1) [] s) ∧ Below w.heap.size w w' := by
  obtain ⟨Rr, hR⟩ : ∃ r, cutR (s.size + 1) [] s = r := ⟨_, rfl⟩
  rw [hR]
  have HR := Hd.mk hR
  have HS := Hd.mk hs
  clear hR hs
  go_enter Tryz.func93, Tryz.ntmps93
  go_wp2
  go_loopg [0, 3] s.size (fun kq v0 v3 wx => ∃ (t : ByteArray) (o : List ByteArray), v0 = .string t ∧ Hd (cutR (kq + 1) o t = Rr) ∧ Hd (t.size ≤ kq) ∧ Hd (kq ≤ s.size) ∧ Hd (o.length + t.size ≤ s.size ∧ sumL o + t.size ≤ s.size) ∧ Hd (Kd.R Kd.string 9 wx w.heap.size (fun _ => True) v3 o) ∧ Hd (Below w.heap.size w wx))
  case atStart => exact ⟨s, [], rfl, HR, ⟨Nat.le_refl _⟩, ⟨Nat.le_refl _⟩, ⟨by simp [sumL]⟩, ⟨Kd.R_nil _ _ _ _ _⟩, ⟨Below.refl _ _⟩⟩
  case round =>
    obtain ⟨t, o, rfl, HC, HT, HK, HOL, HO, HB⟩ := hrel
    by_cases h0 : t.size = 0
    · have HE : Hd (o = Rr) := ⟨by have h1 := HC.out; rw [cutR_step, if_pos h0] at h1; exact h1⟩
      have hz : (t.size : Int) = 0 := by omega
      clear HC HT
      go_wp2
      go_ret
      exact ⟨_, rfl, by rw [← HE.out]; exact HO.out, HB.out⟩
    · obtain ⟨d, rfl⟩ : ∃ d, gk = d + 1 := ⟨gk - 1, by have := HT.out; omega⟩
      have hpos : (0 : Int) < (t.size : Int) := by omega
      have hposn : 0 < t.size := by omega
      have hne : t.data.toList ≠ [] := fun e => h0 (by rw [Lib.size_eq, e]; rfl)
      have htz : t.size ≤ 1000000 := by have h1 := HT.out; have h2 := HK.out; have h3 := HS.out; omega
      have HSZ : Hd (s.size ≤ 1000000) := HS
      have hle : (decodeL t.data.toList).2 ≤ t.size := by have := decodeL_le _ hne; rwa [← Lib.size_eq] at this
      have hwd := decodeL_width t.data.toList
      have XN := Hd.mk (fun (w1 : World) (hc : Kd.C (Kd.int .u8) w1 (some ⟨wr.heap.size, 0, none⟩) (nb t.data.toList).length (nb t.data.toList)) (hcap : (nb t.data.toList).length ≤ grownCap wr t.size 0 5) => souffleurref01_Next.calls 12 (some ⟨wr.heap.size, 0, none⟩) (grownCap wr t.size 0 5) (nb t.data.toList) _ _ w1 hc hcap (next_nb t.data.toList hne (by rw [← Lib.size_eq]; omega) 12 (Nat.le_refl _)))
      have hz : (nb t.data.toList).length = t.size := by rw [nb_length, ← Lib.size_eq]
      have HV := Hd.mk (Kd.V_reads' (bytes_V wr t (by omega) 0))
      have HC2 := Hd.mk (by have h1 := HC.out; rw [cutR_step, if_neg h0] at h1; exact h1)
      have HXS := Hd.mk (fun n (hn : n ≤ t.size) => (by rw [ByteArray.size_extract]; omega : (t.extract n t.size).size = t.size - n))
      rw [hz] at XN HV
      have HB1 := Hd.mk (HB.out.trans ((bytesW_below wr 5 t).mono HB.out.size))
      have HO1 := Hd.mk (Kd.R_below HO.out (bytesW_below wr 5 t))
      have hcv := fun W => Lib.run_convert_string_bytes (P := Tryz.prog) W 9 95 5 t Tryz.underlying9 Tryz.underlying95 Tryz.underlying5
      have XN2 := Hd.mk (XN.out _ HV.out.2.2 HV.out.2.1)
      clear XN HV HC HO HB hz
      generalize (decodeL t.data.toList).2 = n at *
      generalize (decodeL t.data.toList).1 = r at *
      go_wp2_with fail
      go_at_call 77
      with_reducible refine (XN2.out).mono ?_
      rintro _ w2 ⟨rfl, hb⟩
      have HB2' := Hd.mk (HB1.out.trans (hb.mono HB1.out.size))
      have HO2' := Hd.mk (Kd.R_below HO1.out hb)
      clear hb XN2 HB1 HO1 hcv
      have XOf := Hd.mk (fun w1 => souffleurref02_Of.calls 3 (r : Int) (ofR (r : Int)) w1 (of_tells (r : Int) 3 (Nat.le_refl _)))
      go_upto_region 4 with fail
      go_wp2_with fail
      go_at_call 110
      with_reducible refine (XOf.out _).mono ?_
      rintro _ w3 ⟨rfl, hof⟩
      have hbof : Below w2.heap.size w2 w3 := by
        obtain ⟨nq, rfl⟩ := hof
        exact pw_below_drewN (Below.refl _ _) nq
      have HB2 := Hd.mk (HB2'.out.trans (hbof.mono HB2'.out.size))
      have HO2 := Hd.mk (Kd.R_below HO2'.out hbof)
      clear XOf HB2' HO2' hbof hof
      have hn1 : n ≤ t.size := hle
      have hn2 : (n : Int) ≤ (t.size : Int) := by omega
      have hn3 : (0 : Int) ≤ (n : Int) := by omega
      have htz2 : (t.size : Int) ≤ 1000000 := by omega
      have HSX := Hd.mk (HXS.out n hle)
      have HHW := Hd.mk hwd
      by_cases hz : ofR (r : Int) = 0 ∧ o ≠ []
      · obtain ⟨i, c, rfl⟩ : ∃ i c, o = i ++ [c] := ⟨o.dropLast, o.getLast hz.2, (List.dropLast_concat_getLast hz.2).symm⟩
        have HC3 : Hd (cutR (d + 1) (i ++ [c ++ t.extract 0 n]) (t.extract n t.size) = Rr) := ⟨by have h1 := HC2.out; rw [hz.1, addC_last] at h1; exact h1⟩
        have e0 : ofR (r : Int) = 0 := hz.1
        rw [e0]
        clear hz HC2 e0
        obtain ⟨inner, hin⟩ := Kd.R_own HO2.out
        have hol : (i ++ [c]).length = i.length + 1 := by simp
        have hil : i.length ≤ 1000000 := by have h1 := HOL.out.1; have h2 := HSZ.out; omega
        rw [hol] at hin
        obtain ⟨g, cap, hv, hx1, hx2⟩ := World.ownsRow.form hin (by omega)
        subst hv
        clear hx1 hx2
        have hcell := Kd.R_celln (ByteArray.empty) HO2.out (i.length : Int) (by omega) (by omega)
        rw [Int.toNat_natCast, show rdOf ByteArray.empty (i ++ [c]) (i.length : Int) = c by unfold rdOf; simp] at hcell
        obtain ⟨y0, y1⟩ := hcell
        have hgN : Hd (w.heap.size ≤ g) := ⟨by have := Kd.R_base HO2.out g (by simp [Value.ownBlock]); exact this⟩
        have HI := Hd.mk hin
        have hlen0 : (0 : Int) < ((i.length : Nat) : Int) + 1 := by omega
        have hcz : c.size ≤ 1000000 := by
          have h1 := HOL.out.2
          have h2 := HSZ.out
          rw [sumL_snoc] at h1
          omega
        have hil2 : (i.length : Int) ≤ 1000000 := by omega
        have hil0 : (0 : Int) ≤ (i.length : Int) := Int.natCast_nonneg _
        have hil3 : (i.length : Int) < (i.length : Int) + 1 := by omega
        have hwr : IntKind.i64.wrap (i.length : Int) = (i.length : Int) := by rw [IntKind.wrap_i64]; omega
        have hcat : c.size + n ≤ 9223372036854775807 := by omega
        have hcat2 : ¬ 9223372036854775807 < c.size + n := by omega
        clear hin hol
        go_upto_region 5 with fail
        rename_i KQ hKQ
        refine regionK (fun w' : World => w'.cell? ⟨g, i.length, none⟩ = some (.string c)) 15 (by kernel_rfl) (fun wd hb => ?_)
        replace HO2 := Hd.mk (Kd.R_below HO2.out hb)
        replace HB2 := Hd.mk (HB2.out.trans (hb.mono HB2.out.size))
        have hHd : (fun w' : World => w'.cell? ⟨g, i.length, none⟩ = some (.string c)) wd := (hb.cell (World.block_lt_of_cell? _ _ y0)).trans y0
        clear hb y0 y1
        refine wpAnyK_take (i := 0) (v := ?v1) rfl (by kernel_rfl) (by kernel_rfl) (by kernel_rfl) (by kernel_rfl) (fun _ _ _ h => h) (Or.inl ⟨by rfl, ?hy1⟩) (by assumption) ?rest1
        case hy1 => (intro w hSw; (try dsimp only at hSw); go_simp; try (with_reducible rfl))
        case rest1 =>
        try simp only [Act.put, List.setIfInBounds_toArray, List.set_cons_zero, List.set_cons_succ]
        refine wpAnyK_take (i := 1) (v := ?v2) rfl (by kernel_rfl) (by kernel_rfl) (by kernel_rfl) (by kernel_rfl) (fun _ _ _ h => h) (Or.inl ⟨by rfl, ?hy2⟩) (by assumption) ?rest2
        case hy2 => (intro w hSw; (try dsimp only at hSw); go_simp; try (with_reducible rfl))
        case rest2 =>
        try simp only [Act.put, List.setIfInBounds_toArray, List.set_cons_zero, List.set_cons_succ]
        refine wpAnyK_take (i := 2) (v := ?v3) rfl (by kernel_rfl) (by kernel_rfl) (by kernel_rfl) (by kernel_rfl) (fun _ _ _ h => h) (Or.inl ⟨by rfl, ?hy3⟩) (by assumption) ?rest3
        case hy3 => (intro w hSw; (try dsimp only at hSw); go_simp; try (with_reducible rfl))
        case rest3 =>
        try simp only [Act.put, List.setIfInBounds_toArray, List.set_cons_zero, List.set_cons_succ]
        refine wpAnyK_take (i := 3) (v := ?v4) rfl (by kernel_rfl) (by kernel_rfl) (by kernel_rfl) (by kernel_rfl) (fun _ _ _ h => h) (Or.inl ⟨by rfl, ?hy4⟩) (by assumption) ?rest4
        case hy4 => (intro w hSw; (try dsimp only at hSw); go_simp; try (with_reducible rfl))
        case rest4 =>
        try simp only [Act.put, List.setIfInBounds_toArray, List.set_cons_zero, List.set_cons_succ]
        refine wpAnyK_take (i := 4) (v := ?v5) rfl (by kernel_rfl) (by kernel_rfl) (by kernel_rfl) (by kernel_rfl) (fun _ _ _ h => h) (Or.inl ⟨by rfl, ?hy5⟩) (by assumption) ?rest5
        case hy5 => (intro w hSw; (try dsimp only at hSw); go_simp; try (with_reducible rfl))
        case rest5 =>
        try simp only [Act.put, List.setIfInBounds_toArray, List.set_cons_zero, List.set_cons_succ]
        refine wpAnyK_take (i := 5) (v := ?v6) rfl (by kernel_rfl) (by kernel_rfl) (by kernel_rfl) (by kernel_rfl) (fun _ _ _ h => h) (Or.inl ⟨by rfl, ?hy6⟩) (by assumption) ?rest6
        case hy6 => (intro w hSw; (try dsimp only at hSw); go_simp; try (with_reducible rfl))
        case rest6 =>
        try simp only [Act.put, List.setIfInBounds_toArray, List.set_cons_zero, List.set_cons_succ]
        refine wpAnyK_take (i := 6) (v := ?v7) rfl (by kernel_rfl) (by kernel_rfl) (by kernel_rfl) (by kernel_rfl) (fun _ _ _ h => h) (Or.inl ⟨by rfl, ?hy7⟩) (by assumption) ?rest7
        case hy7 => (intro w hSw; (try dsimp only at hSw); go_simp; try (with_reducible rfl))
        case rest7 =>
        try simp only [Act.put, List.setIfInBounds_toArray, List.set_cons_zero, List.set_cons_succ]
        refine wpAnyK_take (i := 7) (v := ?v8) rfl (by kernel_rfl) (by kernel_rfl) (by kernel_rfl) (by kernel_rfl) (fun _ _ _ h => h) (Or.inl ⟨by rfl, ?hy8⟩) (by assumption) ?rest8
        case hy8 => (intro w hSw; (try dsimp only at hSw); go_simp; try (with_reducible rfl))
        case rest8 =>
        try simp only [Act.put, List.setIfInBounds_toArray, List.set_cons_zero, List.set_cons_succ]
        refine wpAnyK_take (i := 8) (v := ?v9) rfl (by kernel_rfl) (by kernel_rfl) (by kernel_rfl) (by kernel_rfl) (fun _ _ _ h => h) (Or.inl ⟨by rfl, ?hy9⟩) (by assumption) ?rest9
        case hy9 => (intro w hSw; (try dsimp only at hSw); go_simp; try (with_reducible rfl))
        case rest9 =>
        try simp only [Act.put, List.setIfInBounds_toArray, List.set_cons_zero, List.set_cons_succ]
        refine wpAnyK_take (i := 9) (v := ?v10) rfl (by kernel_rfl) (by kernel_rfl) (by kernel_rfl) (by kernel_rfl) (fun _ _ _ h => h) (Or.inl ⟨by rfl, ?hy10⟩) (by assumption) ?rest10
        case hy10 => (intro w hSw; (try dsimp only at hSw); go_simp; try (with_reducible rfl))
        case rest10 =>
        try simp only [Act.put, List.setIfInBounds_toArray, List.set_cons_zero, List.set_cons_succ]
        refine wpAnyK_take (i := 10) (v := ?v11) rfl (by kernel_rfl) (by kernel_rfl) (by kernel_rfl) (by kernel_rfl) (fun _ _ _ h => h) (Or.inl ⟨by rfl, ?hy11⟩) (by assumption) ?rest11
        case hy11 => (intro w hSw; (try dsimp only at hSw); go_simp; try (with_reducible rfl))
        case rest11 =>
        try simp only [Act.put, List.setIfInBounds_toArray, List.set_cons_zero, List.set_cons_succ]
        refine wpAnyK_take (i := 11) (v := ?v12) rfl (by kernel_rfl) (by kernel_rfl) (by kernel_rfl) (by kernel_rfl) (fun _ _ _ h => h) (Or.inl ⟨by rfl, ?hy12⟩) (by assumption) ?rest12
        case hy12 => (intro w hSw; (try dsimp only at hSw); go_simp; try (with_reducible rfl))
        case rest12 =>
        try simp only [Act.put, List.setIfInBounds_toArray, List.set_cons_zero, List.set_cons_succ]
        refine wpAnyK_take (i := 12) (v := ?v13) rfl (by kernel_rfl) (by kernel_rfl) (by kernel_rfl) (by kernel_rfl) (fun _ _ _ h => h) (Or.inl ⟨by rfl, ?hy13⟩) (by assumption) ?rest13
        case hy13 => (intro w hSw; (try dsimp only at hSw); go_simp; try (with_reducible rfl))
        case rest13 =>
        try simp only [Act.put, List.setIfInBounds_toArray, List.set_cons_zero, List.set_cons_succ]
        refine wpAnyK_take (i := 13) (v := ?v14) rfl (by kernel_rfl) (by kernel_rfl) (by kernel_rfl) (by kernel_rfl) (fun _ _ _ h => h) (Or.inl ⟨by rfl, ?hy14⟩) (by assumption) ?rest14
        case hy14 => (intro w hSw; (try dsimp only at hSw); go_simp; try (with_reducible rfl))
        case rest14 =>
        try simp only [Act.put, List.setIfInBounds_toArray, List.set_cons_zero, List.set_cons_succ]
        refine wpAnyK_take (i := 14) (v := ?v15) rfl (by kernel_rfl) (by kernel_rfl) (by kernel_rfl) (by kernel_rfl) (fun _ _ _ h => h) (Or.inl ⟨by rfl, ?hy15⟩) (by assumption) ?rest15
        case hy15 => (intro w hSw; (try dsimp only at hSw); go_simp; try (with_reducible rfl))
        case rest15 =>
        try simp only [Act.put, List.setIfInBounds_toArray, List.set_cons_zero, List.set_cons_succ]
        refine wpAnyK_ready (rs := [15]) (by kernel_rfl) (by simp) ?_
        refine AllReadyK.cons rfl (fun K hK => ?_) AllReadyK.nil
        rw [if_pos (by first | rfl | (go_simp; done) | (go_simp; rfl))]
        obtain ⟨y0, y1⟩ := Kd.R_celln (ByteArray.empty) HO2.out (i.length : Int) (by omega) (by omega)
        rw [Int.toNat_natCast] at y0 y1
        refine cell_step rfl rfl (g := g) (i := i.length) (v := .string (c ++ t.extract 0 n)) (by first | rfl | (go_simp; done) | (go_simp; rfl)) (by first | rfl | (go_simp; done) | (go_simp; rfl)) y0 y1 info_str1 rfl ?_
        have HO3 := Hd.mk (Kd.R_putn HO2.out (i.length : Int) (c ++ t.extract 0 n))
        rw [Int.toNat_natCast, show (i ++ [c]).set i.length (c ++ t.extract 0 n) = i ++ [c ++ t.extract 0 n] by simp] at HO3
        have HB3 := Hd.mk (HB2.out.setCell (p := ⟨g, i.length, none⟩) hgN.out (.string (c ++ t.extract 0 n)))
        clear hHd y0 y1 HO2 HB2
        refine hK.out _ _ (.inl (by kernel_rfl)) ?_
        clear hK K
        try simp only [Act.put, List.setIfInBounds_toArray, List.set_cons_zero, List.set_cons_succ]
        refine wpAnyK_done (by kernel_rfl) ?_ _
        refine hKQ _ _ ?_
        generalize wd.setCell ⟨g, i.length, none⟩ (.string (c ++ t.extract 0 n)) = wz at *
        go_wp2
        go_roundg d
        case measure => omega
        case rel => exact ⟨t.extract n t.size, i ++ [c ++ t.extract 0 n], rfl, HC3, ⟨by have h1 := HSX.out; have h2 := HT.out; have h3 := HHW.out; omega⟩, ⟨by have := HK.out; omega⟩, ⟨by have h1 := HOL.out; have h2 := HSX.out; have h3 := HHW.out; rw [sumL_snoc] at h1 ⊢; rw [ByteArray.size_append, ByteArray.size_extract]; simp at h1 ⊢; omega⟩, HO3, HB3⟩
      · have hz' : ofR (r : Int) ≠ 0 ∨ o = [] := by
          by_cases h1 : ofR (r : Int) = 0
          · right
            by_cases h2 : o = []
            · exact h2
            · exact absurd ⟨h1, h2⟩ hz
          · exact .inl h1
        have HC3 : Hd (cutR (d + 1) (o ++ [t.extract 0 n]) (t.extract n t.size) = Rr) := ⟨by have h1 := HC2.out; rw [addC_new hz'] at h1; exact h1⟩
        obtain ⟨A3, c3, hA3⟩ := Kd.R_slice HO2.out
        subst hA3
        have h2' : ((ofR (r : Int) == 0) = false ∧ decide (ofR (r : Int) = 0) = false) ∨ (ofR (r : Int) = 0 ∧ o.length = 0) := by
          rcases hz' with h | h
          · left; exact ⟨by rw [beq_eq_false_iff_ne]; exact h, decide_eq_false h⟩
          · by_cases h1 : ofR (r : Int) = 0
            · right; exact ⟨h1, by rw [h]; rfl⟩
            · left; exact ⟨by rw [beq_eq_false_iff_ne]; exact h1, decide_eq_false h1⟩
        clear hz hz' HC2
        have hol0 : (0 : Int) ≤ (o.length : Int) := Int.natCast_nonneg _
        rcases h2' with ⟨h1, h2⟩ | ⟨h1, h2⟩
        · generalize ofR (r : Int) = z at *
          go_wp2_with ((with_reducible refine gate_builtin (b := .append) (xs := #[.tmp 38, .tmp 42]) rfl ?_); at_builtin; refine Kd.R_append Kd.string (w0 := w) w.heap.size rfl (.tmp 38) (.tmp 42) 34 9 (.string ⟨#[]⟩) 16 rfl Tryz.underlying34 info_str rfl (by decide) (by omega) (.slice A3 o.length c3) o (t.extract 0 n) [.string (t.extract 0 n)] (fun _ => True) (fun _ => False) rfl rfl rfl (fun _ hk => hk.elim) (fun _ _ => trivial) HO2.out HB2.out HB2.out.size (by have h1 := HOL.out.1; have h2 := HSZ.out; omega) ?_; intro v1 wz ho_ hb_ hg_ ha_; have HO3 := Hd.mk ho_; have HB3 := Hd.mk hb_; clear ho_ hb_ hg_ ha_)
          go_wp2
          go_roundg d
          case measure => omega
          case rel => exact ⟨t.extract n t.size, o ++ [t.extract 0 n], rfl, HC3, ⟨by have h1 := HSX.out; have h2 := HT.out; have h3 := HHW.out; omega⟩, ⟨by have := HK.out; omega⟩, ⟨by have h1 := HOL.out; have h2 := HSX.out; have h3 := HHW.out; rw [sumL_snoc, ByteArray.size_extract]; simp at h1 ⊢; omega⟩, HO3, HB3⟩
        · rw [h1]
          have h3 : decide ((0 : Int) < (o.length : Int)) = false := decide_eq_false (by omega)
          have h4 : decide (0 < o.length) = false := decide_eq_false (by omega)
          clear h1
          have HZ := Hd.mk h2
          clear h2
          go_wp2_with ((with_reducible refine gate_builtin (b := .append) (xs := #[.tmp 38, .tmp 42]) rfl ?_); at_builtin; refine Kd.R_append Kd.string (w0 := w) w.heap.size rfl (.tmp 38) (.tmp 42) 34 9 (.string ⟨#[]⟩) 16 rfl Tryz.underlying34 info_str rfl (by decide) (by omega) (.slice A3 o.length c3) o (t.extract 0 n) [.string (t.extract 0 n)] (fun _ => True) (fun _ => False) rfl rfl rfl (fun _ hk => hk.elim) (fun _ _ => trivial) HO2.out HB2.out HB2.out.size (by have h1 := HOL.out.1; have h2 := HSZ.out; omega) ?_; intro v1 wz ho_ hb_ hg_ ha_; have HO3 := Hd.mk ho_; have HB3 := Hd.mk hb_; clear ho_ hb_ hg_ ha_)
          go_wp2
          go_roundg d
          case measure => omega
          case rel => exact ⟨t.extract n t.size, o ++ [t.extract 0 n], rfl, HC3, ⟨by have h1 := HSX.out; have h2 := HT.out; have h3 := HHW.out; omega⟩, ⟨by have := HK.out; omega⟩, ⟨by have h1 := HOL.out; have h2 := HSX.out; have h3 := HHW.out; rw [sumL_snoc, ByteArray.size_extract]; simp at h1 ⊢; omega⟩, HO3, HB3⟩
end Go.Proofs.YtbhiljaipikklaaGreatDoorL

