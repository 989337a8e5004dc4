/- Parts of the proof of the law that the last file states; declarations that nothing mentions are left out by a program. No conditions. -/
import Derived.Test.YtbhiljaipikklaaGreatDoorLRefSetq
import Derived.Test.YtbhiljaipikklaaGreatDoorLScriptq
import Derived.Test.YtbhiljaipikklaaGreatDoorLText2q
set_option linter.unusedVariables false
set_option linter.unusedSimpArgs false
namespace Go.Proofs.YtbhiljaipikklaaGreatDoorL
open Go Go.RowKit Go.MapKept Go.Proofs.YtbhiljaipikklaaGreatDoorW.PrintWords Go.Proofs.YtbhiljaipikklaaGreatDoor.R
def PrI (P Q : Nat → Prop) (B : Nat) (w : World) (T : Nat) (v : Value) (tt : List (ByteArray × ByteArray)) (l : List RP) : Prop :=
  TS P w T tt ∧ Kd.V k37 37 w 0 Q v l ∧ (∀ k, Q k → ¬ P k) ∧ Rel tt l ∧ (∀ k, P k → B ≤ k) ∧ ∀ k, Q k → B ≤ k
def Pr (B : Nat) (w : World) (T : Nat) (v : Value) (tt : List (ByteArray × ByteArray)) (l : List RP) : Prop := ∃ P Q, PrI P Q B w T v tt l
section
variable {B : Nat} {w w' : World} {T : Nat} {v : Value} {tt : List (ByteArray × ByteArray)} {l : List RP} {P Q : Nat → Prop}
theorem PrI.below (h : PrI P Q B w T v tt l) (hb : Below w.heap.size w w') : PrI P Q B w' T v tt l := by
  obtain ⟨h1, h2, h3⟩ := h
  exact ⟨h1.below hb, Kd.V_below h2 hb, h3⟩
theorem Pr.below (h : Pr B w T v tt l) (hb : Below w.heap.size w w') : Pr B w' T v tt l := by
  obtain ⟨P, Q, h⟩ := h
  exact ⟨P, Q, h.below hb⟩
theorem PrI.bound (h : PrI P Q B w T v tt l) : PrI (fun k => P k ∧ k < w.heap.size) (fun k => Q k ∧ k < w.heap.size) B w T v tt l := by
  obtain ⟨h1, h2, h3, h4, h5, h6⟩ := h
  exact ⟨h1.bound, Kd.V_bound h2, fun k hk hp => h3 k hk.1 hp.1, h4, fun k hk => h5 k hk.1, fun k hk => h6 k hk.1⟩
theorem Pr.well (h : Pr B w T v tt l) : WellT tt ∧ Rel tt l ∧ l.length ≤ 16 := by
  obtain ⟨P, Q, h1, h2, h3, h4, _⟩ := h
  exact ⟨h1.1, h4, by rw [h4.length]; exact h1.1.2.1⟩
theorem Pr.start (hB : Blk w T 27 #[.map none]) (hT : B ≤ T) : Pr B w T (.slice none 0 0) [] [] :=
  ⟨fun k => k = T, fun _ => False, TS.new hB rfl, Kd.V_nil _ _ _ _ _, fun _ h => h.elim, Rel.nil, fun k hk => hk ▸ hT, fun _ h => h.elim⟩
theorem Pr.value (h : Pr B w T v tt l) : ∃ A c, v = .slice A l.length c ∧ l.length ≤ c ∧ Kd.C k37 w A l.length l := by
  obtain ⟨P, Q, h1, h2, _⟩ := h
  obtain ⟨A, c, rfl, hc, hF⟩ := h2
  exact ⟨A, c, rfl, hc, Kd.F_now hF⟩
theorem Pr.ts (h : Pr B w T v tt l) : ∃ P, TS P w T tt := by
  obtain ⟨P, Q, h1, _⟩ := h
  exact ⟨P, h1⟩
end
theorem KB.of_below {w w' : World} {T : Nat} (hb : Below w.heap.size w w') : KB w T w' := fun g t cs hB _ => Blk.belowW hB hb
theorem KB.trans {w w1 w' : World} {T : Nat} (h : KB w T w1) (k : KB w1 T w') : KB w T w' := fun g t cs hB hne => k g t cs (h g t cs hB hne) hne
theorem below_of_only {B : Nat} {W w w' : World} {F : Nat → Prop} (h : Below B W w) (ho : Only F w w') (hF : ∀ k, F k → B ≤ k) (hB : B ≤ w.heap.size) : Below B W w' := h.trans (ho.to_below hF hB)
abbrev opV (o : Go.Proofs.YtbhiljaipikklaaGreatDoor.K.S30) : Value := .agg #[.int .i64 o.f0, .string o.f1, .string o.f2]
def DoesPost (B : Nat) (w : World) (T : Nat) (e : Ending) (w' : World) : Prop := ∃ v' tt' l', e = .returned (.tuple #[v', .bool true]) ∧ Pr B w' T v' tt' l' ∧ KB w T w' ∧ Below B w w'
set_option maxRecDepth 100000 in
set_option maxHeartbeats 4000000 in
theorem does_calls {B : Nat} {w : World} {T : Nat} {v : Value} {tt : List (ByteArray × ByteArray)} {l : List RP} (h : Pr B w T v tt l) (hB : B ≤ w.heap.size) (o : Go.Proofs.YtbhiljaipikklaaGreatDoor.K.S30) (hs : o.f1.size ≤ 4294967296) (ht : o.f2.size ≤ 4294967296) (hT : Lib.Utf8Tabs 0 1 w) :
    Calls Tryz.prog 8 #[.pointer (some ⟨T, 0, none⟩), v, opV o] w fun e w' => DoesPost B w T e w' := by
  obtain ⟨n, s, t⟩ := o
  dsimp only [opV] at hs ht ⊢
  have HW := Hd.mk h.well
  obtain ⟨P, Q, h0⟩ := h
  obtain ⟨A, c, rfl⟩ := Kd.V_slice h0.2.1
  have H0 := Hd.mk h0.bound
  have HTT := Hd.mk hT
  have HS := Hd.mk hs
  have HT2 := Hd.mk ht
  have HBB := Hd.mk hB
  clear h0 hT hs ht hB
  go_enter Tryz.func8, Tryz.ntmps8
  go_upto_region 1 with (first
    | ((with_reducible refine gate_dst (N := 5) rfl ?_); refine box_event ?hg (N := 5) ?hd (cs := #[.int .i64 n, .string s, .string t]) (t := 30) ?hr ?_; (case hd => rfl); (case hg => rfl); (case hr => first | (go_simp; done) | (go_simp; rfl)); intro g5 hg wg5 hx hb; have Bg5 := Hd.mk (show Blk wg5 g5 30 #[.int .i64 n, .string s, .string t] from hx); have HG5 : Hd (g5 = w.heap.size) := ⟨hg⟩; have HB := Hd.mk hb; clear hx hb hg))
  have H1 := Hd.mk (H0.out.below HB.out)
  have hn0 := Bg5.out.cell 0 rfl
  have hn1 := Bg5.out.cell 1 rfl
  have hn2 := Bg5.out.cell 2 rfl
  go_wp2_with fail
  go_at_call 13
  have XG := souffleurref08_Get.calls (l.length + 1) A c l s (getP s (l.map toP)).1 (getP s (l.map toP)).2 wg5 (Kd.V_reads' H1.out.2.1).2.2 (Kd.V_reads' H1.out.2.1).2.1 (get_tells (by have := HW.out.2.2; omega) s)
  rw [HW.out.2.1.get HW.out.1 s] at XG
  with_reducible refine XG.mono ?_
  clear XG
  rintro _ wq ⟨rfl, nq, rfl⟩
  have HBq := Hd.mk (pw_below_drewN HB.out nq)
  replace H1 := Hd.mk (H1.out.below (pw_below_drewN (Below.refl _ _) nq))
  replace Bg5 := Hd.mk (Bg5.out.drewN nq)
  clear hn0 hn1 hn2 HB
  generalize World.drewN wg5 nq = w1 at *
  have HSZ : Hd (w.heap.size ≤ w1.heap.size) := ⟨HBq.out.size⟩
  have hn0 := Bg5.out.cell 0 rfl
  have hn1 := Bg5.out.cell 1 rfl
  have hn2 := Bg5.out.cell 2 rfl
  have HGT : Hd (g5 ≠ T) := ⟨fun e => by have h1 := H0.out.1.lt; have h2 := HG5.out; omega⟩
  by_cases k0 : n = 0
  · have q1 : (n == 0) = true := by rw [k0]; rfl
    have q2 : decide (n = 0) = true := decide_eq_true k0
    clear k0
    go_upto_region 4 with fail
    go_wp2_with fail
    go_at_call 18
    have XR := rset_calls (base' := 0) H1.out.2.1 (by have := HW.out.2.2; omega) s t HS.out HT2.out
    with_reducible refine XR.mono ?_
    clear XR
    rintro _ w2 ⟨vr, rfl, hv, hb⟩
    have HV2 := Hd.mk (Kd.V_bound hv)
    have HTS := Hd.mk (H1.out.1.below hb)
    have HB2 := Hd.mk (HBq.out.trans (hb.mono HBq.out.size))
    replace Bg5 := Hd.mk (Blk.belowW Bg5.out hb)
    have HZ2 : Hd (w1.heap.size ≤ w2.heap.size) := ⟨hb.size⟩
    have HSR := Hd.mk (HW.out.2.1.set HW.out.1 s t)
    clear hv hb hn0 hn1 hn2
    have hn0 := Bg5.out.cell 0 rfl
    have hn1 := Bg5.out.cell 1 rfl
    have hn2 := Bg5.out.cell 2 rfl
    have HCODE : Hd ((setR s t l).1 = (setP s t tt).1) := ⟨HSR.out.1⟩
    go_wp2_with fail
    go_at_call 16
    have XS := set_ts (P := fun k => (P k ∧ k < w.heap.size) ∨ w2.heap.size ≤ k) (HTS.out.mono (fun k hk => .inl hk)) (fun k hk => .inr hk) s t HS.out HT2.out (Utf8Tabs_below HTT.out HB2.out)
    rw [← HCODE.out] at XS
    with_reducible refine XS.mono ?_
    clear XS
    rintro _ w3 ⟨rfl, hts, ho, hkb⟩
    have HP3 : Hd (Pr B w3 T vr (setP s t tt).2 (setR s t l).2) := ⟨_, _, hts, Kd.V_step HV2.out (fun k hk hlt => ho.block k hlt (fun e => by
        rcases e with e | e
        · rcases hk.1 with hk1 | hk1
          · exact H0.out.2.2.1 k hk1 e
          · have h1 := e.2; have h2 := HSZ.out; omega
        · omega)), fun k hk e => by
        rcases e with e | e
        · rcases hk.1 with hk1 | hk1
          · exact H0.out.2.2.1 k hk1 e
          · have h1 := e.2; have h2 := HSZ.out; omega
        · have h1 := hk.2; omega, HSR.out.2, fun k hk => by
        rcases hk with hk | hk
        · exact H0.out.2.2.2.2.1 k hk
        · have h1 := HBB.out; have h2 := HSZ.out; have h3 := HZ2.out; omega, fun k hk => by
        rcases hk.1 with hk1 | hk1
        · exact H0.out.2.2.2.2.2 k hk1
        · have h1 := HBB.out; have h2 := HSZ.out; omega⟩
    have HK3 : Hd (KB w T w3) := ⟨(KB.of_below HB2.out).trans hkb⟩
    have HB3 : Hd (Below B w w3) := ⟨below_of_only (HB2.out.mono HBB.out) ho (fun k hk => by
        rcases hk with hk | hk
        · exact H0.out.2.2.2.2.1 k hk
        · have h1 := HBB.out; have h2 := HSZ.out; have h3 := HZ2.out; omega) (by have h1 := HBB.out; have h2 := HSZ.out; have h3 := HZ2.out; omega)⟩
    clear hts ho hkb hn0 hn1 hn2
    generalize (setR s t l).1 = cd at *
    go_wp2
    go_ret2
    exact ⟨_, _, _, rfl, HP3.out, HK3.out, HB3.out⟩
  · have q1 : (n == 0) = false := by rw [beq_eq_false_iff_ne]; exact k0
    have q2 : decide (n = 0) = false := decide_eq_false k0
    by_cases k1 : n = 1
    · have q3 : (n == 1) = true := by rw [k1]; rfl
      have q4 : decide (n = 1) = true := decide_eq_true k1
      clear k0 k1
      go_upto_region 7 with fail
      rename_i KQ hKQ
      refine regionH (fun w' : World => w'.cell? ⟨g5, 1, none⟩ = some (.string s)) (by kernel_rfl) (fun wd hb => ?_)
      replace H1 := Hd.mk (H1.out.below hb)
      replace HBq := Hd.mk (HBq.out.trans (hb.mono HBq.out.size))
      replace Bg5 := Hd.mk (Blk.belowW Bg5.out hb)
      replace HSZ : Hd (w.heap.size ≤ wd.heap.size) := ⟨Nat.le_trans HSZ.out hb.size⟩
      clear hb hn0 hn1 hn2
      have hHd : (fun w' : World => w'.cell? ⟨g5, 1, none⟩ = some (.string s)) wd := Bg5.out.cell 1 rfl
      refine takeH (i := 0) (v := ?v1) rfl (by kernel_rfl) (by kernel_rfl) (by kernel_rfl) (fun _ _ _ h => h) (Or.inl ⟨by rfl, ?hy1⟩) (by assumption) ?rest1
      case hy1 => (intro w hSw; (try dsimp only at hSw); go_simp; try (with_reducible rfl))
      case rest1 =>
      try simp only [Act.put, List.setIfInBounds_toArray, List.set_cons_zero, List.set_cons_succ]
      refine takeH (i := 1) (v := ?v2) rfl (by kernel_rfl) (by kernel_rfl) (by kernel_rfl) (fun _ _ _ h => h) (Or.inl ⟨by rfl, ?hy2⟩) (by assumption) ?rest2
      case hy2 => (intro w hSw; (try dsimp only at hSw); go_simp; try (with_reducible rfl))
      case rest2 =>
      try simp only [Act.put, List.setIfInBounds_toArray, List.set_cons_zero, List.set_cons_succ]
      refine takeH (i := 2) (v := ?v3) rfl (by kernel_rfl) (by kernel_rfl) (by kernel_rfl) (fun _ _ _ h => h) (Or.inl ⟨by rfl, ?hy3⟩) (by assumption) ?rest3
      case hy3 => (intro w hSw; (try dsimp only at hSw); go_simp; try (with_reducible rfl))
      case rest3 =>
      try simp only [Act.put, List.setIfInBounds_toArray, List.set_cons_zero, List.set_cons_succ]
      refine takeH (i := 4) (v := ?v4) rfl (by kernel_rfl) (by kernel_rfl) (by kernel_rfl) (fun _ _ _ h => h) (Or.inl ⟨by rfl, ?hy4⟩) (by assumption) ?rest4
      case hy4 => (intro w hSw; (try dsimp only at hSw); go_simp; try (with_reducible rfl))
      case rest4 =>
      try simp only [Act.put, List.setIfInBounds_toArray, List.set_cons_zero, List.set_cons_succ]
      refine takeH (i := 5) (v := ?v5) rfl (by kernel_rfl) (by kernel_rfl) (by kernel_rfl) (fun _ _ _ h => h) (Or.inl ⟨by rfl, ?hy5⟩) (by assumption) ?rest5
      case hy5 => (intro w hSw; (try dsimp only at hSw); go_simp; try (with_reducible rfl))
      case rest5 =>
      try simp only [Act.put, List.setIfInBounds_toArray, List.set_cons_zero, List.set_cons_succ]
      refine takeH (i := 6) (v := ?v6) rfl (by kernel_rfl) (by kernel_rfl) (by kernel_rfl) (fun _ _ _ h => h) (Or.inl ⟨by rfl, ?hy6⟩) (by assumption) ?rest6
      case hy6 => (intro w hSw; (try dsimp only at hSw); go_simp; try (with_reducible rfl))
      case rest6 =>
      try simp only [Act.put, List.setIfInBounds_toArray, List.set_cons_zero, List.set_cons_succ]
      refine takeH (i := 8) (v := ?v7) rfl (by kernel_rfl) (by kernel_rfl) (by kernel_rfl) (fun _ _ _ h => h) (Or.inl ⟨by rfl, ?hy7⟩) (by assumption) ?rest7
      case hy7 => (intro w hSw; (try dsimp only at hSw); go_simp; try (with_reducible rfl))
      case rest7 =>
      try simp only [Act.put, List.setIfInBounds_toArray, List.set_cons_zero, List.set_cons_succ]
      refine wpAnyH_ready (rs := [3]) (by kernel_rfl) (by simp) ?_
      refine consH rfl (fun K hK => ?_) AllReadyH.nil
      go_simp
      go_at_call 19
      have XR := souffleurref08_Drop.calls (l.length + 1) A c l s (dropR s l) wd (Kd.V_reads' H1.out.2.1).2.2 (Kd.V_reads' H1.out.2.1).2.1 (drop_tells (by have := HW.out.2.2; omega) s)
      with_reducible refine XR.mono ?_
      clear XR
      rintro _ w2 ⟨vr, rfl, hv, hb⟩
      have HV2 : Hd (Kd.V k37 37 w2 0 (fun k => wd.heap.size ≤ k ∧ k < w2.heap.size) vr (dropR s l)) := ⟨Kd.V_map (Kd.V_bound (Kd.R_V (base' := 0) (Kd.R_bound hv))) (fun _ hf => Kd.F_mono hf (fun k hk => ⟨hk.1.2.1, hk.2⟩))⟩
      have HTS := Hd.mk (H1.out.1.below hb)
      have HB2 := Hd.mk (HBq.out.trans (hb.mono HBq.out.size))
      replace Bg5 := Hd.mk (Blk.belowW Bg5.out hb)
      have HZ2 : Hd (wd.heap.size ≤ w2.heap.size) := ⟨hb.size⟩
      clear hv hb hHd
      have hHd : (fun w' : World => w'.cell? ⟨g5, 1, none⟩ = some (.string s)) w2 := Bg5.out.cell 1 rfl
      go_simp
      refine hK.out _ _ hHd ?_
      clear hK K
      try simp only [Act.put, List.setIfInBounds_toArray, List.set_cons_zero, List.set_cons_succ]
      refine wpAnyH_ready (rs := [7]) (by kernel_rfl) (by simp) ?_
      refine consH rfl (fun K hK => ?_) AllReadyH.nil
      go_simp
      go_at_call 17
      have XS := drop_ts HTS.out s
      with_reducible refine XS.mono ?_
      clear XS
      rintro _ w3 ⟨rfl, hts, ho, hkb⟩
      have HP3 : Hd (Pr B w3 T vr (drop_ s tt) (dropR s l)) := ⟨_, _, hts, Kd.V_step HV2.out (fun k hk hlt => ho.block k hlt (fun e => by have h1 := e.2; have h2 := HSZ.out; omega)), fun k hk e => by have h1 := e.2; have h2 := HSZ.out; omega, HW.out.2.1.drop HW.out.1 s, fun k hk => H0.out.2.2.2.2.1 k hk, fun k hk => by have h1 := HBB.out; have h2 := HSZ.out; omega⟩
      have HK3 : Hd (KB w T w3) := ⟨(KB.of_below HB2.out).trans hkb⟩
      have HB3 : Hd (Below B w w3) := ⟨below_of_only (HB2.out.mono HBB.out) ho (fun k hk => H0.out.2.2.2.2.1 k hk) (by have h1 := HBB.out; have h2 := HSZ.out; have h3 := HZ2.out; omega)⟩
      replace Bg5 := Hd.mk (hkb _ _ _ Bg5.out HGT.out.symm)
      clear hts ho hkb hHd
      have hHd : (fun w' : World => w'.cell? ⟨g5, 1, none⟩ = some (.string s)) w3 := Bg5.out.cell 1 rfl
      go_simp
      refine hK.out _ _ hHd ?_
      clear hK K
      try simp only [Act.put, List.setIfInBounds_toArray, List.set_cons_zero, List.set_cons_succ]
      refine takeH (i := 9) (v := ?v8) rfl (by kernel_rfl) (by kernel_rfl) (by kernel_rfl) (fun _ _ _ h => h) (Or.inl ⟨by rfl, ?hy8⟩) (by assumption) ?rest8
      case hy8 => (intro w hSw; (try dsimp only at hSw); go_simp; try (with_reducible rfl))
      case rest8 =>
      try simp only [Act.put, List.setIfInBounds_toArray, List.set_cons_zero, List.set_cons_succ]
      refine takeH (i := 10) (v := ?v9) rfl (by kernel_rfl) (by kernel_rfl) (by kernel_rfl) (fun _ _ _ h => h) (Or.inl ⟨by rfl, ?hy9⟩) (by assumption) ?rest9
      case hy9 => (intro w hSw; (try dsimp only at hSw); go_simp; try (with_reducible rfl))
      case rest9 =>
      try simp only [Act.put, List.setIfInBounds_toArray, List.set_cons_zero, List.set_cons_succ]
      refine takeH (i := 11) (v := ?v10) rfl (by kernel_rfl) (by kernel_rfl) (by kernel_rfl) (fun _ _ _ h => h) (Or.inl ⟨by rfl, ?hy10⟩) (by assumption) ?rest10
      case hy10 => (intro w hSw; (try dsimp only at hSw); go_simp; try (with_reducible rfl))
      case rest10 =>
      try simp only [Act.put, List.setIfInBounds_toArray, List.set_cons_zero, List.set_cons_succ]
      refine wpAnyH_done (by kernel_rfl) ?_ _
      refine hKQ _ _ ?_
      clear hHd
      go_wp2
      go_ret2
      exact ⟨_, _, _, by simp, HP3.out, HK3.out, HB3.out⟩
    · have q3 : (n == 1) = false := by rw [beq_eq_false_iff_ne]; exact k1
      have q4 : decide (n = 1) = false := decide_eq_false k1
      have HP1 : Hd (Pr B w1 T (.slice A l.length c) tt l) := ⟨_, _, H1.out⟩
      have HB1 : Hd (Below B w w1) := ⟨HBq.out.mono HBB.out⟩
      have HK1 : Hd (KB w T w1) := ⟨KB.of_below HBq.out⟩
      by_cases k2 : n = 2
      · have q5 : (n == 2) = true := by rw [k2]; rfl
        have q6 : decide (n = 2) = true := decide_eq_true k2
        clear k0 k1 k2
        go_upto_region 9 with fail
        go_wp2_with fail
        go_at_call 10
        have XS := get_ts H1.out.1 s
        with_reducible refine XS.mono ?_
        clear XS
        rintro _ w3 ⟨rfl, hts, hb⟩
        have HP3 := Hd.mk (HP1.out.below hb)
        have HB3 : Hd (Below B w w3) := ⟨HB1.out.trans (hb.mono (by have h1 := HBB.out; have h2 := HSZ.out; omega))⟩
        have HK3 : Hd (KB w T w3) := ⟨HK1.out.trans (KB.of_below hb)⟩
        clear hts hb hn0 hn1 hn2
        generalize getP s tt = gp at *
        go_wp2
        go_ret2
        exact ⟨_, _, _, by simp, HP3.out, HK3.out, HB3.out⟩
      · have q5 : (n == 2) = false := by rw [beq_eq_false_iff_ne]; exact k2
        have q6 : decide (n = 2) = false := decide_eq_false k2
        clear k0 k1 k2
        go_wp2
        go_ret2
        exact ⟨_, _, _, rfl, HP1.out, HK1.out, HB1.out⟩
end Go.Proofs.YtbhiljaipikklaaGreatDoorL

