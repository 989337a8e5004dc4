/- Parts of the proof of the law that the last file states; declarations that nothing mentions are left out by a program. No conditions. -/
import Derived.Test.YtgifpkjcggnhgaaGreatDoorLTermH3q
import Derived.Test.YtgifpkjcggnhgaaGreatDoorLHeld3q
set_option linter.unusedVariables false
set_option linter.unusedSimpArgs false
namespace Go.Proofs.YtgifpkjcggnhgaaGreatDoorL
open Go Go.RowKit Go.Proofs.YtgifpkjcggnhgaaGreatDoorW.PrintWords
theorem fit_get (f : List TC → List TC) {l0 : List (List TC)} {k : Nat} (hk : k < l0.length) : ((l0.take k).map f ++ l0.drop k)[k]? = some l0[k] := by
  rw [List.getElem?_append_right (by rw [List.length_map, List.length_take]; omega), List.length_map, List.length_take, Nat.min_eq_left (by omega), Nat.sub_self, List.getElem?_drop, Nat.add_zero, List.getElem?_eq_getElem hk]
theorem fit_step (f : List TC → List TC) {l0 : List (List TC)} {k : Nat} (hk : k < l0.length) : ((l0.take k).map f ++ l0.drop k).set k (f l0[k]) = (l0.take (k + 1)).map f ++ l0.drop (k + 1) := by
  have h1 : ((l0.take k).map f).length = k := by rw [List.length_map, List.length_take, Nat.min_eq_left (by omega)]
  rw [List.set_append_right _ _ (by omega), h1, Nat.sub_self, List.drop_eq_getElem_cons hk, List.set_cons_zero, List.take_add_one, List.getElem?_eq_getElem hk, List.map_append, List.append_assoc]
  rfl
theorem nodup_goff {r0 : RR} {L' G : List RR} {m : Nat} (h : ((r0 :: L' ++ G).map RR.g).Nodup) : ((L' ++ (G ++ [r0]).drop m).map RR.g).Nodup := by
  have h1 : ((L' ++ (G ++ [r0])).map RR.g).Nodup := by
    have hp : (r0 :: L' ++ G).Perm (L' ++ (G ++ [r0])) := by
      rw [← List.append_assoc]
      exact (List.perm_append_singleton r0 (L' ++ G)).symm
    exact (hp.map RR.g).nodup_iff.1 h
  exact List.Nodup.sublist (((List.Sublist.refl L').append (List.drop_sublist m (G ++ [r0]))).map RR.g) h1
set_option maxRecDepth 100000 in
set_option maxHeartbeats 8000000 in
theorem resize_calls {P : Nat → Prop} {w : World} {T M : Nat} {s : Tm} (h : TermAt P w T s) (hok : OKT M s) (hM : M ≤ 100000) (hP : ∀ k, w.heap.size ≤ k → P k) (rows cols : Int) :
    Calls Tryz.prog 24 #[.pointer (some ⟨T, 0, none⟩), .int .i64 rows, .int .i64 cols] w fun e w' => e = .returned (.tuple #[]) ∧ TermAt P w' T (s.resize rows cols) ∧ Only P w w' := by
  have hr := cutN_le rows (n := 60) (by omega)
  have hc := cutN_le cols (n := 120) (by omega)
  have XC := Hd.mk (fun w1 => cutn_calls rows cols w1)
  obtain ⟨F, hF⟩ : ∃ F, s.resize rows cols = F := ⟨_, rfl⟩
  rw [hF]
  have HF := Hd.mk hF
  unfold Tm.resize at HF
  dsimp only at HF
  generalize cutN rows 60 = R at *
  generalize cutN cols 120 = C at *
  obtain ⟨F1, hF1⟩ : ∃ F1, goOffs (s.row + 1) R s = F1 := ⟨_, rfl⟩
  have HF1 := Hd.mk hF1
  rw [hF1] at HF
  have hrow := hok.row
  have hr2 := hok.r2
  have hsr : s.row < 60 := by omega
  have H0 := Hd.mk h
  have HP := Hd.mk hP
  have HK0 := Hd.mk hok
  clear hF hF1 h hP hok
  go_enter Tryz.func24, Tryz.ntmps24
  go_wp2_with fail
  go_at_call 27
  with_reducible refine (XC.out _).mono ?_
  rintro _ w1 ⟨rfl, rfl⟩
  clear XC
  go_wp2_with fail
  go_loopg [] (s.row + 1) (fun kq wx => ∃ (t : Tm) (M' : Nat), Hd (goOffs kq R t = F1) ∧ t.row < kq ∧ kq ≤ s.row + 1 ∧ Hd (OKT M' t) ∧ M' + kq ≤ M + (s.row + 1) ∧ Hd (TermAt P wx T t) ∧ Hd (Only P w1 wx))
  case atStart => exact ⟨s, M, HF1, by omega, by omega, HK0, by omega, H0, ⟨Only.refl _ _⟩⟩
  case round =>
    obtain ⟨t, M', HG, hrow1, hkq, HK, hMM, HT, HO⟩ := hrel
    clear H0 HK0 hrow hr2
    by_cases hlt : R ≤ t.row
    · obtain ⟨d, rfl⟩ : ∃ d, gk = d + 1 := ⟨gk - 1, by omega⟩
      have HG2 : Hd (goOffs d R t.goOff = F1) := ⟨by have h1 := HG.out; unfold goOffs at h1; rw [if_pos hlt] at h1; exact h1⟩
      have HK2 := Hd.mk (HK.out.goOff (by omega))
      have HE2 : Hd (t.goOff.row = t.row - 1) := ⟨rfl⟩
      have hr1 := HK.out.r1
      have hr2 := HK.out.r2
      have hoff := HK.out.off
      have hgl := HK.out.gone.1
      have hrl := HK.out.row
      obtain ⟨lv, gv, bv, L, G, h1⟩ := HT.out
      have hlen := forall_len h1.fl
      have hglen := forall_len h1.fg
      obtain ⟨r0, L', rfl⟩ : ∃ r0 L', L = r0 :: L' := by
        cases L with
        | nil => rw [List.length_nil] at hlen; omega
        | cons a b => exact ⟨a, b, rfl⟩
      obtain ⟨A, c, rfl, hcap⟩ := Kd.Q_slice h1.ql
      obtain ⟨ad, rfl, hq1, hq2⟩ := spine_cell h1.ql (i := 0) (by omega)
      clear hq1 hq2
      obtain ⟨B, cb, rfl, hcb⟩ := Kd.Q_slice h1.qg
      have hnd := h1.nd
      have hfl := h1.fl
      obtain ⟨l0, lt, hsl⟩ : ∃ l0 lt, t.l = l0 :: lt := by
        cases hs : t.l with
        | nil => rw [hs] at hr1; simp at hr1
        | cons a b => exact ⟨a, b, rfl⟩
      rw [hsl] at hfl
      have hrow0 : RowAt wr r0 l0 := by cases hfl with | cons h _ => exact h
      have HY := Hd.mk h1.y
      have HR0 := Hd.mk hrow0
      have HND := Hd.mk hnd
      have HSL := Hd.mk hsl
      have t4 := h1.all.1.2.2.2.2.1
      have tf := h1.all.2
      have hgn : G.length ≤ 1000 := by omega
      have HLEN := Hd.mk hlen
      have HGLEN := Hd.mk hglen
      clear h1 hnd hrow0 hfl hsl HT
      generalize hn : (r0 :: L').length = n at *
      have hn0 : (0 : Int) < (n : Int) := by omega
      have hn0' : 0 < n := by omega
      generalize hnb : G.length = nb at *
      have hn60 : n ≤ 60 := by omega
      clear hlen hglen
      have q0 : (0 : Int) ≤ (t.row : Int) := Int.natCast_nonneg _
      have q1 : decide ((R : Int) ≤ (t.row : Int)) = true := decide_eq_true (by omega)
      have q2 : decide (R ≤ t.row) = true := decide_eq_true hlt
      have q3 : (R : Int) ≤ (t.row : Int) := by omega
      go_upto_region 2 with fail
      clear t4 tf
      rename_i KQ hKQ
      refine regionK (fun w' : World => w'.cell? ⟨T, 1, none⟩ = some (.slice (some ad) n c) ∧ w'.cell? ⟨T, 2, none⟩ = some (.slice B nb cb) ∧ w'.cell? ad = some (.slice (some ⟨r0.g, 0, none⟩) r0.n r0.c)) 15 (by kernel_rfl) (fun wd hb => ?_)
      replace HO := Hd.mk (HO.out.below hb)
      replace HY := Hd.mk (HY.out.below hb)
      replace HR0 := Hd.mk (HR0.out.to (hb.block _ HR0.out.lt))
      obtain ⟨⟨c0, c1, c2, c3, c4, c5, c6, c7, c8, c9, c10⟩, cf⟩ := HY.out.all
      clear c0 c3 c4 c5 c6 c7 c8 c9 c10
      obtain ⟨ad', he, hcell, hob⟩ := spine_cell HY.out.ql (i := 0) (by simp)
      cases he
      rw [show (r0 :: L')[0] = r0 from rfl, addr_add_zero] at hcell
      unfold RR.v at hcell
      have hHd : (fun w' : World => w'.cell? ⟨T, 1, none⟩ = some (.slice (some ad) n c) ∧ w'.cell? ⟨T, 2, none⟩ = some (.slice B nb cb) ∧ w'.cell? ad = some (.slice (some ⟨r0.g, 0, none⟩) r0.n r0.c)) wd := ⟨c1, c2, hcell⟩
      clear hb
      refine wpAnyK_take (i := 0) (v := ?v1) rfl (by kernel_rfl) (by kernel_rfl) (by kernel_rfl) (by kernel_rfl) (fun _ _ _ h => h) (Or.inl ⟨by rfl, ?hy1⟩) (by assumption) ?rest1
      case hy1 => (intro w hSw; (try dsimp only at hSw); go_simp; try (with_reducible rfl))
      case rest1 =>
      try simp only [Act.put, List.setIfInBounds_toArray, List.set_cons_zero, List.set_cons_succ]
      refine wpAnyK_take (i := 1) (v := ?v2) rfl (by kernel_rfl) (by kernel_rfl) (by kernel_rfl) (by kernel_rfl) (fun _ _ _ h => h) (Or.inl ⟨by rfl, ?hy2⟩) (by assumption) ?rest2
      case hy2 => (intro w hSw; (try dsimp only at hSw); go_simp; try (with_reducible rfl))
      case rest2 =>
      try simp only [Act.put, List.setIfInBounds_toArray, List.set_cons_zero, List.set_cons_succ]
      refine wpAnyK_take (i := 2) (v := ?v3) rfl (by kernel_rfl) (by kernel_rfl) (by kernel_rfl) (by kernel_rfl) (fun _ _ _ h => h) (Or.inl ⟨by rfl, ?hy3⟩) (by assumption) ?rest3
      case hy3 => (intro w hSw; (try dsimp only at hSw); go_simp; try (with_reducible rfl))
      case rest3 =>
      try simp only [Act.put, List.setIfInBounds_toArray, List.set_cons_zero, List.set_cons_succ]
      refine wpAnyK_take (i := 3) (v := ?v4) rfl (by kernel_rfl) (by kernel_rfl) (by kernel_rfl) (by kernel_rfl) (fun _ _ _ h => h) (Or.inl ⟨by rfl, ?hy4⟩) (by assumption) ?rest4
      case hy4 => (intro w hSw; (try dsimp only at hSw); go_simp; try (with_reducible rfl))
      case rest4 =>
      try simp only [Act.put, List.setIfInBounds_toArray, List.set_cons_zero, List.set_cons_succ]
      refine wpAnyK_take (i := 4) (v := ?v5) rfl (by kernel_rfl) (by kernel_rfl) (by kernel_rfl) (by kernel_rfl) (fun _ _ _ h => h) (Or.inl ⟨by rfl, ?hy5⟩) (by assumption) ?rest5
      case hy5 => (intro w hSw; (try dsimp only at hSw); go_simp; try (with_reducible rfl))
      case rest5 =>
      try simp only [Act.put, List.setIfInBounds_toArray, List.set_cons_zero, List.set_cons_succ]
      refine wpAnyK_take (i := 5) (v := ?v6) rfl (by kernel_rfl) (by kernel_rfl) (by kernel_rfl) (by kernel_rfl) (fun _ _ _ h => h) (Or.inl ⟨by rfl, ?hy6⟩) (by assumption) ?rest6
      case hy6 => (intro w hSw; (try dsimp only at hSw); go_simp; try (with_reducible rfl))
      case rest6 =>
      try simp only [Act.put, List.setIfInBounds_toArray, List.set_cons_zero, List.set_cons_succ]
      refine wpAnyK_take (i := 6) (v := ?v7) rfl (by kernel_rfl) (by kernel_rfl) (by kernel_rfl) (by kernel_rfl) (fun _ _ _ h => h) (Or.inl ⟨by rfl, ?hy7⟩) (by assumption) ?rest7
      case hy7 => (intro w hSw; (try dsimp only at hSw); go_simp; try (with_reducible rfl))
      case rest7 =>
      try simp only [Act.put, List.setIfInBounds_toArray, List.set_cons_zero, List.set_cons_succ]
      refine wpAnyK_take (i := 7) (v := ?v8) rfl (by kernel_rfl) (by kernel_rfl) (by kernel_rfl) (by kernel_rfl) (fun _ _ _ h => h) (Or.inl ⟨by rfl, ?hy8⟩) (by assumption) ?rest8
      case hy8 => (intro w hSw; (try dsimp only at hSw); go_simp; try (with_reducible rfl))
      case rest8 =>
      try simp only [Act.put, List.setIfInBounds_toArray, List.set_cons_zero, List.set_cons_succ]
      refine wpAnyK_take (i := 8) (v := ?v9) rfl (by kernel_rfl) (by kernel_rfl) (by kernel_rfl) (by kernel_rfl) (fun _ _ _ h => h) (Or.inl ⟨by rfl, ?hy9⟩) (by assumption) ?rest9
      case hy9 => (intro w hSw; (try dsimp only at hSw); go_simp; try (with_reducible rfl))
      case rest9 =>
      try simp only [Act.put, List.setIfInBounds_toArray, List.set_cons_zero, List.set_cons_succ]
      refine wpAnyK_take (i := 9) (v := ?v10) rfl (by kernel_rfl) (by kernel_rfl) (by kernel_rfl) (by kernel_rfl) (fun _ _ _ h => h) (Or.inl ⟨by rfl, ?hy10⟩) (by assumption) ?rest10
      case hy10 => (intro w hSw; (try dsimp only at hSw); go_simp; try (with_reducible rfl))
      case rest10 =>
      try simp only [Act.put, List.setIfInBounds_toArray, List.set_cons_zero, List.set_cons_succ]
      refine wpAnyK_take (i := 10) (v := ?v11) rfl (by kernel_rfl) (by kernel_rfl) (by kernel_rfl) (by kernel_rfl) (fun _ _ _ h => h) (Or.inl ⟨by rfl, ?hy11⟩) (by assumption) ?rest11
      case hy11 => (intro w hSw; (try dsimp only at hSw); go_simp; try (with_reducible rfl))
      case rest11 =>
      try simp only [Act.put, List.setIfInBounds_toArray, List.set_cons_zero, List.set_cons_succ]
      refine wpAnyK_ready (rs := [11]) (by kernel_rfl) (by simp) ?_
      refine AllReadyK.cons rfl (fun K hK => ?_) AllReadyK.nil
      refine build1_step (by first | rfl | (go_simp; done) | (go_simp; rfl)) (N := 31) rfl (v := .slice (some ⟨r0.g, 0, none⟩) r0.n r0.c) (by first | (go_simp; done) | (go_simp; rfl)) ?_
      refine hK.out _ _ (.inr ⟨Lib.cell?_alloc_some _ c1, Lib.cell?_alloc_some _ c2, Lib.cell?_alloc_some _ hcell⟩) ?_
      clear hK K
      try simp only [Act.put, List.setIfInBounds_toArray, List.set_cons_zero, List.set_cons_succ]
      refine wpAnyK_ready (rs := [12]) (by kernel_rfl) (by simp) ?_
      refine AllReadyK.cons rfl (fun K hK => ?_) AllReadyK.nil
      refine Kd.Q_append_step rrK (w0 := wd) (W := wd) 0 (by first | rfl | (go_simp; done) | (go_simp; rfl)) (.tmp 24) (.tmp 31) 55 29 (.slice none 0 0) 24 rfl Tryz.underlying55 infoRowz rfl (by decide) (by omega) (.slice B nb cb) G r0 [RR.v r0] P (fun _ => False) rfl rfl rfl (fun _ hk => hk.elim) (fun k hk => HP.out k (Nat.le_trans HO.out.size hk)) HY.out.qg (Below.refl _ _) (Nat.zero_le _) (by omega) ?_
      intro v1 w1 hq_ _ hg_ ha_
      have hn1 : (Value.slice B nb cb).ownBlock ≠ some T := HY.out.apart.2.1
      have hn2 : some ad.block ≠ (Value.slice B nb cb).ownBlock := fun e => HY.out.ne ad.block hob e.symm
      have c2' := cell_grown hg_ c2 (fun e => hn1 e.symm)
      refine hK.out _ _ (.inr ⟨cell_grown hg_ c1 (fun e => hn1 e.symm), c2', cell_grown hg_ hcell hn2⟩) ?_
      clear hK K
      try simp only [Act.put, List.setIfInBounds_toArray, List.set_cons_zero, List.set_cons_succ]
      have hHd' : (fun w' : World => w'.cell? ⟨T, 1, none⟩ = some (.slice (some ad) n c) ∧ w'.cell? ⟨T, 2, none⟩ = some (.slice B nb cb) ∧ w'.cell? ad = some (.slice (some ⟨r0.g, 0, none⟩) r0.n r0.c)) w1 := ⟨cell_grown hg_ c1 (fun e => hn1 e.symm), c2', cell_grown hg_ hcell hn2⟩
      have cf' : w1.frozen? ⟨T, 2, none⟩ = false := ((HY.out.b.to (hg_.block T HY.out.b.lt (fun e => hn1 e.symm)))).frozen 2
      obtain ⟨HYp, HOp⟩ := HY.out.push (by simp) HR0.out hq_ hg_ ha_
      obtain ⟨B1, cb1, rfl, hcb1⟩ := Kd.Q_slice hq_
      clear hq_ hg_ ha_ hHd c1 c2 hcell hn1 hn2
      refine wpAnyK_ready (rs := [13]) (by kernel_rfl) (by simp) ?_
      refine AllReadyK.cons rfl (fun K hK => ?_) AllReadyK.nil
      refine pure_step (by first | rfl | (go_simp; done) | (go_simp; rfl)) (v := .pointer (some ⟨T, 0, none⟩)) (by first | (go_simp; done) | (go_simp; rfl)) ?_
      refine hK.out _ _ (.inr (by assumption)) ?_
      clear hK K
      try simp only [Act.put, List.setIfInBounds_toArray, List.set_cons_zero, List.set_cons_succ]
      refine wpAnyK_take (i := 14) (v := ?v12) rfl (by kernel_rfl) (by kernel_rfl) (by kernel_rfl) (by kernel_rfl) (fun _ _ _ h => h) (Or.inl ⟨by rfl, ?hy12⟩) (by assumption) ?rest12
      case hy12 => (intro w hSw; (try dsimp only at hSw); go_simp; try (with_reducible rfl))
      case rest12 =>
      try simp only [Act.put, List.setIfInBounds_toArray, List.set_cons_zero, List.set_cons_succ]
      refine wpAnyK_ready (rs := [15]) (by kernel_rfl) (by simp) ?_
      refine AllReadyK.cons rfl (fun K hK => ?_) AllReadyK.nil
      rw [if_pos (by first | rfl | (go_simp; done) | (go_simp; rfl))]
      refine cell_step rfl rfl (g := T) (i := 2) (v := (.slice B1 (G ++ [r0]).length cb1)) (by first | rfl | (go_simp; done) | (go_simp; rfl)) (by first | rfl | (go_simp; done) | (go_simp; rfl)) c2' cf' info_row1 rfl ?_
      have HY2 := Hd.mk HYp
      have HO2 := Hd.mk (HO.out.trans HOp (fun _ _ h => h))
      clear HYp HOp hHd' c2' cf' cf HY HO hob hcb1 HR0
      refine hK.out _ _ (.inl (by kernel_rfl)) ?_
      clear hK K
      try simp only [Act.put, List.setIfInBounds_toArray, List.set_cons_zero, List.set_cons_succ]
      refine wpAnyK_done (by kernel_rfl) ?_ _
      refine hKQ _ _ ?_
      generalize w1.setCell ⟨T, 2, none⟩ (.slice B1 (G ++ [r0]).length cb1) = wp at *
      obtain ⟨s1, hs1⟩ : ∃ s1, { t with gone := t.gone ++ [l0] } = s1 := ⟨_, rfl⟩
      rw [hs1] at HY2
      have HS1 := Hd.mk hs1
      clear hs1
      go_upto_region 3 with fail
      rename_i KQ hKQ
      refine regionK (fun w' : World => w'.cell? ⟨T, 2, none⟩ = some (.slice B1 (G ++ [r0]).length cb1)) 15 (by kernel_rfl) (fun wd hb => ?_)
      replace HO2 := Hd.mk (HO2.out.below hb)
      replace HY2 := Hd.mk (HY2.out.below hb)
      have c2 := HY2.out.all.1.2.2.1
      have cf := HY2.out.all.2 2
      have hcb := (Kd.Q_reads' HY2.out.qg).2.1
      have hHd : (fun w' : World => w'.cell? ⟨T, 2, none⟩ = some (.slice B1 (G ++ [r0]).length cb1)) wd := c2
      clear hb
      obtain ⟨m, hm⟩ : ∃ m, m = (G ++ [r0]).length - 1000 := ⟨_, rfl⟩
      have HM := Hd.mk hm
      have hgl3 : (G ++ [r0]).length = nb + 1 := by rw [List.length_append, hnb]; rfl
      have hml : m ≤ (G ++ [r0]).length := by omega
      have hm2 : (m : Int) = max (((G ++ [r0]).length : Int) - 1000) 0 := by omega
      clear hm
      have HGL3 := Hd.mk hgl3
      generalize hN : (G ++ [r0]).length = N at *
      have HN := Hd.mk hN
      clear hN
      have hN2 : (N : Int) ≤ 1001 := by omega
      have hN3 : (0 : Int) ≤ (N : Int) := by omega
      have hm3 : (m : Int) ≤ (N : Int) := by omega
      have HM2 := Hd.mk hm2
      clear hm2 hgl3
      refine wpAnyK_take (i := 0) (v := ?v13) rfl (by kernel_rfl) (by kernel_rfl) (by kernel_rfl) (by kernel_rfl) (fun _ _ _ h => h) (Or.inl ⟨by rfl, ?hy13⟩) (by assumption) ?rest13
      case hy13 => (intro w hSw; (try dsimp only at hSw); go_simp; try (with_reducible rfl))
      case rest13 =>
      try simp only [Act.put, List.setIfInBounds_toArray, List.set_cons_zero, List.set_cons_succ]
      refine wpAnyK_take (i := 1) (v := ?v14) rfl (by kernel_rfl) (by kernel_rfl) (by kernel_rfl) (by kernel_rfl) (fun _ _ _ h => h) (Or.inl ⟨by rfl, ?hy14⟩) (by assumption) ?rest14
      case hy14 => (intro w hSw; (try dsimp only at hSw); go_simp; try (with_reducible rfl))
      case rest14 =>
      try simp only [Act.put, List.setIfInBounds_toArray, List.set_cons_zero, List.set_cons_succ]
      refine wpAnyK_take (i := 2) (v := ?v15) rfl (by kernel_rfl) (by kernel_rfl) (by kernel_rfl) (by kernel_rfl) (fun _ _ _ h => h) (Or.inl ⟨by rfl, ?hy15⟩) (by assumption) ?rest15
      case hy15 => (intro w hSw; (try dsimp only at hSw); go_simp; try (with_reducible rfl))
      case rest15 =>
      try simp only [Act.put, List.setIfInBounds_toArray, List.set_cons_zero, List.set_cons_succ]
      refine wpAnyK_take (i := 3) (v := ?v16) rfl (by kernel_rfl) (by kernel_rfl) (by kernel_rfl) (by kernel_rfl) (fun _ _ _ h => h) (Or.inl ⟨by rfl, ?hy16⟩) (by assumption) ?rest16
      case hy16 => (intro w hSw; (try dsimp only at hSw); go_simp; try (with_reducible rfl))
      case rest16 =>
      try simp only [Act.put, List.setIfInBounds_toArray, List.set_cons_zero, List.set_cons_succ]
      refine wpAnyK_take (i := 4) (v := ?v17) rfl (by kernel_rfl) (by kernel_rfl) (by kernel_rfl) (by kernel_rfl) (fun _ _ _ h => h) (Or.inl ⟨by rfl, ?hy17⟩) (by assumption) ?rest17
      case hy17 => (intro w hSw; (try dsimp only at hSw); go_simp; try (with_reducible rfl))
      case rest17 =>
      try simp only [Act.put, List.setIfInBounds_toArray, List.set_cons_zero, List.set_cons_succ]
      refine wpAnyK_take (i := 5) (v := ?v18) rfl (by kernel_rfl) (by kernel_rfl) (by kernel_rfl) (by kernel_rfl) (fun _ _ _ h => h) (Or.inl ⟨by rfl, ?hy18⟩) (by assumption) ?rest18
      case hy18 => (intro w hSw; (try dsimp only at hSw); go_simp; try (with_reducible rfl))
      case rest18 =>
      try simp only [Act.put, List.setIfInBounds_toArray, List.set_cons_zero, List.set_cons_succ]
      refine wpAnyK_take (i := 6) (v := ?v19) rfl (by kernel_rfl) (by kernel_rfl) (by kernel_rfl) (by kernel_rfl) (fun _ _ _ h => h) (Or.inl ⟨by rfl, ?hy19⟩) (by assumption) ?rest19
      case hy19 => (intro w hSw; (try dsimp only at hSw); go_simp; try (with_reducible rfl))
      case rest19 =>
      try simp only [Act.put, List.setIfInBounds_toArray, List.set_cons_zero, List.set_cons_succ]
      refine wpAnyK_take (i := 7) (v := ?v20) rfl (by kernel_rfl) (by kernel_rfl) (by kernel_rfl) (by kernel_rfl) (fun _ _ _ h => h) (Or.inl ⟨by rfl, ?hy20⟩) (by assumption) ?rest20
      case hy20 => (intro w hSw; (try dsimp only at hSw); go_simp; try (with_reducible rfl))
      case rest20 =>
      try simp only [Act.put, List.setIfInBounds_toArray, List.set_cons_zero, List.set_cons_succ]
      refine wpAnyK_take (i := 8) (v := ?v21) rfl (by kernel_rfl) (by kernel_rfl) (by kernel_rfl) (by kernel_rfl) (fun _ _ _ h => h) (Or.inl ⟨by rfl, ?hy21⟩) (by assumption) ?rest21
      case hy21 => (intro w hSw; (try dsimp only at hSw); go_simp; try (with_reducible rfl))
      case rest21 =>
      try simp only [Act.put, List.setIfInBounds_toArray, List.set_cons_zero, List.set_cons_succ]
      refine wpAnyK_take (i := 9) (v := ?v22) rfl (by kernel_rfl) (by kernel_rfl) (by kernel_rfl) (by kernel_rfl) (fun _ _ _ h => h) (Or.inl ⟨by rfl, ?hy22⟩) (by assumption) ?rest22
      case hy22 => (intro w hSw; (try dsimp only at hSw); go_simp; try (with_reducible rfl))
      case rest22 =>
      try simp only [Act.put, List.setIfInBounds_toArray, List.set_cons_zero, List.set_cons_succ]
      refine wpAnyK_take (i := 10) (v := ?v23) rfl (by kernel_rfl) (by kernel_rfl) (by kernel_rfl) (by kernel_rfl) (fun _ _ _ h => h) (Or.inl ⟨by rfl, ?hy23⟩) (by assumption) ?rest23
      case hy23 => (intro w hSw; (try dsimp only at hSw); go_simp; try (with_reducible rfl))
      case rest23 =>
      try simp only [Act.put, List.setIfInBounds_toArray, List.set_cons_zero, List.set_cons_succ]
      refine wpAnyK_take (i := 11) (v := (.int .i64 (m : Int))) rfl (by kernel_rfl) (by kernel_rfl) (by kernel_rfl) (by kernel_rfl) (fun _ _ _ h => h) (Or.inl ⟨by rfl, ?hy24⟩) (by assumption) ?rest24
      case hy24 => (intro w hSw; (try dsimp only at hSw); go_simp; rw [IntKind.wrap_i64]; have := HM2.out; omega)
      case rest24 =>
      try simp only [Act.put, List.setIfInBounds_toArray, List.set_cons_zero, List.set_cons_succ]
      refine wpAnyK_take (i := 12) (v := (.slice (if cb1 = m then B1 else B1.map (·.add (m * 1))) (N - m) (cb1 - m))) rfl (by kernel_rfl) (by kernel_rfl) (by kernel_rfl) (by kernel_rfl) (fun _ _ _ h => h) (Or.inl ⟨by rfl, ?hy25⟩) (by assumption) ?rest25
      case hy25 => (intro w hSw; (try dsimp only at hSw); go_simp; try (with_reducible rfl))
      case rest25 =>
      try simp only [Act.put, List.setIfInBounds_toArray, List.set_cons_zero, List.set_cons_succ]
      refine wpAnyK_ready (rs := [13]) (by kernel_rfl) (by simp) ?_
      refine AllReadyK.cons rfl (fun K hK => ?_) AllReadyK.nil
      refine pure_step (by first | rfl | (go_simp; done) | (go_simp; rfl)) (v := .pointer (some ⟨T, 0, none⟩)) (by first | (go_simp; done) | (go_simp; rfl)) ?_
      refine hK.out _ _ (.inr (by assumption)) ?_
      clear hK K
      try simp only [Act.put, List.setIfInBounds_toArray, List.set_cons_zero, List.set_cons_succ]
      refine wpAnyK_take (i := 14) (v := ?v26) rfl (by kernel_rfl) (by kernel_rfl) (by kernel_rfl) (by kernel_rfl) (fun _ _ _ h => h) (Or.inl ⟨by rfl, ?hy26⟩) (by assumption) ?rest26
      case hy26 => (intro w hSw; (try dsimp only at hSw); go_simp; try (with_reducible rfl))
      case rest26 =>
      try simp only [Act.put, List.setIfInBounds_toArray, List.set_cons_zero, List.set_cons_succ]
      refine wpAnyK_ready (rs := [15]) (by kernel_rfl) (by simp) ?_
      refine AllReadyK.cons rfl (fun K hK => ?_) AllReadyK.nil
      rw [if_pos (by first | rfl | (go_simp; done) | (go_simp; rfl))]
      refine cell_step rfl rfl (g := T) (i := 2) (v := (.slice (if cb1 = m then B1 else B1.map (·.add (m * 1))) (N - m) (cb1 - m))) (by first | rfl | (go_simp; done) | (go_simp; rfl)) (by first | rfl | (go_simp; done) | (go_simp; rfl)) c2 cf info_row1 rfl ?_
      have HY3 := Hd.mk (HY2.out.cutG (m := m) (by rw [HN.out]; exact hml))
      have HO3 := Hd.mk (HO2.out.setCell (p := ⟨T, 2, none⟩) (.inl HY2.out.pt) (.slice (if cb1 = m then B1 else B1.map (·.add (m * 1))) (N - m) (cb1 - m)))
      clear c2 cf hHd HY2 HO2
      refine hK.out _ _ (.inl (by kernel_rfl)) ?_
      clear hK K
      try simp only [Act.put, List.setIfInBounds_toArray, List.set_cons_zero, List.set_cons_succ]
      refine wpAnyK_done (by kernel_rfl) ?_ _
      refine hKQ _ _ ?_
      obtain ⟨s2, hs2⟩ : ∃ s2, { s1 with gone := s1.gone.drop m } = s2 := ⟨_, rfl⟩
      rw [hs2] at HY3
      have HS2 := Hd.mk hs2
      clear hs2
      obtain ⟨B2, hB2⟩ : ∃ B2, B2 = (if cb1 = m then B1 else B1.map (·.add (m * 1))) := ⟨_, rfl⟩
      rw [← hB2] at HY3 HO3 ⊢
      clear hB2
      generalize wd.setCell ⟨T, 2, none⟩ (.slice B2 (N - m) (cb1 - m)) = wc at *
      have c3 := HY3.out.all.1.2.2.2.1
      have f3 := HY3.out.all.2
      have HE3 : Hd (s2.off = t.off ∧ s2.row = t.row ∧ s2.l = t.l) := ⟨by rw [← HS2.out, ← HS1.out]; exact ⟨rfl, rfl, rfl⟩⟩
      rw [HE3.out.1] at c3
      have o1 : (t.off : Int) ≤ 1000000 := by omega
      have o2 : (0 : Int) ≤ (t.off : Int) := Int.natCast_nonneg _
      go_upto_region 5 with fail
      have HY4 := Hd.mk (HY3.out.off_ HE3.out.1)
      have HO4 := Hd.mk (HO3.out.setCell (p := ⟨T, 3, none⟩) (.inl HY3.out.pt) (.int .i64 ((t.off : Int) + 1)))
      clear c3 f3 HY3 HO3
      generalize wc.setCell ⟨T, 3, none⟩ (.int .i64 ((t.off : Int) + 1)) = w4 at *
      obtain ⟨s3, hs3⟩ : ∃ s3, { s2 with off := t.off + 1 } = s3 := ⟨_, rfl⟩
      rw [hs3] at HY4
      have HS3 := Hd.mk hs3
      have HE4 : Hd (s3.row = t.row ∧ s3.l = t.l) := ⟨by rw [← hs3]; exact HE3.out.2⟩
      clear hs3
      have c1 := HY4.out.all.1.2.1
      have f3 := HY4.out.all.2
      have hc1n : (1 : Int) ≤ (n : Int) := by omega
      have hn1 : 1 ≤ n := by omega
      have hnc : n ≤ c := hcap
      obtain ⟨ad1, had⟩ : ∃ ad1, (if c = 1 then some ad else some (⟨ad.block, ad.off + 1, none⟩ : Addr)) = some ad1 := by split; exact ⟨_, rfl⟩; exact ⟨_, rfl⟩
      have hA : (if c = 1 then some ad else (some ad).map (·.add (1 * 1))) = some ad1 := had
      have HY5 := Hd.mk (HY4.out.cutL (m := 1) (by simp))
      rw [hA] at HY5
      have HO5 := Hd.mk (HO4.out.setCell (p := ⟨T, 1, none⟩) (.inl HY4.out.pt) (.slice (some ad1) (n - 1) (c - 1)))
      clear hA
      go_upto_region 6 with fail
      try rw [had]
      clear had c1 f3 HY4 HO4
      generalize w4.setCell ⟨T, 1, none⟩ (.slice (some ad1) (n - 1) (c - 1)) = w5 at *
      rw [show (r0 :: L').drop 1 = L' from rfl] at HY5
      obtain ⟨s4, hs4⟩ : ∃ s4, { s3 with l := s3.l.drop 1 } = s4 := ⟨_, rfl⟩
      rw [hs4] at HY5
      have HS4 := Hd.mk hs4
      have HE5 : Hd (s4.row = t.row) := ⟨by rw [← hs4]; exact HE4.out.1⟩
      clear hs4
      have c4 := HY5.out.all.1.2.2.2.2.1
      have f5 := HY5.out.all.2
      rw [HE5.out] at c4
      have q5 : (t.row : Int) ≤ 60 := by omega
      have q6 : (1 : Int) ≤ (t.row : Int) := by omega
      go_wp2
      have HT6 : Hd (TermAt P _ T t.goOff) := ⟨by
        have h1 := (HY5.out.o (nodup_goff HND.out)).row_ (t.row - 1)
        have hS : ({ s4 with row := t.row - 1 } : Tm) = t.goOff := by
          have hm := HM.out
          rw [HGL3.out, HGLEN.out] at hm
          rw [← HS4.out, ← HS3.out, ← HS2.out, ← HS1.out]
          unfold Tm.goOff keptL
          rw [HSL.out, List.length_append, List.length_singleton, ← hm]
          rfl
        rw [hS] at h1
        exact h1.at_⟩
      have e6 : ((t.row - 1 : Nat) : Int) = (t.row : Int) - 1 := by omega
      rw [e6] at HT6
      have HO6 := Hd.mk (HO5.out.setCell (p := ⟨T, 4, none⟩) (.inl HY5.out.pt) (.int .i64 ((t.row : Int) - 1)))
      go_roundg d
      case measure => omega
      case rel => exact ⟨t.goOff, M' + 1, HG2, by rw [HE2.out]; omega, by omega, HK2, by omega, HT6, HO6⟩
    · obtain ⟨d, rfl⟩ : ∃ d, gk = d + 1 := ⟨gk - 1, by omega⟩
      have HE : t = F1 := by have h1 := HG.out; unfold goOffs at h1; rw [if_neg hlt] at h1; exact h1
      subst HE
      clear HG HF1
      have hr1 := HK.out.r1
      have hr2 := HK.out.r2
      have hrl := HK.out.row
      obtain ⟨lv, gv, bv, L, G, h1⟩ := HT.out
      have hlen := forall_len h1.fl
      obtain ⟨A, c, rfl, hcap⟩ := Kd.Q_slice h1.ql
      rw [hlen] at h1
      have H1 := Hd.mk h1
      have t4 := h1.all.1.2.2.2.2.1
      have tf := h1.all.2
      clear h1 HT
      have q0 : (0 : Int) ≤ (t.row : Int) := Int.natCast_nonneg _
      have q1 : decide ((R : Int) ≤ (t.row : Int)) = false := decide_eq_false (by omega)
      have q2 : decide (R ≤ t.row) = false := decide_eq_false hlt
      have q3 : ¬ (R : Int) ≤ (t.row : Int) := by omega
      go_upto_region 7 with fail
      clear q0 q1 q2 q3 t4 tf
      obtain ⟨q, hq⟩ : ∃ q, min t.l.length R = q := ⟨_, rfl⟩
      have HQ := Hd.mk hq
      have HQ2 : Hd (min (t.l.length : Int) (R : Int) = (q : Int)) := ⟨by omega⟩
      have hq1 : 1 ≤ q := by omega
      have hqR : q ≤ R := by omega
      have HQL : Hd (q ≤ t.l.length) := ⟨by omega⟩
      have hql : (q : Int) ≤ (t.l.length : Int) := by omega
      have hql2 : q ≤ t.l.length := by omega
      have HLEN := Hd.mk hlen
      have hqc : ¬ c < q := by omega
      have hqc2 : q ≤ c := by omega
      clear hq hlt hlen hcap
      rename_i KQ hKQ
      refine regionK (fun w' : World => w'.cell? ⟨T, 1, none⟩ = some (.slice A t.l.length c)) 16 (by kernel_rfl) (fun wd hb => ?_)
      replace H1 := Hd.mk (H1.out.below hb)
      replace HO := Hd.mk (HO.out.below hb)
      clear hb
      have hHd : (fun w' : World => w'.cell? ⟨T, 1, none⟩ = some (.slice A t.l.length c)) wd := H1.out.all.1.2.1
      have HQ3 := Hd.mk (Kd.Q_take H1.out.ql (m := q) (by rw [HLEN.out]; exact hql2))
      have XC := Hd.mk (copied_calls (l := t.l.take q) (A := A) (c := c) (by rw [List.length_take, Nat.min_eq_left hql2]; exact HQ3.out) (all2_take q H1.out.fl) (fun x hx => by have h1 := (HK.out.rows x (List.mem_of_mem_take hx)).1; have h2 := HK.out.c1; have h3 := HK.out.c2; omega) (by rw [List.length_take]; omega))
      rw [List.length_take, Nat.min_eq_left hql2] at XC
      refine wpAnyK_take (i := 0) (v := ?v43) rfl (by kernel_rfl) (by kernel_rfl) (by kernel_rfl) (by kernel_rfl) (fun _ _ _ h => h) (Or.inl ⟨by rfl, ?hy43⟩) (by assumption) ?rest43
      case hy43 => (intro w hSw; (try dsimp only at hSw); go_simp; try (with_reducible rfl))
      case rest43 =>
      try simp only [Act.put, List.setIfInBounds_toArray, List.set_cons_zero, List.set_cons_succ]
      refine wpAnyK_take (i := 1) (v := ?v44) rfl (by kernel_rfl) (by kernel_rfl) (by kernel_rfl) (by kernel_rfl) (fun _ _ _ h => h) (Or.inl ⟨by rfl, ?hy44⟩) (by assumption) ?rest44
      case hy44 => (intro w hSw; (try dsimp only at hSw); go_simp; try (with_reducible rfl))
      case rest44 =>
      try simp only [Act.put, List.setIfInBounds_toArray, List.set_cons_zero, List.set_cons_succ]
      refine wpAnyK_take (i := 2) (v := ?v45) rfl (by kernel_rfl) (by kernel_rfl) (by kernel_rfl) (by kernel_rfl) (fun _ _ _ h => h) (Or.inl ⟨by rfl, ?hy45⟩) (by assumption) ?rest45
      case hy45 => (intro w hSw; (try dsimp only at hSw); go_simp; try (with_reducible rfl))
      case rest45 =>
      try simp only [Act.put, List.setIfInBounds_toArray, List.set_cons_zero, List.set_cons_succ]
      refine wpAnyK_take (i := 3) (v := ?v46) rfl (by kernel_rfl) (by kernel_rfl) (by kernel_rfl) (by kernel_rfl) (fun _ _ _ h => h) (Or.inl ⟨by rfl, ?hy46⟩) (by assumption) ?rest46
      case hy46 => (intro w hSw; (try dsimp only at hSw); go_simp; try (with_reducible rfl))
      case rest46 =>
      try simp only [Act.put, List.setIfInBounds_toArray, List.set_cons_zero, List.set_cons_succ]
      refine wpAnyK_take (i := 4) (v := ?v47) rfl (by kernel_rfl) (by kernel_rfl) (by kernel_rfl) (by kernel_rfl) (fun _ _ _ h => h) (Or.inl ⟨by rfl, ?hy47⟩) (by assumption) ?rest47
      case hy47 => (intro w hSw; (try dsimp only at hSw); go_simp; try (with_reducible rfl))
      case rest47 =>
      try simp only [Act.put, List.setIfInBounds_toArray, List.set_cons_zero, List.set_cons_succ]
      refine wpAnyK_take (i := 5) (v := ?v48) rfl (by kernel_rfl) (by kernel_rfl) (by kernel_rfl) (by kernel_rfl) (fun _ _ _ h => h) (Or.inl ⟨by rfl, ?hy48⟩) (by assumption) ?rest48
      case hy48 => (intro w hSw; (try dsimp only at hSw); go_simp; try (with_reducible rfl))
      case rest48 =>
      try simp only [Act.put, List.setIfInBounds_toArray, List.set_cons_zero, List.set_cons_succ]
      refine wpAnyK_take (i := 6) (v := ?v49) rfl (by kernel_rfl) (by kernel_rfl) (by kernel_rfl) (by kernel_rfl) (fun _ _ _ h => h) (Or.inl ⟨by rfl, ?hy49⟩) (by assumption) ?rest49
      case hy49 => (intro w hSw; (try dsimp only at hSw); go_simp; try (with_reducible rfl))
      case rest49 =>
      try simp only [Act.put, List.setIfInBounds_toArray, List.set_cons_zero, List.set_cons_succ]
      refine wpAnyK_take (i := 7) (v := ?v50) rfl (by kernel_rfl) (by kernel_rfl) (by kernel_rfl) (by kernel_rfl) (fun _ _ _ h => h) (Or.inl ⟨by rfl, ?hy50⟩) (by assumption) ?rest50
      case hy50 => (intro w hSw; (try dsimp only at hSw); go_simp; try (with_reducible rfl))
      case rest50 =>
      try simp only [Act.put, List.setIfInBounds_toArray, List.set_cons_zero, List.set_cons_succ]
      refine wpAnyK_take (i := 8) (v := ?v51) rfl (by kernel_rfl) (by kernel_rfl) (by kernel_rfl) (by kernel_rfl) (fun _ _ _ h => h) (Or.inl ⟨by rfl, ?hy51⟩) (by assumption) ?rest51
      case hy51 => (intro w hSw; (try dsimp only at hSw); go_simp; try (with_reducible rfl))
      case rest51 =>
      try simp only [Act.put, List.setIfInBounds_toArray, List.set_cons_zero, List.set_cons_succ]
      refine wpAnyK_take (i := 9) (v := ?v52) rfl (by kernel_rfl) (by kernel_rfl) (by kernel_rfl) (by kernel_rfl) (fun _ _ _ h => h) (Or.inl ⟨by rfl, ?hy52⟩) (by assumption) ?rest52
      case hy52 => (intro w hSw; (try dsimp only at hSw); go_simp; try (with_reducible rfl))
      case rest52 =>
      try simp only [Act.put, List.setIfInBounds_toArray, List.set_cons_zero, List.set_cons_succ]
      refine wpAnyK_take (i := 10) (v := ?v53) rfl (by kernel_rfl) (by kernel_rfl) (by kernel_rfl) (by kernel_rfl) (fun _ _ _ h => h) (Or.inl ⟨by rfl, ?hy53⟩) (by assumption) ?rest53
      case hy53 => (intro w hSw; (try dsimp only at hSw); go_simp; try (with_reducible rfl))
      case rest53 =>
      try simp only [Act.put, List.setIfInBounds_toArray, List.set_cons_zero, List.set_cons_succ]
      refine wpAnyK_take (i := 11) (v := (.int .i64 (q : Int))) rfl (by kernel_rfl) (by kernel_rfl) (by kernel_rfl) (by kernel_rfl) (fun _ _ _ h => h) (Or.inl ⟨by rfl, ?hy54⟩) (by assumption) ?rest54
      case hy54 => (intro w hSw; (try dsimp only at hSw); go_simp; first | exact HQ2.out | (rw [← HQ2.out]; done))
      case rest54 =>
      try simp only [Act.put, List.setIfInBounds_toArray, List.set_cons_zero, List.set_cons_succ]
      refine wpAnyK_take (i := 12) (v := (.slice A q c)) rfl (by kernel_rfl) (by kernel_rfl) (by kernel_rfl) (by kernel_rfl) (fun _ _ _ h => h) (Or.inl ⟨by rfl, ?hy55⟩) (by assumption) ?rest55
      case hy55 => (intro w hSw; (try dsimp only at hSw); go_simp; try (with_reducible rfl))
      case rest55 =>
      try simp only [Act.put, List.setIfInBounds_toArray, List.set_cons_zero, List.set_cons_succ]
      refine wpAnyK_ready (rs := [13]) (by kernel_rfl) (by simp) ?_
      refine AllReadyK.cons rfl (fun K hK => ?_) AllReadyK.nil
      go_simp
      go_at_call 30
      with_reducible refine XC.out.mono ?_
      rintro _ wq ⟨v1, L1, rfl, hr, hb⟩
      have HR1 := Hd.mk hr
      have HB1 := Hd.mk hb
      have HYq := Hd.mk (H1.out.y)
      have HNG : Hd ((G.map RR.g).Nodup ∧ ∀ r ∈ G, r.g < wd.heap.size) := ⟨(List.nodup_append.1 (by have h2 := H1.out.nd; rw [List.map_append] at h2; exact h2)).2.1, fun r hr => by obtain ⟨l, hl⟩ := H1.out.row_lt (List.mem_append_right _ hr); exact hl.lt⟩
      have hHd2 : (fun w' : World => w'.cell? ⟨T, 1, none⟩ = some (.slice A t.l.length c)) wq := (H1.out.below hb).all.1.2.1
      have hcf : wq.frozen? ⟨T, 1, none⟩ = false := (H1.out.below hb).all.2 1
      clear hr hb XC hHd HQ3
      go_simp
      refine hK.out _ _ (.inr hHd2) ?_
      clear hK K
      try simp only [Act.put, List.setIfInBounds_toArray, List.set_cons_zero, List.set_cons_succ]
      obtain ⟨Av, cv, rfl, _⟩ := Kd.Q_slice HR1.out.q
      have hl1 : L1.length = q := by rw [forall_len HR1.out.f, List.length_take, Nat.min_eq_left hql2]
      skip
      refine wpAnyK_ready (rs := [14]) (by kernel_rfl) (by simp) ?_
      refine AllReadyK.cons rfl (fun K hK => ?_) AllReadyK.nil
      refine pure_step (by first | rfl | (go_simp; done) | (go_simp; rfl)) (v := .pointer (some ⟨T, 0, none⟩)) (by first | (go_simp; done) | (go_simp; rfl)) ?_
      refine hK.out _ _ (.inr (by assumption)) ?_
      clear hK K
      try simp only [Act.put, List.setIfInBounds_toArray, List.set_cons_zero, List.set_cons_succ]
      refine wpAnyK_take (i := 15) (v := ?v56) rfl (by kernel_rfl) (by kernel_rfl) (by kernel_rfl) (by kernel_rfl) (fun _ _ _ h => h) (Or.inl ⟨by rfl, ?hy56⟩) (by assumption) ?rest56
      case hy56 => (intro w hSw; (try dsimp only at hSw); go_simp; try (with_reducible rfl))
      case rest56 =>
      try simp only [Act.put, List.setIfInBounds_toArray, List.set_cons_zero, List.set_cons_succ]
      refine wpAnyK_ready (rs := [16]) (by kernel_rfl) (by simp) ?_
      refine AllReadyK.cons rfl (fun K hK => ?_) AllReadyK.nil
      rw [if_pos (by first | rfl | (go_simp; done) | (go_simp; rfl))]
      refine cell_step rfl rfl (g := T) (i := 1) (v := .slice Av L1.length cv) (by first | rfl | (go_simp; done) | (go_simp; rfl)) (by first | rfl | (go_simp; done) | (go_simp; rfl)) hHd2 hcf info_row1 rfl ?_
      obtain ⟨HYz, HOz⟩ := HYq.out.newL HB1.out (Kd.Q_mono (Kd.Q_lower HR1.out.q (Nat.zero_le _)) (fun k hk => HP.out k (Nat.le_trans HO.out.size hk))) (fun k hk => Kd.Q_base HR1.out.q k hk) HR1.out.f (fun r hr => HP.out _ (Nat.le_trans HO.out.size (HR1.out.ge r hr)))
      have HT2 := Hd.mk (HYz.o (by
        rw [List.map_append, List.nodup_append]
        refine ⟨HR1.out.nd, HNG.out.1, fun a ha b hb => ?_⟩
        obtain ⟨r, hr, rfl⟩ := List.mem_map.1 ha
        obtain ⟨r', hr', rfl⟩ := List.mem_map.1 hb
        have h1 := HR1.out.ge r hr
        have h2 := HNG.out.2 r' hr'
        omega))
      have HO2 := Hd.mk (HO.out.trans HOz (fun _ _ h => h))
      clear HYz HOz HYq HR1 HB1 HNG hHd2 hcf H1 HO
      refine hK.out _ _ (.inl (by kernel_rfl)) ?_
      clear hK K
      try simp only [Act.put, List.setIfInBounds_toArray, List.set_cons_zero, List.set_cons_succ]
      refine wpAnyK_done (by kernel_rfl) ?_ _
      refine hKQ _ _ ?_
      generalize wq.setCell ⟨T, 1, none⟩ (.slice Av L1.length cv) = w2 at *
      rw [hl1]
      rw [hl1] at HT2
      have hl2 : (t.l.take q).length = q := by rw [List.length_take, Nat.min_eq_left hql2]
      have HL0 : Hd (∀ x ∈ t.l.take q, x.length = t.cols) := ⟨fun x hx => (HK.out.rows x (List.mem_of_mem_take hx)).1⟩
      have HL0R : Hd (∀ x ∈ t.l.take q, OKrow t.cols M' x) := ⟨fun x hx => HK.out.rows x (List.mem_of_mem_take hx)⟩
      have HCC : Hd (1 ≤ t.cols ∧ t.cols ≤ 120) := ⟨HK.out.c1, HK.out.c2⟩
      have hTR : t.l.take R = t.l.take q := by
        have hq0 := HQ.out
        rcases Nat.le_total R t.l.length with h | h
        · rw [show q = R by omega]
        · rw [List.take_of_length_le h, List.take_of_length_le (by omega)]
      have HFF := HF
      rw [hTR] at HFF
      clear hTR
      obtain ⟨ad, rfl, zz1, zz2⟩ := spine_cell HT2.out.ql (i := 0) (by omega)
      clear zz1 zz2
      obtain ⟨l0, hl0⟩ : ∃ l0, t.l.take q = l0 := ⟨_, rfl⟩
      rw [hl0] at HT2 hl2 HL0 HL0R HFF
      clear HF
      skip
      clear hl0 hqc hqc2 hql hql2 HQL HQ HQ2 HLEN hr1 hr2 hrl
      have c1 := HT2.out.all.1.2.1
      have f1 := HT2.out.all.2
      go_upto_region 9 with fail
      clear c1 f1
      go_loopg [93] q (fun kq v93 wx => ∃ (k : Nat) (u : Tm) (L : List RR), v93 = .int .i64 (k : Int) ∧ k + kq = q ∧ Hd (TermO P wx T u (.slice (some ad) q cv) gv bv L G) ∧ Hd (u = { t with l := (l0.take k).map (fitR C) ++ l0.drop k }) ∧ Hd (Only P w1 wx))
      case atStart => exact ⟨0, _, L1, rfl, by omega, HT2, ⟨by simp⟩, HO2⟩
      case round =>
        clear HT2 HO2
        obtain ⟨k, u, L, rfl, hk, HU, HE, HO⟩ := hrel
        have hll : u.l.length = q := by rw [HE.out]; show ((l0.take k).map (fitR C) ++ l0.drop k).length = q; rw [List.length_append, List.length_map, List.length_take, List.length_drop]; omega
        have hLl : L.length = q := by rw [forall_len HU.out.fl, hll]
        cases gk with
        | zero =>
          have hlt : decide ((k : Int) < (q : Int)) = false := decide_eq_false (by omega)
          have hlt2 : decide (k < q) = false := decide_eq_false (by omega)
          obtain ⟨lf, hlf⟩ : ∃ lf, l0.map (fitR C) = lf := ⟨_, rfl⟩
          have HLF : Hd (lf.length = q) := ⟨by rw [← hlf, List.length_map]; omega⟩
          have HE2 : Hd (u = { t with l := lf }) := ⟨by rw [HE.out, List.take_of_length_le (by omega), List.drop_eq_nil_of_le (by omega), List.append_nil, hlf]⟩
          rw [hlf, HLF.out] at HFF
          have HLFR : Hd (∀ x ∈ lf, OKrow C M' x) := ⟨fun x hx => by
            rw [← hlf] at hx
            obtain ⟨y, hy, rfl⟩ := List.mem_map.1 hx
            exact (HL0R.out y hy).fit hc.1 (by have := HK.out.m; omega)⟩
          clear hlf HE hk hLl hll hl2 hl1
          go_wp2_with fail
          go_loopg [] (R - q) (fun kq wx => ∃ (j : Nat) (u2 : Tm) (lv2 : Value) (L2 : List RR), j + kq = R - q ∧ Hd (TermO P wx T u2 lv2 gv bv L2 G) ∧ Hd (u2 = { t with l := lf ++ List.replicate j (blankR C) }) ∧ Hd (Only P w1 wx))
          case atStart => exact ⟨0, u, _, L, by omega, HU, ⟨by rw [HE2.out]; simp⟩, HO⟩
          case round =>
            clear HU HO HE2
            obtain ⟨j, u2, lv2, L2, hj, HU2, HE3, HO2⟩ := hrel
            have hz0 : L2.length = q + j := by rw [forall_len HU2.out.fl, HE3.out]; show (lf ++ List.replicate j (blankR C)).length = q + j; rw [List.length_append, List.length_replicate, HLF.out]
            obtain ⟨A2, c2, rfl, _⟩ := Kd.Q_slice HU2.out.ql
            obtain ⟨z, hz⟩ : ∃ z, L2.length = z := ⟨_, rfl⟩
            have HZ : Hd (L2.length = z ∧ z ≤ 60) := ⟨by omega⟩
            rw [hz] at HU2
            have t1 := HU2.out.all.1.2.1
            have tf := HU2.out.all.2
            by_cases hzR : z < R
            · obtain ⟨e, rfl⟩ : ∃ e, gk = e + 1 := ⟨gk - 1, by omega⟩
              have r1 : decide ((z : Int) < (R : Int)) = true := decide_eq_true (by omega)
              have r2 : decide (z < R) = true := decide_eq_true hzR
              clear hz0 hz
              go_upto_region 18 with fail
              clear t1 tf
              rename_i KQ hKQ
              refine regionK (fun w' : World => w'.cell? ⟨T, 1, none⟩ = some (.slice A2 z c2)) 11 (by kernel_rfl) (fun wd hb => ?_)
              have HUd := Hd.mk (HU2.out.below hb)
              have HOd := Hd.mk (HO2.out.below hb)
              clear hb HU2 HO2
              have hHd : (fun w' : World => w'.cell? ⟨T, 1, none⟩ = some (.slice A2 z c2)) wd := HUd.out.all.1.2.1
              have XB := Hd.mk (blank_calls C hc.1 (by omega) wd)
              refine wpAnyK_take (i := 0) (v := ?v27) rfl (by kernel_rfl) (by kernel_rfl) (by kernel_rfl) (by kernel_rfl) (fun _ _ _ h => h) (Or.inl ⟨by rfl, ?hy27⟩) (by assumption) ?rest27
              case hy27 => (intro w hSw; (try dsimp only at hSw); go_simp; try (with_reducible rfl))
              case rest27 =>
              try simp only [Act.put, List.setIfInBounds_toArray, List.set_cons_zero, List.set_cons_succ]
              refine wpAnyK_take (i := 1) (v := ?v28) rfl (by kernel_rfl) (by kernel_rfl) (by kernel_rfl) (by kernel_rfl) (fun _ _ _ h => h) (Or.inl ⟨by rfl, ?hy28⟩) (by assumption) ?rest28
              case hy28 => (intro w hSw; (try dsimp only at hSw); go_simp; try (with_reducible rfl))
              case rest28 =>
              try simp only [Act.put, List.setIfInBounds_toArray, List.set_cons_zero, List.set_cons_succ]
              refine wpAnyK_take (i := 2) (v := ?v29) rfl (by kernel_rfl) (by kernel_rfl) (by kernel_rfl) (by kernel_rfl) (fun _ _ _ h => h) (Or.inl ⟨by rfl, ?hy29⟩) (by assumption) ?rest29
              case hy29 => (intro w hSw; (try dsimp only at hSw); go_simp; try (with_reducible rfl))
              case rest29 =>
              try simp only [Act.put, List.setIfInBounds_toArray, List.set_cons_zero, List.set_cons_succ]
              refine wpAnyK_take (i := 3) (v := ?v30) rfl (by kernel_rfl) (by kernel_rfl) (by kernel_rfl) (by kernel_rfl) (fun _ _ _ h => h) (Or.inl ⟨by rfl, ?hy30⟩) (by assumption) ?rest30
              case hy30 => (intro w hSw; (try dsimp only at hSw); go_simp; try (with_reducible rfl))
              case rest30 =>
              try simp only [Act.put, List.setIfInBounds_toArray, List.set_cons_zero, List.set_cons_succ]
              refine wpAnyK_take (i := 4) (v := ?v31) rfl (by kernel_rfl) (by kernel_rfl) (by kernel_rfl) (by kernel_rfl) (fun _ _ _ h => h) (Or.inl ⟨by rfl, ?hy31⟩) (by assumption) ?rest31
              case hy31 => (intro w hSw; (try dsimp only at hSw); go_simp; try (with_reducible rfl))
              case rest31 =>
              try simp only [Act.put, List.setIfInBounds_toArray, List.set_cons_zero, List.set_cons_succ]
              refine wpAnyK_take (i := 5) (v := ?v32) rfl (by kernel_rfl) (by kernel_rfl) (by kernel_rfl) (by kernel_rfl) (fun _ _ _ h => h) (Or.inl ⟨by rfl, ?hy32⟩) (by assumption) ?rest32
              case hy32 => (intro w hSw; (try dsimp only at hSw); go_simp; try (with_reducible rfl))
              case rest32 =>
              try simp only [Act.put, List.setIfInBounds_toArray, List.set_cons_zero, List.set_cons_succ]
              refine wpAnyK_ready (rs := [6]) (by kernel_rfl) (by simp) ?_
              refine AllReadyK.cons rfl (fun K hK => ?_) AllReadyK.nil
              go_simp
              go_at_call 28
              with_reducible refine XB.out.mono ?_
              rintro _ wq ⟨rn, rfl, hrn, hrg, hra, hb⟩
              have HRN : Hd (∀ r ∈ L2 ++ G, r.g ≠ rn.g) := ⟨fun r hr e => by obtain ⟨l9, h9⟩ := HUd.out.row_lt hr; have := h9.lt; omega⟩
              have HPR : Hd (P rn.g) := ⟨HP.out _ (Nat.le_trans HOd.out.size hrg)⟩
              have HRA := Hd.mk hra
              have HUq := Hd.mk (HUd.out.below hb)
              have HOq := Hd.mk (HOd.out.below hb)
              clear hrn hrg hra hb XB hHd HUd HOd
              have hHd : (fun w' : World => w'.cell? ⟨T, 1, none⟩ = some (.slice A2 z c2)) wq := HUq.out.all.1.2.1
              go_simp
              refine hK.out _ _ (.inr hHd) ?_
              clear hK K
              try simp only [Act.put, List.setIfInBounds_toArray, List.set_cons_zero, List.set_cons_succ]
              refine wpAnyK_ready (rs := [7]) (by kernel_rfl) (by simp) ?_
              refine AllReadyK.cons rfl (fun K hK => ?_) AllReadyK.nil
              refine build1_step (by first | rfl | (go_simp; done) | (go_simp; rfl)) (N := 144) rfl (v := .slice (some ⟨rn.g, 0, none⟩) rn.n rn.c) (by first | (unfold RR.v; go_simp; done) | (unfold RR.v; go_simp; rfl)) ?_
              refine hK.out _ _ (.inr (Lib.cell?_alloc_some _ hHd)) ?_
              clear hK K
              try simp only [Act.put, List.setIfInBounds_toArray, List.set_cons_zero, List.set_cons_succ]
              refine wpAnyK_ready (rs := [8]) (by kernel_rfl) (by simp) ?_
              refine AllReadyK.cons rfl (fun K hK => ?_) AllReadyK.nil
              refine Kd.Q_append_step rrK (w0 := wq) (W := wq) 0 (by first | rfl | (go_simp; done) | (go_simp; rfl)) (.tmp 141) (.tmp 144) 55 29 (.slice none 0 0) 24 rfl Tryz.underlying55 infoRowz rfl (by decide) (by omega) (.slice A2 z c2) L2 rn [RR.v rn] P (fun _ => False) rfl rfl rfl (fun _ hk => hk.elim) (fun k hk => HP.out k (Nat.le_trans HOq.out.size hk)) HUq.out.ql (Below.refl _ _) (Nat.zero_le _) (by have := HZ.out; omega) ?_
              intro v1 w3 hq_ hb_ hg_ ha_
              have hne : (Value.slice A2 z c2).ownBlock ≠ some T := HUq.out.apart.1
              obtain ⟨HTz, HOz⟩ := HUq.out.pushL HRA.out HRN.out HPR.out hq_ hg_ ha_
              have hHd2 : (fun w' : World => w'.cell? ⟨T, 1, none⟩ = some (.slice A2 z c2)) w3 := cell_grown hg_ hHd (fun e => hne e.symm)
              have cf : w3.frozen? ⟨T, 1, none⟩ = false := (HUq.out.b.to (hg_.block T HUq.out.b.lt (fun e => hne e.symm))).frozen 1
              obtain ⟨A1, c1, rfl, _⟩ := Kd.Q_slice hq_
              have HT3 := Hd.mk HTz
              have HO3 := Hd.mk (HOq.out.trans HOz (fun _ _ h => h))
              clear HTz HOz hq_ hb_ hg_ ha_ HUq HOq HRA HRN hHd hne
              refine hK.out _ _ (.inr hHd2) ?_
              clear hK K
              try simp only [Act.put, List.setIfInBounds_toArray, List.set_cons_zero, List.set_cons_succ]
              refine wpAnyK_ready (rs := [9]) (by kernel_rfl) (by simp) ?_
              refine AllReadyK.cons rfl (fun K hK => ?_) AllReadyK.nil
              refine pure_step (by first | rfl | (go_simp; done) | (go_simp; rfl)) (v := .pointer (some ⟨T, 0, none⟩)) (by first | (go_simp; done) | (go_simp; rfl)) ?_
              refine hK.out _ _ (.inr (by assumption)) ?_
              clear hK K
              try simp only [Act.put, List.setIfInBounds_toArray, List.set_cons_zero, List.set_cons_succ]
              refine wpAnyK_take (i := 10) (v := ?v33) rfl (by kernel_rfl) (by kernel_rfl) (by kernel_rfl) (by kernel_rfl) (fun _ _ _ h => h) (Or.inl ⟨by rfl, ?hy33⟩) (by assumption) ?rest33
              case hy33 => (intro w hSw; (try dsimp only at hSw); go_simp; try (with_reducible rfl))
              case rest33 =>
              try simp only [Act.put, List.setIfInBounds_toArray, List.set_cons_zero, List.set_cons_succ]
              refine wpAnyK_ready (rs := [11]) (by kernel_rfl) (by simp) ?_
              refine AllReadyK.cons rfl (fun K hK => ?_) AllReadyK.nil
              rw [if_pos (by first | rfl | (go_simp; done) | (go_simp; rfl))]
              refine cell_step rfl rfl (g := T) (i := 1) (v := .slice A1 (L2 ++ [rn]).length c1) (by first | rfl | (go_simp; done) | (go_simp; rfl)) (by first | rfl | (go_simp; done) | (go_simp; rfl)) hHd2 cf info_row1 rfl ?_
              clear hHd2 cf
              refine hK.out _ _ (.inl (by kernel_rfl)) ?_
              clear hK K
              try simp only [Act.put, List.setIfInBounds_toArray, List.set_cons_zero, List.set_cons_succ]
              refine wpAnyK_done (by kernel_rfl) ?_ _
              refine hKQ _ _ ?_
              generalize w3.setCell ⟨T, 1, none⟩ (.slice A1 (L2 ++ [rn]).length c1) = w9 at *
              go_wp2
              go_roundg e
              case measure => omega
              case rel => exact ⟨j + 1, _, _, L2 ++ [rn], by omega, HT3, ⟨by rw [HE3.out]; show ({ t with l := (lf ++ List.replicate j (blankR C)) ++ [blankR C] } : Tm) = _; rw [List.append_assoc, List.replicate_succ']⟩, HO3⟩
            · have r1 : decide ((z : Int) < (R : Int)) = false := decide_eq_false (by omega)
              have r2 : decide (z < R) = false := decide_eq_false hzR
              have HJ : Hd (j = R - q) := ⟨by omega⟩
              have t0 := HU2.out.all.1.1
              clear hz0 hz hj
              go_upto_region 20 with fail
              clear t0 t1 tf
              have HU5 := Hd.mk (HU2.out.cols_ C)
              have HO5 := Hd.mk (HO2.out.setCell (p := ⟨T, 0, none⟩) (.inl HU2.out.pt) (.int .i64 (C : Int)))
              generalize wr.setCell ⟨T, 0, none⟩ (.int .i64 (C : Int)) = w5 at *
              have HE5 : Hd (({ u2 with cols := C } : Tm) = { t with cols := C, l := lf ++ List.replicate (R - q) (blankR C) }) := ⟨by rw [HE3.out, HJ.out]⟩
              rw [HE5.out] at HU5
              have HK5 : Hd (1 ≤ (lf ++ List.replicate (R - q) (blankR C)).length ∧ (lf ++ List.replicate (R - q) (blankR C)).length ≤ 60 ∧ 1 ≤ C ∧ C ≤ 120) := ⟨by rw [List.length_append, List.length_replicate, HLF.out]; omega⟩
              clear HE5 HE3 HZ HJ HU2 HO2
              refine regionK (fun w' : World => w'.cell? ⟨T, 4, none⟩ = some (.int .i64 (t.row : Int)) ∧ w'.cell? ⟨T, 5, none⟩ = some (.int .i64 (t.col : Int))) 9 (by kernel_rfl) (fun wd hb => ?_)
              have HUe := Hd.mk (HU5.out.below hb)
              have HOe := Hd.mk (HO5.out.below hb)
              clear hb HU5 HO5
              have hHd : (fun w' : World => w'.cell? ⟨T, 4, none⟩ = some (.int .i64 (t.row : Int)) ∧ w'.cell? ⟨T, 5, none⟩ = some (.int .i64 (t.col : Int))) wd := ⟨HUe.out.all.1.2.2.2.2.1, HUe.out.all.1.2.2.2.2.2.1⟩
              have XT := Hd.mk (to_calls HUe.out.at_ HK5.out (t.row : Int) (t.col : Int))
              refine wpAnyK_take2 (i := 0) (v := ?v34) [] rfl (by kernel_rfl) (by kernel_rfl) (by kernel_rfl) (by kernel_rfl) (fun _ _ _ h => h) (Or.inl ⟨by rfl, ?hy34⟩) (by assumption) ?rest34
              case hy34 => (intro w hSw; (try dsimp only at hSw); go_simp; try (with_reducible rfl))
              case rest34 =>
              try simp only [Act.put, List.setIfInBounds_toArray, List.set_cons_zero, List.set_cons_succ]
              refine wpAnyK_take2 (i := 1) (v := ?v35) [4, 3, 2] rfl (by kernel_rfl) (by kernel_rfl) (by kernel_rfl) (by kernel_rfl) (fun _ _ _ h => h) (Or.inl ⟨by rfl, ?hy35⟩) (by assumption) ?rest35
              case hy35 => (intro w hSw; (try dsimp only at hSw); go_simp; try (with_reducible rfl))
              case rest35 =>
              try simp only [Act.put, List.setIfInBounds_toArray, List.set_cons_zero, List.set_cons_succ]
              refine wpAnyK_take2 (i := 2) (v := ?v36) [4, 3] rfl (by kernel_rfl) (by kernel_rfl) (by kernel_rfl) (by kernel_rfl) (fun _ _ _ h => h) (Or.inl ⟨by rfl, ?hy36⟩) (by assumption) ?rest36
              case hy36 => (intro w hSw; (try dsimp only at hSw); go_simp; try (with_reducible rfl))
              case rest36 =>
              try simp only [Act.put, List.setIfInBounds_toArray, List.set_cons_zero, List.set_cons_succ]
              refine wpAnyK_take2 (i := 3) (v := ?v37) [4] rfl (by kernel_rfl) (by kernel_rfl) (by kernel_rfl) (by kernel_rfl) (fun _ _ _ h => h) (Or.inl ⟨by rfl, ?hy37⟩) (by assumption) ?rest37
              case hy37 => (intro w hSw; (try dsimp only at hSw); go_simp; try (with_reducible rfl))
              case rest37 =>
              try simp only [Act.put, List.setIfInBounds_toArray, List.set_cons_zero, List.set_cons_succ]
              refine wpAnyK_take2 (i := 4) (v := ?v38) [] rfl (by kernel_rfl) (by kernel_rfl) (by kernel_rfl) (by kernel_rfl) (fun _ _ _ h => h) (Or.inl ⟨by rfl, ?hy38⟩) (by assumption) ?rest38
              case hy38 => (intro w hSw; (try dsimp only at hSw); go_simp; try (with_reducible rfl))
              case rest38 =>
              try simp only [Act.put, List.setIfInBounds_toArray, List.set_cons_zero, List.set_cons_succ]
              refine wpAnyK_take2 (i := 5) (v := ?v39) [8, 7, 6] rfl (by kernel_rfl) (by kernel_rfl) (by kernel_rfl) (by kernel_rfl) (fun _ _ _ h => h) (Or.inl ⟨by rfl, ?hy39⟩) (by assumption) ?rest39
              case hy39 => (intro w hSw; (try dsimp only at hSw); go_simp; try (with_reducible rfl))
              case rest39 =>
              try simp only [Act.put, List.setIfInBounds_toArray, List.set_cons_zero, List.set_cons_succ]
              refine wpAnyK_take2 (i := 6) (v := ?v40) [8, 7] rfl (by kernel_rfl) (by kernel_rfl) (by kernel_rfl) (by kernel_rfl) (fun _ _ _ h => h) (Or.inl ⟨by rfl, ?hy40⟩) (by assumption) ?rest40
              case hy40 => (intro w hSw; (try dsimp only at hSw); go_simp; try (with_reducible rfl))
              case rest40 =>
              try simp only [Act.put, List.setIfInBounds_toArray, List.set_cons_zero, List.set_cons_succ]
              refine wpAnyK_take2 (i := 7) (v := ?v41) [8] rfl (by kernel_rfl) (by kernel_rfl) (by kernel_rfl) (by kernel_rfl) (fun _ _ _ h => h) (Or.inl ⟨by rfl, ?hy41⟩) (by assumption) ?rest41
              case hy41 => (intro w hSw; (try dsimp only at hSw); go_simp; try (with_reducible rfl))
              case rest41 =>
              try simp only [Act.put, List.setIfInBounds_toArray, List.set_cons_zero, List.set_cons_succ]
              refine wpAnyK_take2 (i := 8) (v := ?v42) [] rfl (by kernel_rfl) (by kernel_rfl) (by kernel_rfl) (by kernel_rfl) (fun _ _ _ h => h) (Or.inl ⟨by rfl, ?hy42⟩) (by assumption) ?rest42
              case hy42 => (intro w hSw; (try dsimp only at hSw); go_simp; try (with_reducible rfl))
              case rest42 =>
              try simp only [Act.put, List.setIfInBounds_toArray, List.set_cons_zero, List.set_cons_succ]
              refine wpAnyK_ready (rs := [9]) (by kernel_rfl) (by simp) ?_
              refine AllReadyK.cons rfl (fun K hK => ?_) AllReadyK.nil
              go_simp
              go_at_call 32
              with_reducible refine XT.out.mono ?_
              rintro _ wz ⟨rfl, ht, ho⟩
              rw [HFF.out] at ht
              have HTZ := Hd.mk ht
              have HOZ := Hd.mk (HOe.out.trans ho (fun _ _ h => h))
              clear ht ho XT
              go_simp
              refine hK.out _ _ (.inl (by kernel_rfl)) ?_
              clear hK K
              try simp only [Act.put, List.setIfInBounds_toArray, List.set_cons_zero, List.set_cons_succ]
              refine wpAnyK_done (by kernel_rfl) ?_ _
              go_end0
              exact ⟨rfl, HTZ.out, HOZ.out⟩
              skip
        | succ d =>
          have hkl : k < l0.length := by omega
          have hkL : k < L.length := by omega
          have hlt : decide ((k : Int) < (q : Int)) = true := decide_eq_true (by omega)
          have hlt2 : decide (k < q) = true := decide_eq_true (by omega)
          have hk0 : (0 : Int) ≤ (k : Int) := Int.natCast_nonneg _
          have hk1 : (k : Int) < (q : Int) := by omega
          obtain ⟨hcell, hfz, hsh⟩ := HU.out.spine_at hkL (Only.refl _ wr)
          have hrow := forall_get HU.out.fl k hkL (by omega)
          have hul : u.l[k]'(by omega) = l0[k] := by
            have h1 := fit_get (fitR C) hkl
            have h2 : u.l[k]? = some l0[k] := by rw [HE.out]; exact h1
            rw [List.getElem?_eq_getElem (by omega)] at h2
            exact Option.some.inj h2
          rw [hul] at hrow
          have hDl : (l0[k]).length = t.cols := HL0.out _ (List.getElem_mem _)
          have HCL : Hd (∀ (w3 : World) (r1 : RR), Only (· = L[k].g) wr w3 → (r1.g = L[k].g ∨ wr.heap.size ≤ r1.g) → RowAt w3 r1 (fitR C l0[k]) → TermO P (w3.setCell (ad.add k) r1.v) T { t with l := (l0.take (k + 1)).map (fitR C) ++ l0.drop (k + 1) } (.slice (some ad) q cv) gv bv (L.set k r1) G ∧ Only P w1 (w3.setCell (ad.add k) r1.v)) := ⟨fun w3 r1 ho hat hr => by
            have hP1 : P r1.g := by
              rcases hat with e | e
              · rw [e]; exact HU.out.pr _ (List.mem_append_left _ (List.getElem_mem _))
              · exact HP.out _ (Nat.le_trans HO.out.size e)
            obtain ⟨h1, h2⟩ := HU.out.put_row hkL ho hat hr hP1
            have e : ({ u with l := u.l.set k (fitR C l0[k]) } : Tm) = { t with l := (l0.take (k + 1)).map (fitR C) ++ l0.drop (k + 1) } := by
              rw [HE.out]
              show ({ t with l := ((l0.take k).map (fitR C) ++ l0.drop k).set k (fitR C l0[k]) } : Tm) = _
              rw [fit_step (fitR C) hkl]
            rw [e] at h1
            exact ⟨h1, HO.out.trans h2 (fun _ _ h => h)⟩⟩
          have HSP : Hd (∀ w3, Only (· = L[k].g) wr w3 → w3.cell? (ad.add k) = some (L[k].v) ∧ w3.frozen? (ad.add k) = false ∧ ad.add k = ⟨(ad.add k).block, (ad.add k).off, none⟩) := ⟨fun w3 ho => HU.out.spine_at hkL ho⟩
          have HT1 : Hd (∀ w3, Only (· = L[k].g) wr w3 → w3.cell? ⟨T, 1, none⟩ = some (.slice (some ad) q cv)) := ⟨fun w3 ho => (HU.out.b.to (ho.block T HU.out.b.lt (HU.out.apart.2.2.2 _ (List.mem_append_left _ (List.getElem_mem _))).symm)).cell 1 rfl⟩
          have hrn : L[k].n = t.cols := by rw [hrow.1, hDl]
          have HLen : Hd (∀ r1, (L.set k r1).length = q) := ⟨fun r1 => by rw [List.length_set]; exact hLl⟩
          generalize hrr : L[k]'hkL = r at *
          obtain ⟨rg, rn0, rc⟩ := r
          dsimp only at hrn
          subst hrn
          unfold RR.v at hcell
          dsimp only at hcell
          have HRW := Hd.mk hrow
          have fr := hrow.frozen
          dsimp only at fr
          generalize l0[k] = lk at *
          have HDL := Hd.mk hDl
          have hD1 := HCC.out.1
          have hD2 := HCC.out.2
          clear hrr
          dsimp only at HSP HT1 HCL
          clear HU hfz hsh hul hrow hDl hll hLl hkl hkL HE HO
          have HON : Hd (Only (· = rg) wr wr) := ⟨Only.refl _ _⟩
          generalize t.cols = D at *
          by_cases hCD : C < D
          · have p1 : decide ((C : Int) < (D : Int)) = true := decide_eq_true (by omega)
            have p2 : decide (C < D) = true := decide_eq_true hCD
            have p3 : (C : Int) < (D : Int) := by omega
            have p4 : (0 : Int) ≤ (C : Int) := by omega
            obtain ⟨x0, x1, x2⟩ := HRW.out.three (k := C) (by rw [HDL.out]; exact hCD)
            have HCAP : Hd (C ≤ rc) := ⟨by have := HRW.out.2.1; dsimp only at this; omega⟩
            have p5 : C ≤ rc := HCAP.out
            have p6 : ¬ rc < C := by omega
            have p7 : (C : Int) ≤ 120 := by omega
            have p8 : (1 : Int) ≤ (C : Int) := by omega
            have p9 : (C : Int) - 1 < (D : Int) := by omega
            obtain ⟨n2, hn2⟩ : ∃ n2, 0 = n2 := ⟨_, rfl⟩
            have HN2 : Hd ((C : Int) - (C : Int) = (n2 : Int) ∧ n2 ≤ 120) := ⟨by omega⟩
            by_cases hw : (getC lk C).wide = 0
            · rw [hw] at x1
              obtain ⟨mz, hmz⟩ : ∃ mz, (lk.set (C - 1) blankC).take C = mz := ⟨_, rfl⟩
              have HFIT : Hd (fitR C lk = mz ++ blankR n2) := ⟨by unfold fitR; rw [if_pos (by rw [HDL.out]; exact hCD), if_pos hw, hmz]; dsimp only; rw [← hmz, List.length_take, List.length_set, ← hn2, HDL.out, Nat.min_eq_left (by omega), Nat.sub_self]⟩
              have HPOS : Hd (0 < mz.length ∧ mz.length ≤ 120) := ⟨by rw [← hmz, List.length_take, List.length_set]; have := HDL.out; omega⟩
              have HTK : Hd (∀ w9, RowAt w9 ⟨rg, D, rc⟩ (lk.set (C - 1) blankC) → RowAt w9 ⟨rg, C, rc⟩ mz) := ⟨fun w9 h9 => by rw [← hmz]; exact h9.take_ (by rw [List.length_set, HDL.out]; omega)⟩
              clear hn2 hmz hw
              go_upto_region 14 with (first | (go_at_call 25; (with_reducible refine (blankc_calls _).mono ?_); rintro _ w2 ⟨rfl, hb⟩; have HRb := Hd.mk (HRW.out.to (hb.block _ HRW.out.lt)); have HB2 := Hd.mk hb; clear hb) | ((with_reducible refine gate_store (t := 32) rfl ?_); refine RowAt.store HRb.out (k := C - 1) (by rw [HDL.out]; omega) blankC rfl rfl (by first | rfl | (go_simp; done) | (go_simp; rfl)) (by first | rfl | (go_simp; done) | (go_simp; rfl)) ?_; intro w3 hr_ ho_ hz_ hb_; have HRz := Hd.mk (HTK.out _ hr_); have HON2 := Hd.mk ((HON.out.below HB2.out).trans ho_ (fun _ _ h => h)); clear hr_ ho_ hz_ hb_ x0 x1 x2 fr HB2 HRb HON))
              have HON := HON2
              clear HON2 HRW HTK
              go_upto_region 15 with fail
              rename_i KQ hKQ
              refine regionH (fun w' : World => w'.cell? ⟨T, 1, none⟩ = some (.slice (some ad) q cv)) (by kernel_rfl) (fun wd hb => ?_)
              have HRd := Hd.mk (HRz.out.to (hb.block _ HRz.out.lt))
              have HOd := Hd.mk (HON.out.below hb)
              clear hb HRz HON
              have hHd : (fun w' : World => w'.cell? ⟨T, 1, none⟩ = some (.slice (some ad) q cv)) wd := HT1.out _ HOd.out
              have XB := Hd.mk (blank_any n2 (by have := HN2.out.2; omega) wd)
              refine takeH (i := 0) (v := ?v57) rfl (by kernel_rfl) (by kernel_rfl) (by kernel_rfl) (fun _ _ _ h => h) (Or.inl ⟨by rfl, ?hy57⟩) (by assumption) ?rest57
              case hy57 => (intro w hSw; (try dsimp only at hSw); go_simp; try (with_reducible rfl))
              case rest57 =>
              try simp only [Act.put, List.setIfInBounds_toArray, List.set_cons_zero, List.set_cons_succ]
              refine takeH (i := 1) (v := ?v58) rfl (by kernel_rfl) (by kernel_rfl) (by kernel_rfl) (fun _ _ _ h => h) (Or.inl ⟨by rfl, ?hy58⟩) (by assumption) ?rest58
              case hy58 => (intro w hSw; (try dsimp only at hSw); go_simp; try (with_reducible rfl))
              case rest58 =>
              try simp only [Act.put, List.setIfInBounds_toArray, List.set_cons_zero, List.set_cons_succ]
              refine takeH (i := 2) (v := ?v59) rfl (by kernel_rfl) (by kernel_rfl) (by kernel_rfl) (fun _ _ _ h => h) (Or.inl ⟨by rfl, ?hy59⟩) (by assumption) ?rest59
              case hy59 => (intro w hSw; (try dsimp only at hSw); go_simp; try (with_reducible rfl))
              case rest59 =>
              try simp only [Act.put, List.setIfInBounds_toArray, List.set_cons_zero, List.set_cons_succ]
              refine takeH (i := 3) (v := ?v60) rfl (by kernel_rfl) (by kernel_rfl) (by kernel_rfl) (fun _ _ _ h => h) (Or.inl ⟨by rfl, ?hy60⟩) (by assumption) ?rest60
              case hy60 => (intro w hSw; (try dsimp only at hSw); go_simp; try (with_reducible rfl))
              case rest60 =>
              try simp only [Act.put, List.setIfInBounds_toArray, List.set_cons_zero, List.set_cons_succ]
              refine takeH (i := 4) (v := ?v61) rfl (by kernel_rfl) (by kernel_rfl) (by kernel_rfl) (fun _ _ _ h => h) (Or.inl ⟨by rfl, ?hy61⟩) (by assumption) ?rest61
              case hy61 => (intro w hSw; (try dsimp only at hSw); go_simp; try (with_reducible rfl))
              case rest61 =>
              try simp only [Act.put, List.setIfInBounds_toArray, List.set_cons_zero, List.set_cons_succ]
              refine takeH (i := 5) (v := ?v62) rfl (by kernel_rfl) (by kernel_rfl) (by kernel_rfl) (fun _ _ _ h => h) (Or.inl ⟨by rfl, ?hy62⟩) (by assumption) ?rest62
              case hy62 => (intro w hSw; (try dsimp only at hSw); go_simp; try (with_reducible rfl))
              case rest62 =>
              try simp only [Act.put, List.setIfInBounds_toArray, List.set_cons_zero, List.set_cons_succ]
              refine takeH (i := 6) (v := ?v63) rfl (by kernel_rfl) (by kernel_rfl) (by kernel_rfl) (fun _ _ _ h => h) (Or.inl ⟨by rfl, ?hy63⟩) (by assumption) ?rest63
              case hy63 => (intro w hSw; (try dsimp only at hSw); go_simp; try (with_reducible rfl))
              case rest63 =>
              try simp only [Act.put, List.setIfInBounds_toArray, List.set_cons_zero, List.set_cons_succ]
              refine takeH (i := 7) (v := ?v64) rfl (by kernel_rfl) (by kernel_rfl) (by kernel_rfl) (fun _ _ _ h => h) (Or.inl ⟨by rfl, ?hy64⟩) (by assumption) ?rest64
              case hy64 => (intro w hSw; (try dsimp only at hSw); go_simp; try (with_reducible rfl))
              case rest64 =>
              try simp only [Act.put, List.setIfInBounds_toArray, List.set_cons_zero, List.set_cons_succ]
              refine takeH (i := 8) (v := ?v65) rfl (by kernel_rfl) (by kernel_rfl) (by kernel_rfl) (fun _ _ _ h => h) (Or.inl ⟨by rfl, ?hy65⟩) (by assumption) ?rest65
              case hy65 => (intro w hSw; (try dsimp only at hSw); go_simp; try (with_reducible rfl))
              case rest65 =>
              try simp only [Act.put, List.setIfInBounds_toArray, List.set_cons_zero, List.set_cons_succ]
              refine takeH (i := 9) (v := (.int .i64 (n2 : Int))) rfl (by kernel_rfl) (by kernel_rfl) (by kernel_rfl) (fun _ _ _ h => h) (Or.inl ⟨by rfl, ?hy66⟩) (by assumption) ?rest66
              case hy66 => (intro w hSw; (try dsimp only at hSw); have hz := HN2.out.1; have hz2 := HN2.out.2; clear HN2; go_simp; first | done | omega | (rw [IntKind.wrap_i64]; omega))
              case rest66 =>
              try simp only [Act.put, List.setIfInBounds_toArray, List.set_cons_zero, List.set_cons_succ]
              refine wpAnyH_ready (rs := [10]) (by kernel_rfl) (by simp) ?_
              refine consH rfl (fun K hK => ?_) AllReadyH.nil
              go_simp
              go_at_call 28
              with_reducible refine XB.out.mono ?_
              rintro _ wq ⟨rn, rfl, hrn, hrg, hra, hb⟩
              have HRn := Hd.mk hra
              have HRq := Hd.mk (HRd.out.to (hb.block _ HRd.out.lt))
              have HOq := Hd.mk (HOd.out.below hb)
              clear hrn hrg hra hb HRd HOd XB hHd
              have hHd : (fun w' : World => w'.cell? ⟨T, 1, none⟩ = some (.slice (some ad) q cv)) wq := HT1.out _ HOq.out
              go_simp
              refine hK.out _ _ hHd ?_
              clear hK K
              try simp only [Act.put, List.setIfInBounds_toArray, List.set_cons_zero, List.set_cons_succ]
              refine wpAnyH_ready (rs := [11]) (by kernel_rfl) (by simp) ?_
              refine consH rfl (fun K hK => ?_) AllReadyH.nil
              refine row_app_step (by first | rfl | (go_simp; done) | (go_simp; rfl)) (N := 127) rfl (.tmp 121) (.tmp 126) rfl (r := ⟨rg, C, rc⟩) (r2 := rn) rfl rfl HRq.out HRn.out HPOS.out.1 (by rw [blankR_len]; have h1 := HPOS.out.2; have h2 := HN2.out.2; omega) ?_
              intro r3 w3 hra hg hat
              rw [← HFIT.out] at hra
              have HO3 := Hd.mk (HOq.out.grown hg (fun g e => .inl (by injection e with e; exact e.symm)))
              have HAT : Hd (r3.g = rg ∨ wr.heap.size ≤ r3.g) := ⟨hat.elim .inl (fun e => .inr (by rw [e]; exact HOq.out.size))⟩
              have HR3 := Hd.mk hra
              clear hra hg hat HRq HRn HOq hHd
              have hHd : (fun w' : World => w'.cell? ⟨T, 1, none⟩ = some (.slice (some ad) q cv)) w3 := HT1.out _ HO3.out
              refine hK.out _ _ hHd ?_
              clear hK K
              try simp only [Act.put, List.setIfInBounds_toArray, List.set_cons_zero, List.set_cons_succ]
              refine takeH (i := 12) (v := ?v67) rfl (by kernel_rfl) (by kernel_rfl) (by kernel_rfl) (fun _ _ _ h => h) (Or.inl ⟨by rfl, ?hy67⟩) (by assumption) ?rest67
              case hy67 => (intro w hSw; (try dsimp only at hSw); go_simp; try (with_reducible rfl))
              case rest67 =>
              try simp only [Act.put, List.setIfInBounds_toArray, List.set_cons_zero, List.set_cons_succ]
              refine wpAnyH_ready (rs := [13]) (by kernel_rfl) (by simp) ?_
              refine consH rfl (fun K hK => ?_) AllReadyH.nil
              rw [if_pos (by first | rfl | (go_simp; done) | (go_simp; rfl))]
              obtain ⟨sc1, sc2, sc3⟩ := HSP.out _ HO3.out
              refine cell_step_at rfl rfl (p := ad.add k) (v := r3.v) (by first | rfl | (go_simp; done) | (go_simp; rfl)) (by first | rfl | (go_simp; done) | (go_simp; rfl)) sc1 sc2 sc3 info_rowc1 rfl ?_
              obtain ⟨HTz, HOz⟩ := HCL.out w3 r3 HO3.out HAT.out HR3.out
              have HT9 := Hd.mk HTz
              have HO9 := Hd.mk HOz
              have HL9 := HLen.out r3
              clear HTz HOz sc1 sc2 sc3 HO3 HAT HR3 HCL HSP HT1 hHd
              have hHd : (fun w' : World => w'.cell? ⟨T, 1, none⟩ = some (.slice (some ad) q cv)) _ := HT9.out.all.1.2.1
              refine hK.out _ _ hHd ?_
              clear hK K
              try simp only [Act.put, List.setIfInBounds_toArray, List.set_cons_zero, List.set_cons_succ]
              refine wpAnyH_done (by kernel_rfl) ?_ _
              refine hKQ _ _ ?_
              clear hHd
              generalize w3.setCell (ad.add k) r3.v = w9 at *
              go_wp2
              go_roundg d
              case measure => omega
              case rel => exact ⟨k + 1, _, L.set k r3, by simp, by omega, HT9, ⟨rfl⟩, HO9⟩
            · have x1' : ((getC lk C).wide : Int) ≠ 0 := by omega
              obtain ⟨mz, hmz⟩ : ∃ mz, lk.take C = mz := ⟨_, rfl⟩
              have HFIT : Hd (fitR C lk = mz ++ blankR n2) := ⟨by unfold fitR; rw [if_pos (by rw [HDL.out]; exact hCD), if_neg hw, hmz]; dsimp only; rw [← hmz, List.length_take, ← hn2, HDL.out, Nat.min_eq_left (by omega), Nat.sub_self]⟩
              have HPOS : Hd (0 < mz.length ∧ mz.length ≤ 120) := ⟨by rw [← hmz, List.length_take]; have := HDL.out; omega⟩
              have HRz : Hd (RowAt wr ⟨rg, C, rc⟩ mz) := ⟨by rw [← hmz]; exact HRW.out.take_ (by rw [HDL.out]; omega)⟩
              clear hn2 hmz hw HRW
              go_upto_region 15 with fail
              rename_i KQ hKQ hz9
              refine regionH (fun w' : World => w'.cell? ⟨T, 1, none⟩ = some (.slice (some ad) q cv)) (by kernel_rfl) (fun wd hb => ?_)
              have HRd := Hd.mk (HRz.out.to (hb.block _ HRz.out.lt))
              have HOd := Hd.mk (HON.out.below hb)
              clear hb HRz HON
              have hHd : (fun w' : World => w'.cell? ⟨T, 1, none⟩ = some (.slice (some ad) q cv)) wd := HT1.out _ HOd.out
              have XB := Hd.mk (blank_any n2 (by have := HN2.out.2; omega) wd)
              refine takeH (i := 0) (v := ?v68) rfl (by kernel_rfl) (by kernel_rfl) (by kernel_rfl) (fun _ _ _ h => h) (Or.inl ⟨by rfl, ?hy68⟩) (by assumption) ?rest68
              case hy68 => (intro w hSw; (try dsimp only at hSw); go_simp; try (with_reducible rfl))
              case rest68 =>
              try simp only [Act.put, List.setIfInBounds_toArray, List.set_cons_zero, List.set_cons_succ]
              refine takeH (i := 1) (v := ?v69) rfl (by kernel_rfl) (by kernel_rfl) (by kernel_rfl) (fun _ _ _ h => h) (Or.inl ⟨by rfl, ?hy69⟩) (by assumption) ?rest69
              case hy69 => (intro w hSw; (try dsimp only at hSw); go_simp; try (with_reducible rfl))
              case rest69 =>
              try simp only [Act.put, List.setIfInBounds_toArray, List.set_cons_zero, List.set_cons_succ]
              refine takeH (i := 2) (v := ?v70) rfl (by kernel_rfl) (by kernel_rfl) (by kernel_rfl) (fun _ _ _ h => h) (Or.inl ⟨by rfl, ?hy70⟩) (by assumption) ?rest70
              case hy70 => (intro w hSw; (try dsimp only at hSw); go_simp; try (with_reducible rfl))
              case rest70 =>
              try simp only [Act.put, List.setIfInBounds_toArray, List.set_cons_zero, List.set_cons_succ]
              refine takeH (i := 3) (v := ?v71) rfl (by kernel_rfl) (by kernel_rfl) (by kernel_rfl) (fun _ _ _ h => h) (Or.inl ⟨by rfl, ?hy71⟩) (by assumption) ?rest71
              case hy71 => (intro w hSw; (try dsimp only at hSw); go_simp; try (with_reducible rfl))
              case rest71 =>
              try simp only [Act.put, List.setIfInBounds_toArray, List.set_cons_zero, List.set_cons_succ]
              refine takeH (i := 4) (v := ?v72) rfl (by kernel_rfl) (by kernel_rfl) (by kernel_rfl) (fun _ _ _ h => h) (Or.inl ⟨by rfl, ?hy72⟩) (by assumption) ?rest72
              case hy72 => (intro w hSw; (try dsimp only at hSw); go_simp; try (with_reducible rfl))
              case rest72 =>
              try simp only [Act.put, List.setIfInBounds_toArray, List.set_cons_zero, List.set_cons_succ]
              refine takeH (i := 5) (v := ?v73) rfl (by kernel_rfl) (by kernel_rfl) (by kernel_rfl) (fun _ _ _ h => h) (Or.inl ⟨by rfl, ?hy73⟩) (by assumption) ?rest73
              case hy73 => (intro w hSw; (try dsimp only at hSw); go_simp; try (with_reducible rfl))
              case rest73 =>
              try simp only [Act.put, List.setIfInBounds_toArray, List.set_cons_zero, List.set_cons_succ]
              refine takeH (i := 6) (v := ?v74) rfl (by kernel_rfl) (by kernel_rfl) (by kernel_rfl) (fun _ _ _ h => h) (Or.inl ⟨by rfl, ?hy74⟩) (by assumption) ?rest74
              case hy74 => (intro w hSw; (try dsimp only at hSw); go_simp; try (with_reducible rfl))
              case rest74 =>
              try simp only [Act.put, List.setIfInBounds_toArray, List.set_cons_zero, List.set_cons_succ]
              refine takeH (i := 7) (v := ?v75) rfl (by kernel_rfl) (by kernel_rfl) (by kernel_rfl) (fun _ _ _ h => h) (Or.inl ⟨by rfl, ?hy75⟩) (by assumption) ?rest75
              case hy75 => (intro w hSw; (try dsimp only at hSw); go_simp; try (with_reducible rfl))
              case rest75 =>
              try simp only [Act.put, List.setIfInBounds_toArray, List.set_cons_zero, List.set_cons_succ]
              refine takeH (i := 8) (v := ?v76) rfl (by kernel_rfl) (by kernel_rfl) (by kernel_rfl) (fun _ _ _ h => h) (Or.inl ⟨by rfl, ?hy76⟩) (by assumption) ?rest76
              case hy76 => (intro w hSw; (try dsimp only at hSw); go_simp; try (with_reducible rfl))
              case rest76 =>
              try simp only [Act.put, List.setIfInBounds_toArray, List.set_cons_zero, List.set_cons_succ]
              refine takeH (i := 9) (v := (.int .i64 (n2 : Int))) rfl (by kernel_rfl) (by kernel_rfl) (by kernel_rfl) (fun _ _ _ h => h) (Or.inl ⟨by rfl, ?hy77⟩) (by assumption) ?rest77
              case hy77 => (intro w hSw; (try dsimp only at hSw); have hz := HN2.out.1; have hz2 := HN2.out.2; clear HN2; go_simp; first | done | omega | (rw [IntKind.wrap_i64]; omega))
              case rest77 =>
              try simp only [Act.put, List.setIfInBounds_toArray, List.set_cons_zero, List.set_cons_succ]
              refine wpAnyH_ready (rs := [10]) (by kernel_rfl) (by simp) ?_
              refine consH rfl (fun K hK => ?_) AllReadyH.nil
              go_simp
              go_at_call 28
              with_reducible refine XB.out.mono ?_
              rintro _ wq ⟨rn, rfl, hrn, hrg, hra, hb⟩
              have HRn := Hd.mk hra
              have HRq := Hd.mk (HRd.out.to (hb.block _ HRd.out.lt))
              have HOq := Hd.mk (HOd.out.below hb)
              clear hrn hrg hra hb HRd HOd XB hHd
              have hHd : (fun w' : World => w'.cell? ⟨T, 1, none⟩ = some (.slice (some ad) q cv)) wq := HT1.out _ HOq.out
              go_simp
              refine hK.out _ _ hHd ?_
              clear hK K
              try simp only [Act.put, List.setIfInBounds_toArray, List.set_cons_zero, List.set_cons_succ]
              refine wpAnyH_ready (rs := [11]) (by kernel_rfl) (by simp) ?_
              refine consH rfl (fun K hK => ?_) AllReadyH.nil
              refine row_app_step (by first | rfl | (go_simp; done) | (go_simp; rfl)) (N := 127) rfl (.tmp 121) (.tmp 126) rfl (r := ⟨rg, C, rc⟩) (r2 := rn) rfl rfl HRq.out HRn.out HPOS.out.1 (by rw [blankR_len]; have h1 := HPOS.out.2; have h2 := HN2.out.2; omega) ?_
              intro r3 w3 hra hg hat
              rw [← HFIT.out] at hra
              have HO3 := Hd.mk (HOq.out.grown hg (fun g e => .inl (by injection e with e; exact e.symm)))
              have HAT : Hd (r3.g = rg ∨ wr.heap.size ≤ r3.g) := ⟨hat.elim .inl (fun e => .inr (by rw [e]; exact HOq.out.size))⟩
              have HR3 := Hd.mk hra
              clear hra hg hat HRq HRn HOq hHd
              have hHd : (fun w' : World => w'.cell? ⟨T, 1, none⟩ = some (.slice (some ad) q cv)) w3 := HT1.out _ HO3.out
              refine hK.out _ _ hHd ?_
              clear hK K
              try simp only [Act.put, List.setIfInBounds_toArray, List.set_cons_zero, List.set_cons_succ]
              refine takeH (i := 12) (v := ?v78) rfl (by kernel_rfl) (by kernel_rfl) (by kernel_rfl) (fun _ _ _ h => h) (Or.inl ⟨by rfl, ?hy78⟩) (by assumption) ?rest78
              case hy78 => (intro w hSw; (try dsimp only at hSw); go_simp; try (with_reducible rfl))
              case rest78 =>
              try simp only [Act.put, List.setIfInBounds_toArray, List.set_cons_zero, List.set_cons_succ]
              refine wpAnyH_ready (rs := [13]) (by kernel_rfl) (by simp) ?_
              refine consH rfl (fun K hK => ?_) AllReadyH.nil
              rw [if_pos (by first | rfl | (go_simp; done) | (go_simp; rfl))]
              obtain ⟨sc1, sc2, sc3⟩ := HSP.out _ HO3.out
              refine cell_step_at rfl rfl (p := ad.add k) (v := r3.v) (by first | rfl | (go_simp; done) | (go_simp; rfl)) (by first | rfl | (go_simp; done) | (go_simp; rfl)) sc1 sc2 sc3 info_rowc1 rfl ?_
              obtain ⟨HTz, HOz⟩ := HCL.out w3 r3 HO3.out HAT.out HR3.out
              have HT9 := Hd.mk HTz
              have HO9 := Hd.mk HOz
              have HL9 := HLen.out r3
              clear HTz HOz sc1 sc2 sc3 HO3 HAT HR3 HCL HSP HT1 hHd
              have hHd : (fun w' : World => w'.cell? ⟨T, 1, none⟩ = some (.slice (some ad) q cv)) _ := HT9.out.all.1.2.1
              refine hK.out _ _ hHd ?_
              clear hK K
              try simp only [Act.put, List.setIfInBounds_toArray, List.set_cons_zero, List.set_cons_succ]
              refine wpAnyH_done (by kernel_rfl) ?_ _
              refine hKQ _ _ ?_
              clear hHd
              generalize w3.setCell (ad.add k) r3.v = w9 at *
              go_wp2
              go_roundg d
              case measure => omega
              case rel => exact ⟨k + 1, _, L.set k r3, by simp, by omega, HT9, ⟨rfl⟩, HO9⟩
          · have p1 : decide ((C : Int) < (D : Int)) = false := decide_eq_false (by omega)
            have p2 : decide (C < D) = false := decide_eq_false hCD
            have p3 : ¬ (C : Int) < (D : Int) := by omega
            have HFIT : Hd (fitR C lk = lk ++ blankR (C - D)) := ⟨by unfold fitR; rw [if_neg (by rw [HDL.out]; exact hCD)]; dsimp only; rw [HDL.out]⟩
            have HPOS : Hd (0 < lk.length ∧ lk.length ≤ 120) := ⟨by have := HDL.out; omega⟩
            have HRz : Hd (RowAt wr ⟨rg, D, rc⟩ lk) := HRW
            obtain ⟨n2, hn2⟩ : ∃ n2, C - D = n2 := ⟨_, rfl⟩
            have HN2 : Hd ((C : Int) - (D : Int) = (n2 : Int) ∧ n2 ≤ 120) := ⟨by omega⟩
            rw [hn2] at HFIT
            clear hn2 HRW
            go_upto_region 15 with fail
            rename_i KQ hKQ
            refine regionH (fun w' : World => w'.cell? ⟨T, 1, none⟩ = some (.slice (some ad) q cv)) (by kernel_rfl) (fun wd hb => ?_)
            have HRd := Hd.mk (HRz.out.to (hb.block _ HRz.out.lt))
            have HOd := Hd.mk (HON.out.below hb)
            clear hb HRz HON
            have hHd : (fun w' : World => w'.cell? ⟨T, 1, none⟩ = some (.slice (some ad) q cv)) wd := HT1.out _ HOd.out
            have XB := Hd.mk (blank_any n2 (by have := HN2.out.2; omega) wd)
            refine takeH (i := 0) (v := ?v79) rfl (by kernel_rfl) (by kernel_rfl) (by kernel_rfl) (fun _ _ _ h => h) (Or.inl ⟨by rfl, ?hy79⟩) (by assumption) ?rest79
            case hy79 => (intro w hSw; (try dsimp only at hSw); go_simp; try (with_reducible rfl))
            case rest79 =>
            try simp only [Act.put, List.setIfInBounds_toArray, List.set_cons_zero, List.set_cons_succ]
            refine takeH (i := 1) (v := ?v80) rfl (by kernel_rfl) (by kernel_rfl) (by kernel_rfl) (fun _ _ _ h => h) (Or.inl ⟨by rfl, ?hy80⟩) (by assumption) ?rest80
            case hy80 => (intro w hSw; (try dsimp only at hSw); go_simp; try (with_reducible rfl))
            case rest80 =>
            try simp only [Act.put, List.setIfInBounds_toArray, List.set_cons_zero, List.set_cons_succ]
            refine takeH (i := 2) (v := ?v81) rfl (by kernel_rfl) (by kernel_rfl) (by kernel_rfl) (fun _ _ _ h => h) (Or.inl ⟨by rfl, ?hy81⟩) (by assumption) ?rest81
            case hy81 => (intro w hSw; (try dsimp only at hSw); go_simp; try (with_reducible rfl))
            case rest81 =>
            try simp only [Act.put, List.setIfInBounds_toArray, List.set_cons_zero, List.set_cons_succ]
            refine takeH (i := 3) (v := ?v82) rfl (by kernel_rfl) (by kernel_rfl) (by kernel_rfl) (fun _ _ _ h => h) (Or.inl ⟨by rfl, ?hy82⟩) (by assumption) ?rest82
            case hy82 => (intro w hSw; (try dsimp only at hSw); go_simp; try (with_reducible rfl))
            case rest82 =>
            try simp only [Act.put, List.setIfInBounds_toArray, List.set_cons_zero, List.set_cons_succ]
            refine takeH (i := 4) (v := ?v83) rfl (by kernel_rfl) (by kernel_rfl) (by kernel_rfl) (fun _ _ _ h => h) (Or.inl ⟨by rfl, ?hy83⟩) (by assumption) ?rest83
            case hy83 => (intro w hSw; (try dsimp only at hSw); go_simp; try (with_reducible rfl))
            case rest83 =>
            try simp only [Act.put, List.setIfInBounds_toArray, List.set_cons_zero, List.set_cons_succ]
            refine takeH (i := 5) (v := ?v84) rfl (by kernel_rfl) (by kernel_rfl) (by kernel_rfl) (fun _ _ _ h => h) (Or.inl ⟨by rfl, ?hy84⟩) (by assumption) ?rest84
            case hy84 => (intro w hSw; (try dsimp only at hSw); go_simp; try (with_reducible rfl))
            case rest84 =>
            try simp only [Act.put, List.setIfInBounds_toArray, List.set_cons_zero, List.set_cons_succ]
            refine takeH (i := 6) (v := ?v85) rfl (by kernel_rfl) (by kernel_rfl) (by kernel_rfl) (fun _ _ _ h => h) (Or.inl ⟨by rfl, ?hy85⟩) (by assumption) ?rest85
            case hy85 => (intro w hSw; (try dsimp only at hSw); go_simp; try (with_reducible rfl))
            case rest85 =>
            try simp only [Act.put, List.setIfInBounds_toArray, List.set_cons_zero, List.set_cons_succ]
            refine takeH (i := 7) (v := ?v86) rfl (by kernel_rfl) (by kernel_rfl) (by kernel_rfl) (fun _ _ _ h => h) (Or.inl ⟨by rfl, ?hy86⟩) (by assumption) ?rest86
            case hy86 => (intro w hSw; (try dsimp only at hSw); go_simp; try (with_reducible rfl))
            case rest86 =>
            try simp only [Act.put, List.setIfInBounds_toArray, List.set_cons_zero, List.set_cons_succ]
            refine takeH (i := 8) (v := ?v87) rfl (by kernel_rfl) (by kernel_rfl) (by kernel_rfl) (fun _ _ _ h => h) (Or.inl ⟨by rfl, ?hy87⟩) (by assumption) ?rest87
            case hy87 => (intro w hSw; (try dsimp only at hSw); go_simp; try (with_reducible rfl))
            case rest87 =>
            try simp only [Act.put, List.setIfInBounds_toArray, List.set_cons_zero, List.set_cons_succ]
            refine takeH (i := 9) (v := (.int .i64 (n2 : Int))) rfl (by kernel_rfl) (by kernel_rfl) (by kernel_rfl) (fun _ _ _ h => h) (Or.inl ⟨by rfl, ?hy88⟩) (by assumption) ?rest88
            case hy88 => (intro w hSw; (try dsimp only at hSw); have hz := HN2.out.1; have hz2 := HN2.out.2; clear HN2; go_simp; first | done | omega | (rw [IntKind.wrap_i64]; omega))
            case rest88 =>
            try simp only [Act.put, List.setIfInBounds_toArray, List.set_cons_zero, List.set_cons_succ]
            refine wpAnyH_ready (rs := [10]) (by kernel_rfl) (by simp) ?_
            refine consH rfl (fun K hK => ?_) AllReadyH.nil
            go_simp
            go_at_call 28
            with_reducible refine XB.out.mono ?_
            rintro _ wq ⟨rn, rfl, hrn, hrg, hra, hb⟩
            have HRn := Hd.mk hra
            have HRq := Hd.mk (HRd.out.to (hb.block _ HRd.out.lt))
            have HOq := Hd.mk (HOd.out.below hb)
            clear hrn hrg hra hb HRd HOd XB hHd
            have hHd : (fun w' : World => w'.cell? ⟨T, 1, none⟩ = some (.slice (some ad) q cv)) wq := HT1.out _ HOq.out
            go_simp
            refine hK.out _ _ hHd ?_
            clear hK K
            try simp only [Act.put, List.setIfInBounds_toArray, List.set_cons_zero, List.set_cons_succ]
            refine wpAnyH_ready (rs := [11]) (by kernel_rfl) (by simp) ?_
            refine consH rfl (fun K hK => ?_) AllReadyH.nil
            refine row_app_step (by first | rfl | (go_simp; done) | (go_simp; rfl)) (N := 127) rfl (.tmp 121) (.tmp 126) rfl (r := ⟨rg, D, rc⟩) (r2 := rn) rfl rfl HRq.out HRn.out HPOS.out.1 (by rw [blankR_len]; have h1 := HPOS.out.2; have h2 := HN2.out.2; omega) ?_
            intro r3 w3 hra hg hat
            rw [← HFIT.out] at hra
            have HO3 := Hd.mk (HOq.out.grown hg (fun g e => .inl (by injection e with e; exact e.symm)))
            have HAT : Hd (r3.g = rg ∨ wr.heap.size ≤ r3.g) := ⟨hat.elim .inl (fun e => .inr (by rw [e]; exact HOq.out.size))⟩
            have HR3 := Hd.mk hra
            clear hra hg hat HRq HRn HOq hHd
            have hHd : (fun w' : World => w'.cell? ⟨T, 1, none⟩ = some (.slice (some ad) q cv)) w3 := HT1.out _ HO3.out
            refine hK.out _ _ hHd ?_
            clear hK K
            try simp only [Act.put, List.setIfInBounds_toArray, List.set_cons_zero, List.set_cons_succ]
            refine takeH (i := 12) (v := ?v89) rfl (by kernel_rfl) (by kernel_rfl) (by kernel_rfl) (fun _ _ _ h => h) (Or.inl ⟨by rfl, ?hy89⟩) (by assumption) ?rest89
            case hy89 => (intro w hSw; (try dsimp only at hSw); go_simp; try (with_reducible rfl))
            case rest89 =>
            try simp only [Act.put, List.setIfInBounds_toArray, List.set_cons_zero, List.set_cons_succ]
            refine wpAnyH_ready (rs := [13]) (by kernel_rfl) (by simp) ?_
            refine consH rfl (fun K hK => ?_) AllReadyH.nil
            rw [if_pos (by first | rfl | (go_simp; done) | (go_simp; rfl))]
            obtain ⟨sc1, sc2, sc3⟩ := HSP.out _ HO3.out
            refine cell_step_at rfl rfl (p := ad.add k) (v := r3.v) (by first | rfl | (go_simp; done) | (go_simp; rfl)) (by first | rfl | (go_simp; done) | (go_simp; rfl)) sc1 sc2 sc3 info_rowc1 rfl ?_
            obtain ⟨HTz, HOz⟩ := HCL.out w3 r3 HO3.out HAT.out HR3.out
            have HT9 := Hd.mk HTz
            have HO9 := Hd.mk HOz
            have HL9 := HLen.out r3
            clear HTz HOz sc1 sc2 sc3 HO3 HAT HR3 HCL HSP HT1 hHd
            have hHd : (fun w' : World => w'.cell? ⟨T, 1, none⟩ = some (.slice (some ad) q cv)) _ := HT9.out.all.1.2.1
            refine hK.out _ _ hHd ?_
            clear hK K
            try simp only [Act.put, List.setIfInBounds_toArray, List.set_cons_zero, List.set_cons_succ]
            refine wpAnyH_done (by kernel_rfl) ?_ _
            refine hKQ _ _ ?_
            clear hHd
            generalize w3.setCell (ad.add k) r3.v = w9 at *
            go_wp2
            go_roundg d
            case measure => omega
            case rel => exact ⟨k + 1, _, L.set k r3, by simp, by omega, HT9, ⟨rfl⟩, HO9⟩
end Go.Proofs.YtgifpkjcggnhgaaGreatDoorL

