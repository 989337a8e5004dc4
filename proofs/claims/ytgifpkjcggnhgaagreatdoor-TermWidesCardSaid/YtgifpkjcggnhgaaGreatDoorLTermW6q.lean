/- Parts of the proof of the law that the last file states; declarations that nothing mentions are left out by a program. No conditions. -/
import Derived.Test.YtgifpkjcggnhgaaGreatDoorLTermH2q
set_option linter.unusedVariables false
set_option linter.unusedSimpArgs false
namespace Go.Proofs.YtgifpkjcggnhgaaGreatDoorL
open Go Go.RowKit Go.Proofs.YtgifpkjcggnhgaaGreatDoorW.PrintWords
theorem addr_add_zero (a : Addr) : a.add 0 = a := by unfold Addr.add; split <;> simp_all
theorem own_below_ {w w' : World} {base e size n : Nat} {v : Value} {xs : List Value} (h : w.ownsRow base e size v n xs) (hb : Below w.heap.size w w') : w'.ownsRow base e size v n xs :=
  h.kept (row := none) ⟨hb.os, hb.tape, hb.output, hb.size, fun k hk _ => hb.block k hk⟩ (Classical.em _)
theorem nodup_scroll {r0 rn : RR} {L' G : List RR} {m N : Nat} (h : ((r0 :: L' ++ G).map RR.g).Nodup) (hn : ∀ r ∈ r0 :: L' ++ G, r.g < N) (hr : N ≤ rn.g) : ((L' ++ [rn] ++ (G ++ [r0]).drop m).map RR.g).Nodup := by
  have h1 : ((L' ++ (G ++ [r0])).map RR.g).Nodup := by
    have hp : (r0 :: L' ++ G).Perm (L' ++ (G ++ [r0])) := by
      rw [← List.append_assoc]
      exact (List.perm_append_singleton r0 (L' ++ G)).symm
    exact (hp.map RR.g).nodup_iff.1 h
  have h2 : ((rn :: (L' ++ (G ++ [r0]).drop m)).map RR.g).Nodup := by
    rw [List.map_cons, List.nodup_cons]
    constructor
    · intro hm
      obtain ⟨r, hr1, he⟩ := List.mem_map.1 hm
      have : r ∈ r0 :: L' ++ G := by
        rcases List.mem_append.1 hr1 with h3 | h3
        · exact List.mem_append_left _ (List.mem_cons_of_mem _ h3)
        · rcases List.mem_append.1 (List.mem_of_mem_drop h3) with h4 | h4
          · exact List.mem_append_right _ h4
          · rw [List.mem_singleton.1 h4]
            exact List.mem_append_left _ List.mem_cons_self
      have := hn r this
      omega
    · exact List.Nodup.sublist (((List.Sublist.refl L').append (List.drop_sublist m (G ++ [r0]))).map RR.g) h1
  refine (List.Perm.map RR.g ?_).nodup_iff.1 h2
  rw [List.append_assoc]
  exact (List.perm_middle (a := rn) (l₁ := L') (l₂ := (G ++ [r0]).drop m)).symm
set_option maxRecDepth 100000 in
set_option maxHeartbeats 4000000 in
theorem scroll_calls {P : Nat → Prop} {w : World} {T M : Nat} {s : Tm} (h : TermAt P w T s) (hok : OKT M s) (hM : M ≤ 1000000) (hP : ∀ k, w.heap.size ≤ k → P k) :
    Calls Tryz.prog 57 #[.pointer (some ⟨T, 0, none⟩)] w fun e w' => e = .returned (.tuple #[]) ∧ TermAt P w' T s.scroll ∧ Only P w w' := by
  obtain ⟨lv, gv, bv, L, G, h1⟩ := h
  have hlen := forall_len h1.fl
  have hglen := forall_len h1.fg
  have hr1 := hok.r1
  have hr2 := hok.r2
  have hoff := hok.off
  have hgl := hok.gone.1
  have hc1 := hok.c1
  have hc2 := hok.c2
  obtain ⟨r0, L', rfl⟩ : ∃ r0 L', L = r0 :: L' := by
    cases L with
    | nil => rw [List.length_nil] at hlen; omega
    | cons a b => exact ⟨a, b, rfl⟩
  obtain ⟨A, c, rfl, hcap⟩ := Kd.Q_slice h1.ql
  obtain ⟨ad, rfl, hq1, hq2⟩ := spine_cell h1.ql (i := 0) (by omega)
  clear hq1 hq2
  obtain ⟨B, cb, rfl, hcb⟩ := Kd.Q_slice h1.qg
  have hnd := h1.nd
  have hfl := h1.fl
  obtain ⟨l0, lt, hsl⟩ : ∃ l0 lt, s.l = l0 :: lt := by
    cases hs : s.l with
    | nil => rw [hs] at hr1; simp at hr1
    | cons a b => exact ⟨a, b, rfl⟩
  rw [hsl] at hfl
  have hll : s.l.length = lt.length + 1 := by rw [hsl]; rfl
  cases hfl with
  | cons hrow0 hflt =>
  have HY := Hd.mk h1.y
  have HO : Hd (Only P w w) := ⟨Only.refl _ _⟩
  have HP := Hd.mk hP
  have HR0 := Hd.mk hrow0
  have HND := Hd.mk hnd
  have HSL := Hd.mk hsl
  have HBD : Hd (∀ r ∈ (r0 :: L') ++ G, r.g < w.heap.size) := ⟨fun r hr => by obtain ⟨l, hl⟩ := h1.row_lt hr; exact hl.lt⟩
  have hgn : G.length ≤ 1000 := by omega
  clear h1 hP hnd hrow0 hflt hsl hok
  have HLEN := Hd.mk hlen
  have HGLEN := Hd.mk hglen
  have HLL := Hd.mk hll
  generalize hn : (r0 :: L').length = n at *
  have hn0 : (0 : Int) < (n : Int) := by omega
  have hn0' : 0 < n := by omega
  generalize hnb : G.length = nb at *
  have hn60 : n ≤ 60 := by omega
  clear hlen hglen hll
  go_enter Tryz.func57, Tryz.ntmps57
  go_upto_region 0 with fail
  rename_i KQ hKQ
  refine regionK (fun w' : World => w'.cell? ⟨T, 1, none⟩ = some (.slice (some ad) n c) ∧ w'.cell? ⟨T, 2, none⟩ = some (.slice B nb cb) ∧ w'.cell? ad = some (.slice (some ⟨r0.g, 0, none⟩) r0.n r0.c)) 15 (by kernel_rfl) (fun wd hb => ?_)
  replace HO := Hd.mk (HO.out.below hb)
  replace HY := Hd.mk (HY.out.below hb)
  replace HR0 := Hd.mk (HR0.out.to (hb.block _ HR0.out.lt))
  obtain ⟨⟨c0, c1, c2, c3, c4, c5, c6, c7, c8, c9, c10⟩, cf⟩ := HY.out.all
  clear c0 c3 c4 c5 c6 c7 c8 c9 c10
  obtain ⟨ad', he, hcell, hob⟩ := spine_cell HY.out.ql (i := 0) (by simp)
  cases he
  rw [show (r0 :: L')[0] = r0 from rfl, addr_add_zero] at hcell
  unfold RR.v at hcell
  have hHd : (fun w' : World => w'.cell? ⟨T, 1, none⟩ = some (.slice (some ad) n c) ∧ w'.cell? ⟨T, 2, none⟩ = some (.slice B nb cb) ∧ w'.cell? ad = some (.slice (some ⟨r0.g, 0, none⟩) r0.n r0.c)) wd := ⟨c1, c2, hcell⟩
  clear hb
  refine wpAnyK_take (i := 0) (v := ?v1) rfl (by kernel_rfl) (by kernel_rfl) (by kernel_rfl) (by kernel_rfl) (fun _ _ _ h => h) (Or.inl ⟨by rfl, ?hy1⟩) (by assumption) ?rest1
  case hy1 => (intro w hSw; (try dsimp only at hSw); go_simp; try (with_reducible rfl))
  case rest1 =>
  try simp only [Act.put, List.setIfInBounds_toArray, List.set_cons_zero, List.set_cons_succ]
  refine wpAnyK_take (i := 1) (v := ?v2) rfl (by kernel_rfl) (by kernel_rfl) (by kernel_rfl) (by kernel_rfl) (fun _ _ _ h => h) (Or.inl ⟨by rfl, ?hy2⟩) (by assumption) ?rest2
  case hy2 => (intro w hSw; (try dsimp only at hSw); go_simp; try (with_reducible rfl))
  case rest2 =>
  try simp only [Act.put, List.setIfInBounds_toArray, List.set_cons_zero, List.set_cons_succ]
  refine wpAnyK_take (i := 2) (v := ?v3) rfl (by kernel_rfl) (by kernel_rfl) (by kernel_rfl) (by kernel_rfl) (fun _ _ _ h => h) (Or.inl ⟨by rfl, ?hy3⟩) (by assumption) ?rest3
  case hy3 => (intro w hSw; (try dsimp only at hSw); go_simp; try (with_reducible rfl))
  case rest3 =>
  try simp only [Act.put, List.setIfInBounds_toArray, List.set_cons_zero, List.set_cons_succ]
  refine wpAnyK_take (i := 3) (v := ?v4) rfl (by kernel_rfl) (by kernel_rfl) (by kernel_rfl) (by kernel_rfl) (fun _ _ _ h => h) (Or.inl ⟨by rfl, ?hy4⟩) (by assumption) ?rest4
  case hy4 => (intro w hSw; (try dsimp only at hSw); go_simp; try (with_reducible rfl))
  case rest4 =>
  try simp only [Act.put, List.setIfInBounds_toArray, List.set_cons_zero, List.set_cons_succ]
  refine wpAnyK_take (i := 4) (v := ?v5) rfl (by kernel_rfl) (by kernel_rfl) (by kernel_rfl) (by kernel_rfl) (fun _ _ _ h => h) (Or.inl ⟨by rfl, ?hy5⟩) (by assumption) ?rest5
  case hy5 => (intro w hSw; (try dsimp only at hSw); go_simp; try (with_reducible rfl))
  case rest5 =>
  try simp only [Act.put, List.setIfInBounds_toArray, List.set_cons_zero, List.set_cons_succ]
  refine wpAnyK_take (i := 5) (v := ?v6) rfl (by kernel_rfl) (by kernel_rfl) (by kernel_rfl) (by kernel_rfl) (fun _ _ _ h => h) (Or.inl ⟨by rfl, ?hy6⟩) (by assumption) ?rest6
  case hy6 => (intro w hSw; (try dsimp only at hSw); go_simp; try (with_reducible rfl))
  case rest6 =>
  try simp only [Act.put, List.setIfInBounds_toArray, List.set_cons_zero, List.set_cons_succ]
  refine wpAnyK_take (i := 6) (v := ?v7) rfl (by kernel_rfl) (by kernel_rfl) (by kernel_rfl) (by kernel_rfl) (fun _ _ _ h => h) (Or.inl ⟨by rfl, ?hy7⟩) (by assumption) ?rest7
  case hy7 => (intro w hSw; (try dsimp only at hSw); go_simp; try (with_reducible rfl))
  case rest7 =>
  try simp only [Act.put, List.setIfInBounds_toArray, List.set_cons_zero, List.set_cons_succ]
  refine wpAnyK_take (i := 7) (v := ?v8) rfl (by kernel_rfl) (by kernel_rfl) (by kernel_rfl) (by kernel_rfl) (fun _ _ _ h => h) (Or.inl ⟨by rfl, ?hy8⟩) (by assumption) ?rest8
  case hy8 => (intro w hSw; (try dsimp only at hSw); go_simp; try (with_reducible rfl))
  case rest8 =>
  try simp only [Act.put, List.setIfInBounds_toArray, List.set_cons_zero, List.set_cons_succ]
  refine wpAnyK_take (i := 8) (v := ?v9) rfl (by kernel_rfl) (by kernel_rfl) (by kernel_rfl) (by kernel_rfl) (fun _ _ _ h => h) (Or.inl ⟨by rfl, ?hy9⟩) (by assumption) ?rest9
  case hy9 => (intro w hSw; (try dsimp only at hSw); go_simp; try (with_reducible rfl))
  case rest9 =>
  try simp only [Act.put, List.setIfInBounds_toArray, List.set_cons_zero, List.set_cons_succ]
  refine wpAnyK_take (i := 9) (v := ?v10) rfl (by kernel_rfl) (by kernel_rfl) (by kernel_rfl) (by kernel_rfl) (fun _ _ _ h => h) (Or.inl ⟨by rfl, ?hy10⟩) (by assumption) ?rest10
  case hy10 => (intro w hSw; (try dsimp only at hSw); go_simp; try (with_reducible rfl))
  case rest10 =>
  try simp only [Act.put, List.setIfInBounds_toArray, List.set_cons_zero, List.set_cons_succ]
  refine wpAnyK_take (i := 10) (v := ?v11) rfl (by kernel_rfl) (by kernel_rfl) (by kernel_rfl) (by kernel_rfl) (fun _ _ _ h => h) (Or.inl ⟨by rfl, ?hy11⟩) (by assumption) ?rest11
  case hy11 => (intro w hSw; (try dsimp only at hSw); go_simp; try (with_reducible rfl))
  case rest11 =>
  try simp only [Act.put, List.setIfInBounds_toArray, List.set_cons_zero, List.set_cons_succ]
  refine wpAnyK_ready (rs := [11]) (by kernel_rfl) (by simp) ?_
  refine AllReadyK.cons rfl (fun K hK => ?_) AllReadyK.nil
  refine build1_step (by first | rfl | (go_simp; done) | (go_simp; rfl)) (N := 13) rfl (v := .slice (some ⟨r0.g, 0, none⟩) r0.n r0.c) (by first | (go_simp; done) | (go_simp; rfl)) ?_
  refine hK.out _ _ (.inr ⟨Lib.cell?_alloc_some _ c1, Lib.cell?_alloc_some _ c2, Lib.cell?_alloc_some _ hcell⟩) ?_
  clear hK K
  try simp only [Act.put, List.setIfInBounds_toArray, List.set_cons_zero, List.set_cons_succ]
  refine wpAnyK_ready (rs := [12]) (by kernel_rfl) (by simp) ?_
  refine AllReadyK.cons rfl (fun K hK => ?_) AllReadyK.nil
  refine Kd.Q_append_step rrK (w0 := wd) (W := wd) 0 (by first | rfl | (go_simp; done) | (go_simp; rfl)) (.tmp 6) (.tmp 13) 55 29 (.slice none 0 0) 24 rfl Tryz.underlying55 infoRowz rfl (by decide) (by omega) (.slice B nb cb) G r0 [RR.v r0] P (fun _ => False) rfl rfl rfl (fun _ hk => hk.elim) (fun k hk => HP.out k (Nat.le_trans HO.out.size hk)) HY.out.qg (Below.refl _ _) (Nat.zero_le _) (by omega) ?_
  intro v1 w1 hq_ _ hg_ ha_
  have hn1 : (Value.slice B nb cb).ownBlock ≠ some T := HY.out.apart.2.1
  have hn2 : some ad.block ≠ (Value.slice B nb cb).ownBlock := fun e => HY.out.ne ad.block hob e.symm
  have c2' := cell_grown hg_ c2 (fun e => hn1 e.symm)
  refine hK.out _ _ (.inr ⟨cell_grown hg_ c1 (fun e => hn1 e.symm), c2', cell_grown hg_ hcell hn2⟩) ?_
  clear hK K
  try simp only [Act.put, List.setIfInBounds_toArray, List.set_cons_zero, List.set_cons_succ]
  have hHd' : (fun w' : World => w'.cell? ⟨T, 1, none⟩ = some (.slice (some ad) n c) ∧ w'.cell? ⟨T, 2, none⟩ = some (.slice B nb cb) ∧ w'.cell? ad = some (.slice (some ⟨r0.g, 0, none⟩) r0.n r0.c)) w1 := ⟨cell_grown hg_ c1 (fun e => hn1 e.symm), c2', cell_grown hg_ hcell hn2⟩
  have cf' : w1.frozen? ⟨T, 2, none⟩ = false := ((HY.out.b.to (hg_.block T HY.out.b.lt (fun e => hn1 e.symm)))).frozen 2
  obtain ⟨HYp, HOp⟩ := HY.out.push (by simp) HR0.out hq_ hg_ ha_
  obtain ⟨B1, cb1, rfl, hcb1⟩ := Kd.Q_slice hq_
  clear hq_ hg_ ha_ hHd c1 c2 hcell hn1 hn2
  refine wpAnyK_ready (rs := [13]) (by kernel_rfl) (by simp) ?_
  refine AllReadyK.cons rfl (fun K hK => ?_) AllReadyK.nil
  refine pure_step (by first | rfl | (go_simp; done) | (go_simp; rfl)) (v := .pointer (some ⟨T, 0, none⟩)) (by first | (go_simp; done) | (go_simp; rfl)) ?_
  refine hK.out _ _ (.inr (by assumption)) ?_
  clear hK K
  try simp only [Act.put, List.setIfInBounds_toArray, List.set_cons_zero, List.set_cons_succ]
  refine wpAnyK_take (i := 14) (v := ?v12) rfl (by kernel_rfl) (by kernel_rfl) (by kernel_rfl) (by kernel_rfl) (fun _ _ _ h => h) (Or.inl ⟨by rfl, ?hy12⟩) (by assumption) ?rest12
  case hy12 => (intro w hSw; (try dsimp only at hSw); go_simp; try (with_reducible rfl))
  case rest12 =>
  try simp only [Act.put, List.setIfInBounds_toArray, List.set_cons_zero, List.set_cons_succ]
  refine wpAnyK_ready (rs := [15]) (by kernel_rfl) (by simp) ?_
  refine AllReadyK.cons rfl (fun K hK => ?_) AllReadyK.nil
  rw [if_pos (by first | rfl | (go_simp; done) | (go_simp; rfl))]
  refine cell_step rfl rfl (g := T) (i := 2) (v := (.slice B1 (G ++ [r0]).length cb1)) (by first | rfl | (go_simp; done) | (go_simp; rfl)) (by first | rfl | (go_simp; done) | (go_simp; rfl)) c2' cf' info_row1 rfl ?_
  have HY2 := Hd.mk HYp
  have HO2 := Hd.mk (HO.out.trans HOp (fun _ _ h => h))
  clear HYp HOp hHd' c2' cf' cf HY HO hob hcb1 HR0
  refine hK.out _ _ (.inl (by kernel_rfl)) ?_
  clear hK K
  try simp only [Act.put, List.setIfInBounds_toArray, List.set_cons_zero, List.set_cons_succ]
  refine wpAnyK_done (by kernel_rfl) ?_ _
  refine hKQ _ _ ?_
  generalize w1.setCell ⟨T, 2, none⟩ (.slice B1 (G ++ [r0]).length cb1) = wp at *
  obtain ⟨s1, hs1⟩ : ∃ s1, { s with gone := s.gone ++ [l0] } = s1 := ⟨_, rfl⟩
  rw [hs1] at HY2
  have HS1 := Hd.mk hs1
  clear hs1
  go_upto_region 1 with fail
  rename_i KQ hKQ
  refine regionK (fun w' : World => w'.cell? ⟨T, 2, none⟩ = some (.slice B1 (G ++ [r0]).length cb1)) 15 (by kernel_rfl) (fun wd hb => ?_)
  replace HO2 := Hd.mk (HO2.out.below hb)
  replace HY2 := Hd.mk (HY2.out.below hb)
  have c2 := HY2.out.all.1.2.2.1
  have cf := HY2.out.all.2 2
  have hcb := (Kd.Q_reads' HY2.out.qg).2.1
  have hHd : (fun w' : World => w'.cell? ⟨T, 2, none⟩ = some (.slice B1 (G ++ [r0]).length cb1)) wd := c2
  clear hb
  obtain ⟨m, hm⟩ : ∃ m, m = (G ++ [r0]).length - 1000 := ⟨_, rfl⟩
  have HM := Hd.mk hm
  have hgl3 : (G ++ [r0]).length = nb + 1 := by rw [List.length_append, hnb]; rfl
  have hml : m ≤ (G ++ [r0]).length := by omega
  have hm2 : (m : Int) = max (((G ++ [r0]).length : Int) - 1000) 0 := by omega
  clear hm
  have HGL3 := Hd.mk hgl3
  generalize hN : (G ++ [r0]).length = N at *
  have HN := Hd.mk hN
  clear hN
  have hN2 : (N : Int) ≤ 1001 := by omega
  have hN3 : (0 : Int) ≤ (N : Int) := by omega
  have hm3 : (m : Int) ≤ (N : Int) := by omega
  have HM2 := Hd.mk hm2
  clear hm2 hgl3
  refine wpAnyK_take (i := 0) (v := ?v13) rfl (by kernel_rfl) (by kernel_rfl) (by kernel_rfl) (by kernel_rfl) (fun _ _ _ h => h) (Or.inl ⟨by rfl, ?hy13⟩) (by assumption) ?rest13
  case hy13 => (intro w hSw; (try dsimp only at hSw); go_simp; try (with_reducible rfl))
  case rest13 =>
  try simp only [Act.put, List.setIfInBounds_toArray, List.set_cons_zero, List.set_cons_succ]
  refine wpAnyK_take (i := 1) (v := ?v14) rfl (by kernel_rfl) (by kernel_rfl) (by kernel_rfl) (by kernel_rfl) (fun _ _ _ h => h) (Or.inl ⟨by rfl, ?hy14⟩) (by assumption) ?rest14
  case hy14 => (intro w hSw; (try dsimp only at hSw); go_simp; try (with_reducible rfl))
  case rest14 =>
  try simp only [Act.put, List.setIfInBounds_toArray, List.set_cons_zero, List.set_cons_succ]
  refine wpAnyK_take (i := 2) (v := ?v15) rfl (by kernel_rfl) (by kernel_rfl) (by kernel_rfl) (by kernel_rfl) (fun _ _ _ h => h) (Or.inl ⟨by rfl, ?hy15⟩) (by assumption) ?rest15
  case hy15 => (intro w hSw; (try dsimp only at hSw); go_simp; try (with_reducible rfl))
  case rest15 =>
  try simp only [Act.put, List.setIfInBounds_toArray, List.set_cons_zero, List.set_cons_succ]
  refine wpAnyK_take (i := 3) (v := ?v16) rfl (by kernel_rfl) (by kernel_rfl) (by kernel_rfl) (by kernel_rfl) (fun _ _ _ h => h) (Or.inl ⟨by rfl, ?hy16⟩) (by assumption) ?rest16
  case hy16 => (intro w hSw; (try dsimp only at hSw); go_simp; try (with_reducible rfl))
  case rest16 =>
  try simp only [Act.put, List.setIfInBounds_toArray, List.set_cons_zero, List.set_cons_succ]
  refine wpAnyK_take (i := 4) (v := ?v17) rfl (by kernel_rfl) (by kernel_rfl) (by kernel_rfl) (by kernel_rfl) (fun _ _ _ h => h) (Or.inl ⟨by rfl, ?hy17⟩) (by assumption) ?rest17
  case hy17 => (intro w hSw; (try dsimp only at hSw); go_simp; try (with_reducible rfl))
  case rest17 =>
  try simp only [Act.put, List.setIfInBounds_toArray, List.set_cons_zero, List.set_cons_succ]
  refine wpAnyK_take (i := 5) (v := ?v18) rfl (by kernel_rfl) (by kernel_rfl) (by kernel_rfl) (by kernel_rfl) (fun _ _ _ h => h) (Or.inl ⟨by rfl, ?hy18⟩) (by assumption) ?rest18
  case hy18 => (intro w hSw; (try dsimp only at hSw); go_simp; try (with_reducible rfl))
  case rest18 =>
  try simp only [Act.put, List.setIfInBounds_toArray, List.set_cons_zero, List.set_cons_succ]
  refine wpAnyK_take (i := 6) (v := ?v19) rfl (by kernel_rfl) (by kernel_rfl) (by kernel_rfl) (by kernel_rfl) (fun _ _ _ h => h) (Or.inl ⟨by rfl, ?hy19⟩) (by assumption) ?rest19
  case hy19 => (intro w hSw; (try dsimp only at hSw); go_simp; try (with_reducible rfl))
  case rest19 =>
  try simp only [Act.put, List.setIfInBounds_toArray, List.set_cons_zero, List.set_cons_succ]
  refine wpAnyK_take (i := 7) (v := ?v20) rfl (by kernel_rfl) (by kernel_rfl) (by kernel_rfl) (by kernel_rfl) (fun _ _ _ h => h) (Or.inl ⟨by rfl, ?hy20⟩) (by assumption) ?rest20
  case hy20 => (intro w hSw; (try dsimp only at hSw); go_simp; try (with_reducible rfl))
  case rest20 =>
  try simp only [Act.put, List.setIfInBounds_toArray, List.set_cons_zero, List.set_cons_succ]
  refine wpAnyK_take (i := 8) (v := ?v21) rfl (by kernel_rfl) (by kernel_rfl) (by kernel_rfl) (by kernel_rfl) (fun _ _ _ h => h) (Or.inl ⟨by rfl, ?hy21⟩) (by assumption) ?rest21
  case hy21 => (intro w hSw; (try dsimp only at hSw); go_simp; try (with_reducible rfl))
  case rest21 =>
  try simp only [Act.put, List.setIfInBounds_toArray, List.set_cons_zero, List.set_cons_succ]
  refine wpAnyK_take (i := 9) (v := ?v22) rfl (by kernel_rfl) (by kernel_rfl) (by kernel_rfl) (by kernel_rfl) (fun _ _ _ h => h) (Or.inl ⟨by rfl, ?hy22⟩) (by assumption) ?rest22
  case hy22 => (intro w hSw; (try dsimp only at hSw); go_simp; try (with_reducible rfl))
  case rest22 =>
  try simp only [Act.put, List.setIfInBounds_toArray, List.set_cons_zero, List.set_cons_succ]
  refine wpAnyK_take (i := 10) (v := ?v23) rfl (by kernel_rfl) (by kernel_rfl) (by kernel_rfl) (by kernel_rfl) (fun _ _ _ h => h) (Or.inl ⟨by rfl, ?hy23⟩) (by assumption) ?rest23
  case hy23 => (intro w hSw; (try dsimp only at hSw); go_simp; try (with_reducible rfl))
  case rest23 =>
  try simp only [Act.put, List.setIfInBounds_toArray, List.set_cons_zero, List.set_cons_succ]
  refine wpAnyK_take (i := 11) (v := (.int .i64 (m : Int))) rfl (by kernel_rfl) (by kernel_rfl) (by kernel_rfl) (by kernel_rfl) (fun _ _ _ h => h) (Or.inl ⟨by rfl, ?hy24⟩) (by assumption) ?rest24
  case hy24 => (intro w hSw; (try dsimp only at hSw); go_simp; rw [IntKind.wrap_i64]; have := HM2.out; omega)
  case rest24 =>
  try simp only [Act.put, List.setIfInBounds_toArray, List.set_cons_zero, List.set_cons_succ]
  refine wpAnyK_take (i := 12) (v := (.slice (if cb1 = m then B1 else B1.map (·.add (m * 1))) (N - m) (cb1 - m))) rfl (by kernel_rfl) (by kernel_rfl) (by kernel_rfl) (by kernel_rfl) (fun _ _ _ h => h) (Or.inl ⟨by rfl, ?hy25⟩) (by assumption) ?rest25
  case hy25 => (intro w hSw; (try dsimp only at hSw); go_simp; try (with_reducible rfl))
  case rest25 =>
  try simp only [Act.put, List.setIfInBounds_toArray, List.set_cons_zero, List.set_cons_succ]
  refine wpAnyK_ready (rs := [13]) (by kernel_rfl) (by simp) ?_
  refine AllReadyK.cons rfl (fun K hK => ?_) AllReadyK.nil
  refine pure_step (by first | rfl | (go_simp; done) | (go_simp; rfl)) (v := .pointer (some ⟨T, 0, none⟩)) (by first | (go_simp; done) | (go_simp; rfl)) ?_
  refine hK.out _ _ (.inr (by assumption)) ?_
  clear hK K
  try simp only [Act.put, List.setIfInBounds_toArray, List.set_cons_zero, List.set_cons_succ]
  refine wpAnyK_take (i := 14) (v := ?v26) rfl (by kernel_rfl) (by kernel_rfl) (by kernel_rfl) (by kernel_rfl) (fun _ _ _ h => h) (Or.inl ⟨by rfl, ?hy26⟩) (by assumption) ?rest26
  case hy26 => (intro w hSw; (try dsimp only at hSw); go_simp; try (with_reducible rfl))
  case rest26 =>
  try simp only [Act.put, List.setIfInBounds_toArray, List.set_cons_zero, List.set_cons_succ]
  refine wpAnyK_ready (rs := [15]) (by kernel_rfl) (by simp) ?_
  refine AllReadyK.cons rfl (fun K hK => ?_) AllReadyK.nil
  rw [if_pos (by first | rfl | (go_simp; done) | (go_simp; rfl))]
  refine cell_step rfl rfl (g := T) (i := 2) (v := (.slice (if cb1 = m then B1 else B1.map (·.add (m * 1))) (N - m) (cb1 - m))) (by first | rfl | (go_simp; done) | (go_simp; rfl)) (by first | rfl | (go_simp; done) | (go_simp; rfl)) c2 cf info_row1 rfl ?_
  have HY3 := Hd.mk (HY2.out.cutG (m := m) (by rw [HN.out]; exact hml))
  have HO3 := Hd.mk (HO2.out.setCell (p := ⟨T, 2, none⟩) (.inl HY2.out.pt) (.slice (if cb1 = m then B1 else B1.map (·.add (m * 1))) (N - m) (cb1 - m)))
  clear c2 cf hHd HY2 HO2
  refine hK.out _ _ (.inl (by kernel_rfl)) ?_
  clear hK K
  try simp only [Act.put, List.setIfInBounds_toArray, List.set_cons_zero, List.set_cons_succ]
  refine wpAnyK_done (by kernel_rfl) ?_ _
  refine hKQ _ _ ?_
  obtain ⟨s2, hs2⟩ : ∃ s2, { s1 with gone := s1.gone.drop m } = s2 := ⟨_, rfl⟩
  rw [hs2] at HY3
  have HS2 := Hd.mk hs2
  clear hs2
  obtain ⟨B2, hB2⟩ : ∃ B2, B2 = (if cb1 = m then B1 else B1.map (·.add (m * 1))) := ⟨_, rfl⟩
  rw [← hB2] at HY3 HO3 ⊢
  clear hB2
  generalize wd.setCell ⟨T, 2, none⟩ (.slice B2 (N - m) (cb1 - m)) = wc at *
  have c3 := HY3.out.all.1.2.2.2.1
  have f3 := HY3.out.all.2
  have HE3 : Hd (s2.off = s.off ∧ s2.cols = s.cols ∧ s2.l = s.l) := ⟨by rw [← HS2.out, ← HS1.out]; exact ⟨rfl, rfl, rfl⟩⟩
  rw [HE3.out.1] at c3
  have o1 : (s.off : Int) ≤ 1000000 := by omega
  have o2 : (0 : Int) ≤ (s.off : Int) := Int.natCast_nonneg _
  go_upto_region 3 with fail
  have HY4 := Hd.mk (HY3.out.off_ HE3.out.1)
  have HO4 := Hd.mk (HO3.out.setCell (p := ⟨T, 3, none⟩) (.inl HY3.out.pt) (.int .i64 ((s.off : Int) + 1)))
  clear c3 f3 HY3 HO3
  generalize wc.setCell ⟨T, 3, none⟩ (.int .i64 ((s.off : Int) + 1)) = w4 at *
  obtain ⟨s3, hs3⟩ : ∃ s3, { s2 with off := s.off + 1 } = s3 := ⟨_, rfl⟩
  rw [hs3] at HY4
  have HS3 := Hd.mk hs3
  clear hs3
  have HE4 : Hd (s3.cols = s.cols ∧ s3.l = s.l) := ⟨by rw [← HS3.out]; exact HE3.out.2⟩
  rename_i KQ hKQ
  refine regionK (fun w' : World => w'.cell? ⟨T, 0, none⟩ = some (.int .i64 (s.cols : Int)) ∧ w'.cell? ⟨T, 1, none⟩ = some (.slice (some ad) n c)) 16 (by kernel_rfl) (fun wd hb => ?_)
  replace HO4 := Hd.mk (HO4.out.below hb)
  replace HY4 := Hd.mk (HY4.out.below hb)
  have c0 := HY4.out.all.1.1
  have c1 := HY4.out.all.1.2.1
  rw [HE4.out.1] at c0
  have cf := HY4.out.all.2 1
  have hHd : (fun w' : World => w'.cell? ⟨T, 0, none⟩ = some (.int .i64 (s.cols : Int)) ∧ w'.cell? ⟨T, 1, none⟩ = some (.slice (some ad) n c)) wd := ⟨c0, c1⟩
  have HH : Hd (∀ W', Below wd.heap.size wd W' → (fun w' : World => w'.cell? ⟨T, 0, none⟩ = some (.int .i64 (s.cols : Int)) ∧ w'.cell? ⟨T, 1, none⟩ = some (.slice (some ad) n c)) W' ∧ W'.frozen? ⟨T, 1, none⟩ = false) := ⟨fun W' hb => ⟨⟨(hb.cell (World.block_lt_of_cell? wd _ c0)).trans c0, (hb.cell (World.block_lt_of_cell? wd _ c1)).trans c1⟩, (HY4.out.b.to (hb.block T HY4.out.b.lt)).frozen 1⟩⟩
  obtain ⟨ad1, had⟩ : ∃ ad1, (if c = 1 then some ad else some (ad.add 1)) = some ad1 := by split; exact ⟨_, rfl⟩; exact ⟨_, rfl⟩
  have hq1 := Kd.Q_drop HY4.out.ql (k := 1) (by simp)
  rw [show rrK.sz = 1 from rfl, Option.map_some, Nat.one_mul, had, show (r0 :: L').drop 1 = L' from rfl] at hq1
  have hc1n : (1 : Int) ≤ (n : Int) := by omega
  have hn1 : 1 ≤ n := by omega
  have hnc : n ≤ c := hcap
  clear hb c0 c1 cf
  refine wpAnyK_take (i := 0) (v := ?v27) rfl (by kernel_rfl) (by kernel_rfl) (by kernel_rfl) (by kernel_rfl) (fun _ _ _ h => h) (Or.inl ⟨by rfl, ?hy27⟩) (by assumption) ?rest27
  case hy27 => (intro w hSw; (try dsimp only at hSw); go_simp; try (with_reducible rfl))
  case rest27 =>
  try simp only [Act.put, List.setIfInBounds_toArray, List.set_cons_zero, List.set_cons_succ]
  refine wpAnyK_take (i := 1) (v := ?v28) rfl (by kernel_rfl) (by kernel_rfl) (by kernel_rfl) (by kernel_rfl) (fun _ _ _ h => h) (Or.inl ⟨by rfl, ?hy28⟩) (by assumption) ?rest28
  case hy28 => (intro w hSw; (try dsimp only at hSw); go_simp; try (with_reducible rfl))
  case rest28 =>
  try simp only [Act.put, List.setIfInBounds_toArray, List.set_cons_zero, List.set_cons_succ]
  refine wpAnyK_take (i := 2) (v := ?v29) rfl (by kernel_rfl) (by kernel_rfl) (by kernel_rfl) (by kernel_rfl) (fun _ _ _ h => h) (Or.inl ⟨by rfl, ?hy29⟩) (by assumption) ?rest29
  case hy29 => (intro w hSw; (try dsimp only at hSw); go_simp; try (with_reducible rfl))
  case rest29 =>
  try simp only [Act.put, List.setIfInBounds_toArray, List.set_cons_zero, List.set_cons_succ]
  refine wpAnyK_take (i := 3) (v := ?v30) rfl (by kernel_rfl) (by kernel_rfl) (by kernel_rfl) (by kernel_rfl) (fun _ _ _ h => h) (Or.inl ⟨by rfl, ?hy30⟩) (by assumption) ?rest30
  case hy30 => (intro w hSw; (try dsimp only at hSw); go_simp; try (with_reducible rfl))
  case rest30 =>
  try simp only [Act.put, List.setIfInBounds_toArray, List.set_cons_zero, List.set_cons_succ]
  refine wpAnyK_take (i := 4) (v := ?v31) rfl (by kernel_rfl) (by kernel_rfl) (by kernel_rfl) (by kernel_rfl) (fun _ _ _ h => h) (Or.inl ⟨by rfl, ?hy31⟩) (by assumption) ?rest31
  case hy31 => (intro w hSw; (try dsimp only at hSw); go_simp; try (with_reducible rfl))
  case rest31 =>
  try simp only [Act.put, List.setIfInBounds_toArray, List.set_cons_zero, List.set_cons_succ]
  refine wpAnyK_take (i := 5) (v := (.slice (some ad1) (n - 1) (c - 1))) rfl (by kernel_rfl) (by kernel_rfl) (by kernel_rfl) (by kernel_rfl) (fun _ _ _ h => h) (Or.inl ⟨by rfl, ?hy32⟩) (by assumption) ?rest32
  case hy32 => (intro w hSw; (try dsimp only at hSw); go_simp; first | exact had | (unfold Addr.add at had; exact had) | (rw [← had]; unfold Addr.add; split <;> rfl))
  case rest32 =>
  try simp only [Act.put, List.setIfInBounds_toArray, List.set_cons_zero, List.set_cons_succ]
  refine wpAnyK_take (i := 7) (v := ?v33) rfl (by kernel_rfl) (by kernel_rfl) (by kernel_rfl) (by kernel_rfl) (fun _ _ _ h => h) (Or.inl ⟨by rfl, ?hy33⟩) (by assumption) ?rest33
  case hy33 => (intro w hSw; (try dsimp only at hSw); go_simp; try (with_reducible rfl))
  case rest33 =>
  try simp only [Act.put, List.setIfInBounds_toArray, List.set_cons_zero, List.set_cons_succ]
  refine wpAnyK_take (i := 8) (v := ?v34) rfl (by kernel_rfl) (by kernel_rfl) (by kernel_rfl) (by kernel_rfl) (fun _ _ _ h => h) (Or.inl ⟨by rfl, ?hy34⟩) (by assumption) ?rest34
  case hy34 => (intro w hSw; (try dsimp only at hSw); go_simp; try (with_reducible rfl))
  case rest34 =>
  try simp only [Act.put, List.setIfInBounds_toArray, List.set_cons_zero, List.set_cons_succ]
  refine wpAnyK_take (i := 9) (v := ?v35) rfl (by kernel_rfl) (by kernel_rfl) (by kernel_rfl) (by kernel_rfl) (fun _ _ _ h => h) (Or.inl ⟨by rfl, ?hy35⟩) (by assumption) ?rest35
  case hy35 => (intro w hSw; (try dsimp only at hSw); go_simp; try (with_reducible rfl))
  case rest35 =>
  try simp only [Act.put, List.setIfInBounds_toArray, List.set_cons_zero, List.set_cons_succ]
  refine wpAnyK_take (i := 10) (v := ?v36) rfl (by kernel_rfl) (by kernel_rfl) (by kernel_rfl) (by kernel_rfl) (fun _ _ _ h => h) (Or.inl ⟨by rfl, ?hy36⟩) (by assumption) ?rest36
  case hy36 => (intro w hSw; (try dsimp only at hSw); go_simp; try (with_reducible rfl))
  case rest36 =>
  try simp only [Act.put, List.setIfInBounds_toArray, List.set_cons_zero, List.set_cons_succ]
  have hL : L'.length = n - 1 := by rw [← hn]; rfl
  have XC := Hd.mk (clone_spine_calls ad1 (n - 1) (c - 1) (L'.map RR.v) wd (by rw [List.length_map, hL, Nat.mul_one]) (spine_cells hq1) (spineV_one L') (by omega))
  have HLL' := Hd.mk hL
  clear hq1 hL had
  refine wpAnyK_ready (rs := [6]) (by kernel_rfl) (by simp) ?_
  refine AllReadyK.cons rfl (fun K hK => ?_) AllReadyK.nil
  go_simp
  go_at_call 63
  with_reducible refine XC.out.mono ?_
  rintro _ wq ⟨vq, rfl, hown, hb⟩
  have HV := Hd.mk hown
  have HB := Hd.mk hb
  clear XC hown hb
  go_simp
  refine hK.out _ _ (.inr (HH.out _ HB.out).1) ?_
  clear hK K
  try simp only [Act.put, List.setIfInBounds_toArray, List.set_cons_zero, List.set_cons_succ]
  have XB := Hd.mk (blank_calls s.cols hc1 (by omega) wq)
  refine wpAnyK_ready (rs := [11]) (by kernel_rfl) (by simp) ?_
  refine AllReadyK.cons rfl (fun K hK => ?_) AllReadyK.nil
  go_simp
  go_at_call 28
  with_reducible refine XB.out.mono ?_
  rintro _ wr ⟨rn, rfl, hrn, hrg, hra, hb⟩
  have HRG : Hd (wd.heap.size ≤ rn.g) := ⟨by have := HB.out.size; omega⟩
  have hob := own_below_ HV.out hb
  replace HV := Hd.mk hob
  replace HB := Hd.mk (HB.out.trans (hb.mono HB.out.size))
  have HRN := Hd.mk hra
  clear XB hrn hrg hra hb hob
  go_simp
  refine hK.out _ _ (.inr (HH.out _ HB.out).1) ?_
  clear hK K
  try simp only [Act.put, List.setIfInBounds_toArray, List.set_cons_zero, List.set_cons_succ]
  obtain ⟨hnn, hwf⟩ : rn.n = rn.n ∧ True := ⟨rfl, trivial⟩
  clear hnn hwf
  refine wpAnyK_ready (rs := [12]) (by kernel_rfl) (by simp) ?_
  refine AllReadyK.cons rfl (fun K hK => ?_) AllReadyK.nil
  refine build1_step (by first | rfl | (go_simp; done) | (go_simp; rfl)) (N := 51) rfl (v := .slice (some ⟨rn.g, 0, none⟩) rn.n rn.c) (by first | (go_simp; done) | (unfold RR.v; go_simp; done) | (unfold RR.v; go_simp; rfl)) ?_
  have HA := Hd.mk (below_alloc HB.out (.cells #[.slice (some ⟨rn.g, 0, none⟩) rn.n rn.c] 29))
  refine hK.out _ _ (.inr (HH.out _ HA.out).1) ?_
  clear hK K
  try simp only [Act.put, List.setIfInBounds_toArray, List.set_cons_zero, List.set_cons_succ]
  refine wpAnyK_ready (rs := [13]) (by kernel_rfl) (by simp) ?_
  refine AllReadyK.cons rfl (fun K hK => ?_) AllReadyK.nil
  have hq := spine_own (P := P) (xs := L') (by rw [HLL'.out]; exact HV.out) (fun k hk => HP.out k (Nat.le_trans HO4.out.size hk))
  refine Kd.Q_append_step rrK (w0 := wd) (W := wr) wd.heap.size (by first | rfl | (go_simp; done) | (go_simp; rfl)) (.tmp 45) (.tmp 51) 55 29 (.slice none 0 0) 24 rfl Tryz.underlying55 infoRowz rfl (by decide) (by omega) vq L' rn [RR.v rn] P (fun _ => False) rfl rfl rfl (fun _ hk => hk.elim) (fun k hk => HP.out k (Nat.le_trans HO4.out.size (Nat.le_trans HB.out.size hk))) hq HB.out HB.out.size (by rw [HLL'.out]; omega) ?_
  intro v1 w1 hq_ hbl hg_ ha_
  obtain ⟨Az, cz, rfl, hcz⟩ := Kd.Q_slice hq_
  clear hcz
  have hrn : RowAt w1 rn (blankR s.cols) := HRN.out.to (hg_.block _ HRN.out.lt (fun e => q_type_ne hq HRN.out (by decide) e.symm))
  have hfl : All2 (RowAt wd) L' lt := by have h1 := HY4.out.fl; rw [HE4.out.2, HSL.out] at h1; cases h1 with | cons _ h2 => exact h2
  obtain ⟨HYz, HOz⟩ := HY4.out.newL (L1 := L' ++ [rn]) (l1 := lt ++ [blankR s.cols]) hbl (Kd.Q_lower hq_ (Nat.zero_le _)) (fun k hk => Kd.Q_base hq_ k hk) (all2_app (forall_imp hfl (fun r _ l hl => hl.to (hbl.block _ hl.lt))) hrn) (fun r hr => by
    rcases List.mem_append.1 hr with hr | hr
    · exact HY4.out.pr r (List.mem_append_left _ (List.mem_cons_of_mem _ hr))
    · rw [List.mem_singleton.1 hr]; exact HP.out _ (Nat.le_trans HO4.out.size HRG.out))
  have HYZ := Hd.mk (HYz.o (nodup_scroll HND.out (fun r hr => by
    have hr2 : r ∈ (r0 :: L') ++ G := hr
    exact HBD.out r hr2) (Nat.le_trans HO4.out.size HRG.out)))
  have HOZ := Hd.mk (HO4.out.trans HOz (fun _ _ h => h))
  have HHz := HH.out _ hbl
  refine hK.out _ _ (.inr HHz.1) ?_
  clear hK K
  try simp only [Act.put, List.setIfInBounds_toArray, List.set_cons_zero, List.set_cons_succ]
  have c1 := HHz.1.2
  have cf := HHz.2
  have hHd' : (fun w' : World => w'.cell? ⟨T, 0, none⟩ = some (.int .i64 (s.cols : Int)) ∧ w'.cell? ⟨T, 1, none⟩ = some (.slice (some ad) n c)) w1 := HHz.1
  clear hq hq_ hbl hg_ ha_ hrn hfl HYz HOz HHz hHd HH
  refine wpAnyK_ready (rs := [14]) (by kernel_rfl) (by simp) ?_
  refine AllReadyK.cons rfl (fun K hK => ?_) AllReadyK.nil
  refine pure_step (by first | rfl | (go_simp; done) | (go_simp; rfl)) (v := .pointer (some ⟨T, 0, none⟩)) (by first | (go_simp; done) | (go_simp; rfl)) ?_
  refine hK.out _ _ (.inr (by assumption)) ?_
  clear hK K
  try simp only [Act.put, List.setIfInBounds_toArray, List.set_cons_zero, List.set_cons_succ]
  refine wpAnyK_take (i := 15) (v := ?v37) rfl (by kernel_rfl) (by kernel_rfl) (by kernel_rfl) (by kernel_rfl) (fun _ _ _ h => h) (Or.inl ⟨by rfl, ?hy37⟩) (by assumption) ?rest37
  case hy37 => (intro w hSw; (try dsimp only at hSw); go_simp; try (with_reducible rfl))
  case rest37 =>
  try simp only [Act.put, List.setIfInBounds_toArray, List.set_cons_zero, List.set_cons_succ]
  refine wpAnyK_ready (rs := [16]) (by kernel_rfl) (by simp) ?_
  refine AllReadyK.cons rfl (fun K hK => ?_) AllReadyK.nil
  rw [if_pos (by first | rfl | (go_simp; done) | (go_simp; rfl))]
  refine cell_step rfl rfl (g := T) (i := 1) (v := (.slice Az (L' ++ [rn]).length cz)) (by first | rfl | (go_simp; done) | (go_simp; rfl)) (by first | rfl | (go_simp; done) | (go_simp; rfl)) c1 cf info_row1 rfl ?_
  refine hK.out _ _ (.inl (by kernel_rfl)) ?_
  clear hK K
  try simp only [Act.put, List.setIfInBounds_toArray, List.set_cons_zero, List.set_cons_succ]
  refine wpAnyK_done (by kernel_rfl) ?_ _
  go_end0
  have hS : ({ s3 with l := lt ++ [blankR s.cols] } : Tm) = s.scroll := by
    have hm := HM.out
    rw [HGL3.out, HGLEN.out] at hm
    rw [← HS3.out, ← HS2.out, ← HS1.out]
    unfold Tm.scroll keptL
    rw [HSL.out, List.length_append, List.length_singleton, ← hm]
    rfl
  rw [hS] at HYZ
  exact ⟨rfl, HYZ.out.at_, HOZ.out⟩
set_option maxRecDepth 100000 in
set_option maxHeartbeats 4000000 in
theorem down_calls {P : Nat → Prop} {w : World} {T M : Nat} {s : Tm} (h : TermAt P w T s) (hok : OKT M s) (hM : M ≤ 1000000) (hP : ∀ k, w.heap.size ≤ k → P k) :
    Calls Tryz.prog 46 #[.pointer (some ⟨T, 0, none⟩)] w fun e w' => e = .returned (.tuple #[]) ∧ TermAt P w' T s.down ∧ Only P w w' := by
  obtain ⟨D, hD⟩ : ∃ D, s.down = D := ⟨_, rfl⟩
  rw [hD]
  have HD := Hd.mk hD
  clear hD
  obtain ⟨lv, gv, bv, L, G, h1⟩ := h
  have hlen := forall_len h1.fl
  have hr2 := hok.r2
  have hrow := hok.row
  obtain ⟨A, c, rfl, hcap⟩ := Kd.Q_slice h1.ql
  have H2 := Hd.mk (h1.full_ false)
  have HO : Hd (Only P w (w.setCell ⟨T, 6, none⟩ (.bool false))) := ⟨(Only.refl P w).setCell (.inl h1.pt) _⟩
  obtain ⟨⟨t0, t1, t2, t3, t4, t5, t6, t7, t8, t9, t10⟩, tf⟩ := h1.all
  have HP := Hd.mk hP
  have HK : Hd (OKT M { s with full := false }) := ⟨hok.unfull⟩
  rw [hlen] at H2 t1
  clear hcap hP hok h1 t0 t2 t3 t5 t7 t8 t9 t10
  go_enter Tryz.func46, Tryz.ntmps46
  go_upto_region 1 with fail
  clear t1 t4 t6 tf
  obtain ⟨⟨t0, t1, t2, t3, t4, t5, t6, t7, t8, t9, t10⟩, tf⟩ := H2.out.all
  have hr0 : (0 : Int) ≤ (s.row : Int) := Int.natCast_nonneg _
  have hr1 : (s.row : Int) ≤ 60 := by omega
  generalize w.setCell ⟨T, 6, none⟩ (.bool false) = w1 at *
  clear t0 t2 t3 t5 t6 t7 t8 t9 t10
  dsimp only at t1 t4
  by_cases hlt : s.row + 1 < s.l.length
  · have q1 : decide ((s.row : Int) + 1 < (s.l.length : Int)) = true := decide_eq_true (by omega)
    have q2 : decide (s.row + 1 < s.l.length) = true := decide_eq_true hlt
    have q3 : (s.row : Int) + 1 < (s.l.length : Int) := by omega
    have hd : s.down = { s with full := false, row := s.row + 1 } := by unfold Tm.down; rw [if_pos hlt]
    have HD2 := Hd.mk hd
    clear hd
    go_quiet (fail)
    go_wp2
    go_end0
    have he := (H2.out.move (w' := w1.drewN nq) (fun _ _ _ => rfl)).row_ (s.row + 1)
    have ho := (HO.out.drewN nq).setCell (p := ⟨T, 4, none⟩) (.inl H2.out.pt) (.int .i64 ((s.row : Int) + 1))
    exact ⟨rfl, by rw [← HD.out, HD2.out]; exact he.at_, ho⟩
  · have q1 : decide ((s.row : Int) + 1 < (s.l.length : Int)) = false := decide_eq_false (by omega)
    have q2 : decide (s.row + 1 < s.l.length) = false := decide_eq_false hlt
    have q3 : ¬ ((s.row : Int) + 1 < (s.l.length : Int)) := by omega
    have hd : s.down = Tm.scroll { s with full := false } := by unfold Tm.down; rw [if_neg hlt]
    have HD2 := Hd.mk hd
    clear hd
    have XS := Hd.mk (fun n => scroll_calls (TermAt.move (w' := w1.drewN n) H2.out.at_ (fun _ _ _ => rfl)) HK.out hM (fun k hk => HP.out k (Nat.le_trans HO.out.size hk)))
    go_quiet (fail)
    go_wp2_with fail
    go_at_call 57
    with_reducible refine (XS.out nq).mono ?_
    rintro _ w2 ⟨rfl, ht, ho⟩
    have HT := Hd.mk ht
    have HO2 := Hd.mk ((HO.out.drewN nq).trans ho (fun _ _ h => h))
    clear ht ho XS
    go_wp2
    go_end0
    exact ⟨rfl, by rw [← HD.out, HD2.out]; exact HT.out, HO2.out⟩
end Go.Proofs.YtgifpkjcggnhgaaGreatDoorL

