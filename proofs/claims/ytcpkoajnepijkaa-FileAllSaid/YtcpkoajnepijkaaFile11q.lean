/- Parts of the proof of the law that the last file states; declarations that nothing mentions are left out by a program. No conditions. -/
import Derived.Test.YtcpkoajnepijkaaFile10q
import Derived.Test.YtcpkoajnepijkaaLRangeq
set_option linter.unusedVariables false
set_option linter.unusedSimpArgs false
namespace Go.Proofs.Ytcpkoajnepijkaa
open Go.RowKit Go.Proofs.YtcpkoajnepijkaaL Go.Proofs.YtcpkoajnepijkaaW.PrintWords
def keptAt (keep : List Bool) (k : Nat) : Bool := decide (0 < keep.length) && keep.getD (k % keep.length) false
def crash1 (keep : List Bool) (sb : Nat → List Int) (x : Wr × Nat) : Nat → List Int := if keptAt keep x.2 = true then upd sb x.1.tgt (laidL (sb x.1.tgt) x.1.at_ x.1.b) else sb
def crashSb (keep : List Bool) (row : List Wr) (sb : Nat → List Int) : Nat → List Int := row.zipIdx.foldl (crash1 keep) sb
theorem crashSb_snoc (keep : List Bool) (row : List Wr) (x : Wr) (sb : Nat → List Int) : crashSb keep (row ++ [x]) sb = crash1 keep (crashSb keep row sb) (x, row.length) := by
  simp [crashSb, List.zipIdx_append]
theorem crashSb_le {keep : List Bool} {sb : Nat → List Int} (hsb : ∀ g, (sb g).length ≤ 65536) {row : List Wr} (hrow : ∀ x ∈ row, x.at_ + x.b.length ≤ 65536) : ∀ g, (crashSb keep row sb g).length ≤ 65536 := by
  unfold crashSb
  have : ∀ (l : List (Wr × Nat)) (f : Nat → List Int), (∀ g, (f g).length ≤ 65536) → (∀ x ∈ l, x.1.at_ + x.1.b.length ≤ 65536) → ∀ g, (l.foldl (crash1 keep) f g).length ≤ 65536 := by
    intro l
    induction l with
    | nil => intro f hf _ g; exact hf g
    | cons x l ih =>
      intro f hf hl g
      refine ih _ (fun g => ?_) (fun y hy => hl y (List.mem_cons_of_mem _ hy)) g
      unfold crash1
      split
      · unfold upd
        split
        · rw [laidL_length]
          have := hl x List.mem_cons_self
          have := hf x.1.tgt
          split <;> omega
        · exact hf g
      · exact hf g
  refine this _ _ hsb (fun x hx => hrow _ ?_)
  have := List.mem_zipIdx hx
  rw [this.2.2]
  exact List.getElem_mem _
def crashL (st : FS) (keep : List Bool) : FS :=
  { st with sb := crashSb keep st.row st.sb, sz := fun k => if k ∈ st.files.map (·.2) then (crashSb keep st.row st.sb k).length else st.sz k, row := [], down := false, fuse := -1, fault := -1 }
section
variable {base : Nat} {Lz : Nat → Prop} {w w' : World} {F : Nat} {fp : Nat → Prop} {st : FS} {M : Nat} {rv : Value} {cells : List Value}
theorem FRepX.crashed (h : FRepX base Lz w F fp st M rv cells) (ho : Only (· = F) w w')
    (hb : Blk w' F 67 #[.map (some M), .slice none 0 0, .int .i64 st.ops, .int .i64 (-1), .int .i64 (-1), .bool false]) :
    FRepX base Lz w' F fp { st with row := [], down := false, fuse := -1, fault := -1 } M (.slice none 0 0) [] := by
  have hG : Mut base w (· = F) := fun g hg => hg ▸ h.fpb F h.fpF
  have hRB : ∀ v xs, RB base Lz w v xs → RB base Lz w' v xs := fun v xs hv => hv.only ho hG
  have hk : ∀ g, g < w.heap.size → g ≠ F → w'.heap[g]? = w.heap[g]? := fun g hg hne => ho.block g hg hne
  refine ⟨hb, h.map.to (hk _ h.map.lt (h.map.ne_blk h.blk)), own_nil _ _ _ _, trivial, fun g hg => ?_, h.filesLive, (fun x hx => by cases hx), h.fpF, h.fpM, (fun k hk => by simp [Value.ownBlock] at hk), h.fpI, fpb_keep h ho (fun k hk _ => hk ▸ T5_blk hb (by decide)), fun g hg => Nat.lt_of_lt_of_le (h.fpl g hg) ho.size, Nat.le_trans h.hbase ho.size, fun g hg => Nat.lt_of_lt_of_le (h.lz g hg) ho.size⟩
  obtain ⟨v, h1, h2⟩ := h.ino g hg
  exact ⟨v, h1.to (hk _ h1.lt (h1.ne_ h.blk (by decide))), hRB _ _ h2⟩
end
theorem mem_or_erase {α : Type} {x : α} : ∀ {l : List α} {j : Nat} (hj : j < l.length), x ∈ l → x = l[j] ∨ x ∈ l.eraseIdx j
  | [], j, hj, _ => by simp at hj
  | y :: l, 0, _, h => by
    rcases List.mem_cons.1 h with h | h
    · exact .inl h
    · exact .inr h
  | y :: l, j + 1, hj, h => by
    rcases List.mem_cons.1 h with h | h
    · exact .inr (by rw [h]; exact List.mem_cons_self)
    · rcases mem_or_erase (by simpa using hj) h with h | h
      · exact .inl h
      · exact .inr (List.mem_cons_of_mem _ h)
theorem upd_self {α : Type} (f : Nat → α) (g : Nat) : upd f g (f g) = f := by
  funext k
  unfold upd
  split <;> simp_all
set_option maxRecDepth 100000 in
set_option maxHeartbeats 4000000 in
theorem crash_calls {base : Nat} {Lz : Nat → Prop} {w : World} {F : Nat} {fp : Nat → Prop} {st : FS} (h : FRep base Lz w F fp st) (hs : Sized st) (hsb : ∀ g, (st.sb g).length ≤ 65536) {Gk ok ck : Nat} {Ak : Option Addr} {keep : List Bool} (hAk : 0 < keep.length → Ak = some ⟨Gk, ok, none⟩)
    (hkeep : ∀ i (hi : i < keep.length), w.cell? ⟨Gk, ok + i, none⟩ = some (.bool keep[i])) (hkfp : 0 < keep.length → ¬ fp Gk) (hkl : keep.length ≤ 1000000) :
    Calls Try.prog 20 #[ptr F, .slice Ak keep.length ck] w fun e w' => e = .returned (.tuple #[]) ∧ FRep base Lz w' F fp (crashL st keep) ∧ Only fp w w' := by
  obtain ⟨M, rv, cells, h⟩ := h
  obtain ⟨A, c, hrv, hc⟩ := own_slice h.row
  subst hrv
  have c1 := h.blk.cell 1 rfl
  have H := Zz.mk h
  have hrows := hs.rows
  have HS := Zz.mk hs
  have HSB := Zz.mk hsb
  have HK := Zz.mk hkeep
  have HA := Zz.mk hAk
  have HKF := Zz.mk hkfp
  clear h hs hsb hkeep hAk hkfp
  go_enter Try.func20, Try.ntmps20
  go_wp2_with fail
  go_loopg [13] st.row.length (fun kq v13 w' => ∃ i : Nat, i + kq = st.row.length ∧ v13 = .int .i64 i ∧ Zz (FRepX base Lz w' F fp { st with sb := crashSb keep (st.row.take i) st.sb } M (.slice A st.row.length c) cells) ∧ Zz (Only fp w w'))
  case atStart => exact ⟨0, by omega, rfl, H, ⟨Only.refl _ _⟩⟩
  case round =>
    obtain ⟨i, hi, rfl, HR, HO⟩ := hrel
    cases gk with
    | zero =>
      have e1 : decide (i < st.row.length) = false := decide_eq_false (by omega)
      have HI := Zz.mk hi
      clear hi
      have m0 : wr.cell? ⟨F, 0, none⟩ = some (.map (some M)) := HR.out.blk.cell 0 rfl
      go_wp2_with (first | (refine wpList_range_str HR.out.map rfl _ rfl Try.underlying64 rfl ?_; intro o2 hit2; have HIT2 := Zz.mk hit2; clear hit2))
      have HR0 : Zz (FRepX base Lz (wr.alloc o2) F fp { st with sb := crashSb keep st.row st.sb } M (.slice A st.row.length c) cells) := ⟨by
        have := HR.out.only (Only.of_below (F := fun _ => False) (below_alloc (Below.refl wr.heap.size wr) o2)) (fun _ h => h.elim) (fun _ h => h.elim)
        rw [List.take_of_length_le (by have := HI.out; omega)] at this
        exact this⟩
      have HO0 : Zz (Only fp w (wr.alloc o2)) := ⟨HO.out.alloc _⟩
      have HNF : Zz (¬ fp wr.heap.size) := ⟨fun e => by have := HR.out.fpl _ e; omega⟩
      have HBW : Zz (base ≤ wr.heap.size ∧ w.heap.size ≤ wr.heap.size) := ⟨HR.out.hbase, HO.out.size⟩
      clear HR HO
      generalize wr.heap.size = r0 at HIT2 HNF HBW ⊢
      go_loopg [7] st.files.length (fun kq v7 w' => ∃ (lf : List (ByteArray × Nat)) (sz' : Nat → Nat), lf.length = kq ∧ Zz (Iter w' r0 M (st.files.map fun p => (p.1, ptr p.2)) (lf.map fun p => (p.1, ptr p.2))) ∧ Zz (∀ p ∈ lf, p ∈ st.files) ∧
        Zz (FRepX base Lz w' F fp { st with sb := crashSb keep st.row st.sb, sz := sz' } M (.slice A st.row.length c) cells) ∧ Zz (Only fp w w') ∧ Zz ((∀ p ∈ st.files, p ∈ lf ∨ sz' p.2 = (crashSb keep st.row st.sb p.2).length) ∧ ∀ k, k ∉ st.files.map (·.2) → sz' k = st.sz k))
      case atStart => exact ⟨st.files, st.sz, rfl, HIT2, ⟨fun p h => h⟩, HR0, HO0, ⟨fun p hp => .inl hp, fun _ _ => rfl⟩⟩
      case round =>
        obtain ⟨lf, sz', hlen, HIT, HSUB, HR2, HO2, HINV⟩ := hrel
        have HLEN := Zz.mk hlen
        clear hlen
        go_wp2_with (first | (refine wpList_next_str HIT.out rfl _ rfl rfl ?_ ?_))
        · intro h0
          have h0' : lf = [] := by simpa using h0
          subst h0'
          have q1 := HR2.out.blk.cell 1 (v := .slice A st.row.length c) rfl
          have q3 := HR2.out.blk.cell 3 (v := .int .i64 st.fuse) rfl
          have q4 := HR2.out.blk.cell 4 (v := .int .i64 st.fault) rfl
          have q5 := HR2.out.blk.cell 5 (v := .bool st.down) rfl
          have f1 := HR2.out.blk.frozen 1
          have f3 := HR2.out.blk.frozen 3
          have f4 := HR2.out.blk.frozen 4
          have f5 := HR2.out.blk.frozen 5
          go_wp2
          go_end0
          have hset := (((Only.refl (· = F) wr).set1 1 (.slice none 0 0)).set1 5 (.bool false)).set1 3 (.int .i64 (-1)) |>.set1 4 (.int .i64 (-1))
          have hx := HR2.out.crashed hset ((((HR2.out.blk.set_ 1 _).set_ 5 _).set_ 3 _).set_ 4 _)
          refine ⟨rfl, ⟨M, .slice none 0 0, [], ?_⟩, HO2.out.trans hset (fun k _ e => e ▸ HR2.out.fpF)⟩
          have hsz : sz' = fun k => if k ∈ st.files.map (·.2) then (crashSb keep st.row st.sb k).length else st.sz k := by
            funext k
            obtain ⟨g1, g2⟩ := HINV.out
            split
            · rename_i hk
              obtain ⟨p, hp, rfl⟩ := List.mem_map.1 hk
              rcases g1 p hp with h | h
              · cases h
              · exact h
            · rename_i hk
              exact g2 k hk
          rw [hsz] at hx
          exact hx
        · intro j hj w2 hit2 ho2 hs2 hen
          have hjl : j < lf.length := by
            first
            | exact hj
            | (rw [List.length_map] at hj; exact hj)
          try simp only [List.getElem_map] at hen
          try simp only [List.getElem_map]
          rw [← map_eraseIdx] at hit2
          cases gk with
          | zero => have := HLEN.out; omega
          | succ d =>
            have hmem := HSUB.out _ (List.getElem_mem hjl)
            have hlv := HR2.out.filesLive _ hmem
            generalize hpj : lf[j] = p at hmem hlv hen ⊢
            obtain ⟨nm, g⟩ := p
            have HPJ := Zz.mk hpj
            clear hpj
            have hr2 := HR2.out.only ho2 (fun k hk => ⟨hk ▸ HBW.out.1, hk ▸ HIT.out.not_T5⟩) (fun k hk => hk ▸ HNF.out)
            obtain ⟨v0, hi2, hrb2⟩ := hr2.ino g hlv
            obtain ⟨Ag, cg, rfl⟩ : ∃ Ag cg, v0 = .slice Ag (crashSb keep st.row st.sb g).length cg := by obtain ⟨Ag, cg, e, _⟩ := hrb2; exact ⟨Ag, cg, e⟩
            have q0 := hi2.cell 0 rfl
            have q1 := hi2.cell 1 rfl
            have f1 := hi2.frozen 1
            have HR2' := Zz.mk hr2
            have HI2 := Zz.mk hi2
            have HRB2 := Zz.mk hrb2
            have HIT3 := Zz.mk hit2
            have HON : Zz (Only fp w w2) := ⟨HO2.out.trans ho2 (fun k hk e => by have := HBW.out.2; omega)⟩
            clear hr2 hi2 hrb2 hit2 ho2
            go_wp2
            go_roundg d
            case measure => omega
            case rel =>
              have hset : Only (· = g) w2 (w2.setCell ⟨g, 1, none⟩ (.int .i64 (crashSb keep st.row st.sb g).length)) := (Only.refl _ w2).set1 1 _
              have hx := HR2'.out.setIno hlv hset (HI2.out.set_ 1 _) (HRB2.out.only hset (fun k hk => hk ▸ HR2'.out.fpb g (HR2'.out.fpI g hlv)))
              rw [upd_self] at hx
              refine ⟨lf.eraseIdx j, _, by rw [List.length_eraseIdx, if_pos hjl, HLEN.out]; rfl, ⟨HIT3.out.to (Below.heap_setCell _ _ _ _ (fun e => HIT3.out.ne_blk HI2.out e)) (Below.heap_setCell _ _ _ _ (fun e => HIT3.out.map.ne_blk HI2.out e))⟩, ⟨fun p hp => HSUB.out p (List.mem_of_mem_eraseIdx hp)⟩, ⟨hx⟩, ⟨HON.out.trans hset (fun k _ e => e ▸ HR2'.out.fpI g hlv)⟩, ⟨fun p hp => ?_, fun k hk => ?_⟩⟩
              · obtain ⟨g1, g2⟩ := HINV.out
                by_cases hpg : p.2 = g
                · right
                  rw [hpg, upd_same]
                · rcases g1 p hp with h | h
                  · left
                    rcases mem_or_erase hjl h with h | h
                    · exact absurd (by rw [h, HPJ.out]) hpg
                    · exact h
                  · right
                    rw [upd_other _ _ hpg]
                    exact h
              · obtain ⟨g1, g2⟩ := HINV.out
                rw [upd_other _ _ (fun e : k = g => hk (by rw [e]; exact List.mem_map.2 ⟨(nm, g), hmem, rfl⟩))]
                exact g2 k hk
    | succ d =>
      have hlt : i < st.row.length := by omega
      have e1 : decide (i < st.row.length) = true := decide_eq_true hlt
      obtain ⟨R, vb, rfl, r0, r1, r2, hvb⟩ := HR.out.rowCell (Below.refl _ _) rfl hlt
      obtain ⟨Ab, cb, rfl⟩ : ∃ Ab cb, vb = .slice Ab st.row[i].b.length cb := by obtain ⟨Ab, cb, e, _⟩ := hvb; exact ⟨Ab, cb, e⟩
      have HVB := Zz.mk hvb
      have HI := Zz.mk hi
      clear hvb hi
      have hcr := crashSb_snoc keep (st.row.take i) st.row[i] st.sb
      rw [← List.take_succ_eq_append_getElem hlt, show (st.row.take i).length = i from by rw [List.length_take]; omega] at hcr
      have HCR := Zz.mk hcr
      clear hcr
      by_cases hkl0 : keep.length = 0
      · have hk0 : ¬ (0 : Int) < (keep.length : Int) := by omega
        have HK0 := Zz.mk hkl0
        clear hkl0
        go_wp2
        go_roundg d
        case measure => omega
        case rel =>
          refine ⟨i + 1, by have := HI.out; omega, by go_num, ⟨?_⟩, ⟨HO.out.alloc _⟩⟩
          rw [HCR.out, crash1, if_neg (by simp [keptAt, HK0.out])]
          exact HR.out.only (Only.of_below (F := fun _ => False) (below_alloc (Below.refl _ _) _)) (fun _ h => h.elim) (fun _ h => h.elim)
      · have hkp : 0 < keep.length := by omega
        have hml := Nat.mod_lt i hkp
        have hAk := HA.out hkp
        subst hAk
        have hGw := World.block_lt_of_cell? w _ (HK.out _ hml)
        have kc0 : wr.cell? ⟨Gk, ok + i % keep.length, none⟩ = some (.bool keep[i % keep.length]) := (World.cell?_of_block (HO.out.block Gk hGw (HKF.out hkp))).trans (HK.out _ hml)
        have hkz : (0 : Int) < (keep.length : Int) := by omega
        have hmod : ((i : Int).tmod (keep.length : Int)) = ((i % keep.length : Nat) : Int) := rfl
        obtain ⟨m, hm⟩ : ∃ m, m = i % keep.length := ⟨_, rfl⟩
        rw [← hm] at hmod
        have hml' : m < keep.length := by omega
        have kc : wr.cell? ⟨Gk, ok + m, none⟩ = some (.bool keep[m]) := by
          have e : keep[m] = keep[i % keep.length] := by simp [hm]
          rw [e, hm]; exact kc0
        have HM := Zz.mk hm
        clear hm kc0
        have hmi : (m : Int) < (keep.length : Int) := by omega
        have kca : ∀ o, (wr.alloc o).cell? ⟨Gk, ok + m, none⟩ = some (.bool keep[m]) := fun o => by
          rw [World.cell?_alloc_some _ _ _ (by rw [kc]; rfl)]; exact kc
        cases hb : keep[m] with
        | false =>
          rw [hb] at kc kca
          go_wp2
          go_roundg d
          case measure => omega
          case rel =>
            refine ⟨i + 1, by have := HI.out; omega, by go_num, ⟨?_⟩, ⟨HO.out.alloc _⟩⟩
            have hk0 : keptAt keep i = false := by
              unfold keptAt
              rw [← HM.out, List.getD_eq_getElem?_getD, List.getElem?_eq_getElem hml', hb]
              simp
            rw [HCR.out, crash1, if_neg (by simp [hk0])]
            exact HR.out.only (Only.of_below (F := fun _ => False) (below_alloc (Below.refl _ _) _)) (fun _ h => h.elim) (fun _ h => h.elim)
        | true =>
          rw [hb] at kc kca
          have hlive := HR.out.rowLive _ (List.getElem_mem hlt)
          obtain ⟨t, ht⟩ : ∃ t, t = st.row[i].tgt := ⟨_, rfl⟩
          rw [← ht] at r0 hlive
          obtain ⟨vt, hit, hrt⟩ := HR.out.ino t hlive
          obtain ⟨At, ct, rfl⟩ : ∃ At ct, vt = .slice At (crashSb keep (st.row.take i) st.sb t).length ct := by obtain ⟨At, ct, e, _⟩ := hrt; exact ⟨At, ct, e⟩
          have hl1 : (crashSb keep (st.row.take i) st.sb t).length ≤ 65536 := crashSb_le HSB.out (fun y hy => HS.out.row y (List.mem_of_mem_take hy)) t
          have hl2 := HS.out.row _ (List.getElem_mem hlt)
          have XC := Zz.mk (fun o => laid_calls (base := base) (Lz := Lz) (b := crashSb keep (st.row.take i) st.sb t) (c := st.row[i].b) ((hrt.below (below_alloc (Below.refl wr.heap.size wr) o)).below (below_drew (Below.refl _ _))) ((HVB.out.below (below_alloc (Below.refl wr.heap.size wr) o)).below (below_drew (Below.refl _ _))) (k := st.row[i].at_) (by omega) (by omega) (by omega))
          have hio := fun o => hit.to ((below_alloc (Below.refl wr.heap.size wr) o).block t hit.lt)
          have htl := hit.lt
          have HIT := Zz.mk hit
          have HIO := Zz.mk hio
          have HT := Zz.mk ht
          have HRT := Zz.mk hrt
          have hbn : Blk (wr.alloc (.cells #[ptr t, .int .i64 st.row[i].at_, .slice Ab st.row[i].b.length cb] 80)) wr.heap.size 80 _ := Blk.new wr 80 #[ptr t, .int .i64 st.row[i].at_, .slice Ab st.row[i].b.length cb]
          have y0 := hbn.cell 0 (v := ptr t) rfl
          have y1 := hbn.cell 1 (v := .int .i64 st.row[i].at_) rfl
          have y2 := hbn.cell 2 (v := .slice Ab st.row[i].b.length cb) rfl
          have z0 := (hio (.cells #[ptr t, .int .i64 st.row[i].at_, .slice Ab st.row[i].b.length cb] 80)).cell 0 (v := .slice At (crashSb keep (st.row.take i) st.sb t).length ct) rfl
          have HBN := Zz.mk hbn
          have hwl : ∀ o, wr.heap.size < (wr.alloc o).heap.size := fun o => by simp
          clear hl1 hl2 hit hio ht hrt hbn
          go_wp2_with fail
          refine wp_region_held_drew (S := fun w' => w'.cell? ⟨wr.heap.size, 0, none⟩ = some (ptr t) ∧ w'.cell? ⟨wr.heap.size, 1, none⟩ = some (.int .i64 st.row[i].at_) ∧ w'.cell? ⟨wr.heap.size, 2, none⟩ = some (.slice Ab st.row[i].b.length cb)) (by kernel_rfl) ?_ (fun hHeld => ?_)
          · first
              | (refine ⟨?_, ?_, ?_⟩ <;> assumption)
              | (dsimp only; go_keep)
          refine wpAnyH_take (i := 0) (v := ?v0) rfl (by kernel_rfl) (by kernel_rfl) (by kernel_rfl) (fun _ _ _ h => h) (Or.inl ⟨by rfl, ?hy0⟩) (by assumption) ?rest0
          case hy0 => (intro w hSw; (try dsimp only at hSw); go_simp; try (with_reducible rfl))
          case rest0 =>
          try simp only [Act.put, List.setIfInBounds_toArray, List.set_cons_zero, List.set_cons_succ]
          refine wpAnyH_take (i := 1) (v := ?v1) rfl (by kernel_rfl) (by kernel_rfl) (by kernel_rfl) (fun _ _ _ h => h) (Or.inl ⟨by rfl, ?hy1⟩) (by assumption) ?rest1
          case hy1 => (intro w hSw; (try dsimp only at hSw); go_simp; try (with_reducible rfl))
          case rest1 =>
          try simp only [Act.put, List.setIfInBounds_toArray, List.set_cons_zero, List.set_cons_succ]
          refine wpAnyH_take (i := 2) (v := ?v2) rfl (by kernel_rfl) (by kernel_rfl) (by kernel_rfl) (fun _ _ _ h => h) (Or.inl ⟨by rfl, ?hy2⟩) (by assumption) ?rest2
          case hy2 => (intro w hSw; (try dsimp only at hSw); go_simp; try (with_reducible rfl))
          case rest2 =>
          try simp only [Act.put, List.setIfInBounds_toArray, List.set_cons_zero, List.set_cons_succ]
          refine wpAnyH_take (i := 3) (v := ?v3) rfl (by kernel_rfl) (by kernel_rfl) (by kernel_rfl) (fun _ _ _ h => h) (Or.inl ⟨by rfl, ?hy3⟩) (by assumption) ?rest3
          case hy3 => (intro w hSw; (try dsimp only at hSw); go_simp; try (with_reducible rfl))
          case rest3 =>
          try simp only [Act.put, List.setIfInBounds_toArray, List.set_cons_zero, List.set_cons_succ]
          refine wpAnyH_take (i := 4) (v := ?v4) rfl (by kernel_rfl) (by kernel_rfl) (by kernel_rfl) (fun _ _ _ h => h) (Or.inl ⟨by rfl, ?hy4⟩) (by assumption) ?rest4
          case hy4 => (intro w hSw; (try dsimp only at hSw); go_simp; try (with_reducible rfl))
          case rest4 =>
          try simp only [Act.put, List.setIfInBounds_toArray, List.set_cons_zero, List.set_cons_succ]
          refine wpAnyH_take (i := 5) (v := ?v5) rfl (by kernel_rfl) (by kernel_rfl) (by kernel_rfl) (fun _ _ _ h => h) (Or.inl ⟨by rfl, ?hy5⟩) (by assumption) ?rest5
          case hy5 => (intro w hSw; (try dsimp only at hSw); go_simp; try (with_reducible rfl))
          case rest5 =>
          try simp only [Act.put, List.setIfInBounds_toArray, List.set_cons_zero, List.set_cons_succ]
          refine wpAnyH_take (i := 7) (v := ?v7) rfl (by kernel_rfl) (by kernel_rfl) (by kernel_rfl) (fun _ _ _ h => h) (Or.inl ⟨by rfl, ?hy7⟩) (by assumption) ?rest7
          case hy7 => (intro w hSw; (try dsimp only at hSw); go_simp; try (with_reducible rfl))
          case rest7 =>
          try simp only [Act.put, List.setIfInBounds_toArray, List.set_cons_zero, List.set_cons_succ]
          refine wpAnyH_take (i := 8) (v := ?v8) rfl (by kernel_rfl) (by kernel_rfl) (by kernel_rfl) (fun _ _ _ h => h) (Or.inl ⟨by rfl, ?hy8⟩) (by assumption) ?rest8
          case hy8 => (intro w hSw; (try dsimp only at hSw); go_simp; try (with_reducible rfl))
          case rest8 =>
          try simp only [Act.put, List.setIfInBounds_toArray, List.set_cons_zero, List.set_cons_succ]
          refine wpAnyH_take (i := 9) (v := ?v9) rfl (by kernel_rfl) (by kernel_rfl) (by kernel_rfl) (fun _ _ _ h => h) (Or.inl ⟨by rfl, ?hy9⟩) (by assumption) ?rest9
          case hy9 => (intro w hSw; (try dsimp only at hSw); go_simp; try (with_reducible rfl))
          case rest9 =>
          try simp only [Act.put, List.setIfInBounds_toArray, List.set_cons_zero, List.set_cons_succ]
          refine wpAnyH_take (i := 10) (v := ?v10) rfl (by kernel_rfl) (by kernel_rfl) (by kernel_rfl) (fun _ _ _ h => h) (Or.inl ⟨by rfl, ?hy10⟩) (by assumption) ?rest10
          case hy10 => (intro w hSw; (try dsimp only at hSw); go_simp; try (with_reducible rfl))
          case rest10 =>
          try simp only [Act.put, List.setIfInBounds_toArray, List.set_cons_zero, List.set_cons_succ]
          refine wpAnyH_ready (rs := [6]) (by kernel_rfl) (by simp) ?_
          refine AllReadyH.cons rfl (fun K hK => ?_) AllReadyH.nil
          go_simp
          refine hK.out _ _ (by assumption) (fun hHeld1 => ?_)
          clear hK K
          try simp only [Act.put, List.setIfInBounds_toArray, List.set_cons_zero, List.set_cons_succ]
          refine wpAnyH_ready (rs := [11]) (by kernel_rfl) (by simp) ?_
          refine AllReadyH.cons rfl (fun K hK => ?_) AllReadyH.nil
          go_simp
          go_at_call 42
          refine (XC.out _).mono ?_
          rintro e w2 ⟨v2, rfl, ho, hbl⟩
          obtain ⟨A2, n2, c2, rfl, hn2⟩ := own_form ho
          have y0' := (hbl.cell (p := ⟨wr.heap.size, 0, none⟩) (hwl _)).trans y0
          have y1' := (hbl.cell (p := ⟨wr.heap.size, 1, none⟩) (hwl _)).trans y1
          have y2' := (hbl.cell (p := ⟨wr.heap.size, 2, none⟩) (hwl _)).trans y2
          have HT2 := Zz.mk ((HIO.out (.cells #[ptr t, .int .i64 st.row[i].at_, .slice Ab st.row[i].b.length cb] 80)).to (hbl.block t (Nat.lt_trans htl (hwl _))))
          have t1 := HT2.out.cell 0 (v := .slice At (crashSb keep (st.row.take i) st.sb t).length ct) rfl
          have tf := HT2.out.frozen 0
          have HO2 := Zz.mk ho
          have HB2 := Zz.mk hbl
          clear ho hbl hn2
          go_simp
          refine hK.out _ _ ⟨y0', y1', y2'⟩ (fun hHeld2 => ?_)
          clear hK K
          try simp only [Act.put, List.setIfInBounds_toArray, List.set_cons_zero, List.set_cons_succ]
          refine wpAnyH_take (i := 12) (v := ?v12) rfl (by kernel_rfl) (by kernel_rfl) (by kernel_rfl) (fun _ _ _ h => h) (Or.inl ⟨by rfl, ?hy12⟩) (by assumption) ?rest12
          case hy12 => (intro w hSw; (try dsimp only at hSw); go_simp; try (with_reducible rfl))
          case rest12 =>
          try simp only [Act.put, List.setIfInBounds_toArray, List.set_cons_zero, List.set_cons_succ]
          refine wpAnyH_take (i := 13) (v := ?v13) rfl (by kernel_rfl) (by kernel_rfl) (by kernel_rfl) (fun _ _ _ h => h) (Or.inl ⟨by rfl, ?hy13⟩) (by assumption) ?rest13
          case hy13 => (intro w hSw; (try dsimp only at hSw); go_simp; try (with_reducible rfl))
          case rest13 =>
          try simp only [Act.put, List.setIfInBounds_toArray, List.set_cons_zero, List.set_cons_succ]
          refine wpAnyH_ready (rs := [14]) (by kernel_rfl) (by simp) ?_
          refine AllReadyH.cons rfl (fun K hK => ?_) AllReadyH.nil
          go_simp
          refine hK.out _ _ ?hS3 (fun hHeld3 => ?_)
          case hS3 => (refine ⟨?_, ?_, ?_⟩ <;> (rw [World.cell?_setCell_far _ _ _ _ (Nat.ne_of_lt htl)]; assumption))
          clear hK K
          refine wpAnyH_done (by kernel_rfl) ?_ _
          go_wp2
          go_roundg d
          case measure => omega
          case rel =>
            have hk1 : keptAt keep i = true := by
              unfold keptAt
              rw [← HM.out, List.getD_eq_getElem?_getD, List.getElem?_eq_getElem hml', hb]
              simp [hkp]
            have hbw : Below wr.heap.size wr w2 := (below_alloc (Below.refl wr.heap.size wr) (.cells #[ptr t, .int .i64 st.row[i].at_, .slice Ab st.row[i].b.length cb] 80)).trans (Below.mono ⟨HB2.out.os, HB2.out.tape, HB2.out.output, HB2.out.size, HB2.out.block⟩ (Nat.le_of_lt (hwl _)))
            have hr2 := HR.out.only (Only.of_below (F := fun _ => False) hbw) (fun _ h => h.elim) (fun _ h => h.elim)
            have hset : Only (· = t) w2 (w2.setCell ⟨t, 0, none⟩ (.slice A2 n2 c2)) := (Only.refl _ w2).set1 0 _
            have hx := hr2.setIno hlive hset (HT2.out.set_ 0 (.slice A2 n2 c2)) ((RB.of_R (base := base) (Lz := Lz) HO2.out (fun k hk hz => by have := HR.out.lz k hz; have := hwl (.cells #[ptr t, .int .i64 st.row[i].at_, .slice Ab st.row[i].b.length cb] 80); simp at hk; omega)).only hset (fun k hk => hk ▸ hr2.fpb t (hr2.fpI t hlive)))
            rw [upd_self] at hx
            refine ⟨i + 1, by have := HI.out; omega, by go_num, ⟨?_⟩, ⟨(HO.out.trans (Only.of_below (F := fp) hbw) (fun _ _ h => h)).trans hset (fun k _ e => e ▸ hr2.fpI t hlive)⟩⟩
            rw [HCR.out, crash1, if_pos hk1]
            simp only
            rw [← HT.out]
            exact hx
end Go.Proofs.Ytcpkoajnepijkaa

