/- Cut and Write of a file system. No conditions. -/
import Derived.Test.YtcpkoajnepijkaaFile5
namespace Go.Proofs.Ytcpkoajnepijkaa
set_option linter.unusedVariables false
set_option linter.unusedSimpArgs false
open Go.RowKit Go.Proofs.YtcpkoajnepijkaaL Go.Proofs.YtcpkoajnepijkaaW.PrintWords

def cutS (st : FS) (g : Nat) (k : Nat) : FS := { forgetS st g with sb := upd st.sb g ((allL st g).take k), sz := upd st.sz g k }
/-- As many as there are, at most. -/
def cutN (n : Int) (len : Nat) : Nat := if n < 0 then 0 else if (len : Int) < n then len else n.toNat
theorem cutN_le (n : Int) (len : Nat) : cutN n len ≤ len := by
  unfold cutN
  split
  · omega
  · split <;> omega
def cutL (st : FS) (s : ByteArray) (n : Int) : Int × FS :=
  match begunL st s true with
  | (some g, e, st') => (e, cutS st' g (cutN n (allL st' g).length))
  | (none, e, st') => (e, st')

theorem RB.take {base : Nat} {Lz : Nat → Prop} {w : World} {A : Option Addr} {n c k : Nat} {xs : List Int} (h : RB base Lz w (.slice A n c) xs) (hk : k ≤ n) : RB base Lz w (.slice A k c) (xs.take k) := by
  obtain ⟨A', c', e, hc, hC, hI⟩ := h
  injection e with e1 e2 e3
  subst e1 e2 e3
  have hl : (xs.take k).length = k := by rw [List.length_take]; omega
  exact ⟨A, c, by rw [hl], by omega, by have := Kd.C_take hC hk; exact this, fun ad e hn => hI ad e (by have := hn; simp at this; omega)⟩

theorem cut_ends {base : Nat} {Lz : Nat → Prop} {w3 : World} {F : Nat} {fp : Nat → Prop} {st : FS} {g : Nat} (h : FRep base Lz w3 F fp (forgetS st g)) (hg : g ∈ st.live) {A : Option Addr} {n2 c2 k : Nat} (hb : RB base Lz w3 (.slice A n2 c2) (allL st g)) (hk : k ≤ n2) :
    FRep base Lz ((w3.setCell ⟨g, 0, none⟩ (.slice A k c2)).setCell ⟨g, 1, none⟩ (.int .i64 k)) F fp (cutS st g k) ∧ Only (· = g) w3 ((w3.setCell ⟨g, 0, none⟩ (.slice A k c2)).setCell ⟨g, 1, none⟩ (.int .i64 k)) := by
  have hon := ((Only.refl (· = g) w3).set1 0 (.slice A k c2)).set1 1 (.int .i64 k)
  have hm : Mut base w3 (· = g) := fun j hj => by
    subst hj
    obtain ⟨M, rv, cells, hx⟩ := h
    exact hx.fpb _ (hx.fpI _ hg)
  obtain ⟨v0, hi⟩ := h.inoCell (show g ∈ (forgetS st g).live from hg)
  exact ⟨h.setIno (show g ∈ (forgetS st g).live from hg) hon ((hi.set_ 0 (.slice A k c2)).set_ 1 (.int .i64 k)) ((hb.take hk).only hon hm), hon⟩

set_option maxRecDepth 100000 in
set_option maxHeartbeats 1000000 in
theorem cut_calls {base : Nat} {Lz : Nat → Prop} {w : World} {F : Nat} {fp : Nat → Prop} {st : FS} (h : FRep base Lz w F fp st) (hf : Fine st) (hs : Sized st) (s : ByteArray) (n : Int) :
    Calls Try.prog 32 #[ptr F, .string s, .int .i64 n] w fun e w' => Left base Lz w F fp e w' (cutL st s n).1 (cutL st s n).2 := by
  have XB := begun_calls h hf s true
  have hfp := h.fpF
  rcases begunL_cases st s true h.live with ⟨st', e1⟩ | e1 | ⟨g, hg, hfd, e1⟩
  · have e2 : cutL st s n = (100, st') := by simp [cutL, e1]
    rw [e1] at XB
    rw [e2]
    have XB := Aside0.mk XB
    clear e1 e2
    go_enter Try.func32, Try.ntmps32
    go_wp2_with (go_at_call 48; (with_reducible refine (XB.out).mono ?_); rintro e w2 ⟨rfl, ho, hb⟩)
    go_ret
    exact ⟨rfl, ⟨_, ho, fun _ h => .inl h⟩, hb.mono fun _ _ e => e ▸ hfp⟩
  · have e2 : cutL st s n = (101, st) := by simp [cutL, e1]
    rw [e1] at XB
    rw [e2]
    have XB := Aside0.mk XB
    clear e1 e2
    go_enter Try.func32, Try.ntmps32
    go_wp2_with (go_at_call 48; (with_reducible refine (XB.out).mono ?_); rintro e w2 ⟨rfl, ho, hb⟩)
    go_ret
    exact ⟨rfl, ⟨_, ho, fun _ h => .inl h⟩, hb.mono fun _ _ e => e ▸ hfp⟩
  · have e2 : cutL st s n = (0, cutS (opS st) g (cutN n (allL (opS st) g).length)) := by simp [cutL, e1]
    rw [e1] at XB
    rw [e2]
    have XB := Aside0.mk (show Calls Try.prog 48 #[ptr F, .string s, .bool true] w fun e w' => e = .returned (.tuple #[ptr g, .int .i64 0]) ∧ FRep base Lz w' F fp (opS st) ∧ Only (· = F) w w' from XB)
    have hfg := h.fpI hg
    have HG := Aside0.mk (show g ∈ (opS st).live from hg)
    clear e1 e2
    go_enter Try.func32, Try.ntmps32
    go_wp2_with fail
    go_at_call 48
    with_reducible refine (XB.out).mono ?_
    rintro e w1 ⟨rfl, hr1, hb1⟩
    have XA := Aside0.mk (all_calls hr1 hs.opS HG.out)
    have HR1 := Aside0.mk hr1
    have HB1 := Aside0.mk hb1
    clear hr1 hb1
    go_wp2_with fail
    go_at_call 39
    with_reducible refine (XA.out).mono ?_
    rintro e w2 ⟨v2, rfl, ho2, hb2⟩
    have hr2 := HR1.out.below hb2
    have XF := Aside0.mk (forget_calls hr2 (by exact hs.rows) HG.out)
    have HR2 := Aside0.mk (RB.of_R (base := base) (Lz := Lz) ho2 (HR1.out.nol (Nat.le_refl _)))
    obtain ⟨A2, n2, c2, rfl, hn2⟩ := own_form ho2
    have hc2 : n2 ≤ c2 := by
      obtain ⟨A', c', e, hc, _⟩ := HR2.out
      injection e with _ e2 e3
      omega
    have HRR := Aside0.mk hr2
    have HN2 := Aside0.mk hn2
    have HB2 : Aside0 (Only fp w w2) := ⟨(HB1.out.mono (fun _ _ e => e ▸ hfp)).below hb2⟩
    clear ho2 hb2 hr2 hn2
    go_wp2_with fail
    go_at_call 49
    with_reducible refine (XF.out).mono ?_
    rintro e w3 ⟨rfl, ⟨fp', hr4, hfp4⟩, hb4⟩
    have HRB3 := Aside0.mk (HR2.out.only hb4 (fun j hj => by
      subst hj
      obtain ⟨M, rv, cells, hx⟩ := HRR.out
      exact hx.fpb _ hx.fpF))
    obtain ⟨v0, hi⟩ := hr4.inoCell (show g ∈ (forgetS (opS st) g).live from HG.out)
    have k0 := hi.cell 0 rfl
    have k1 := hi.cell 1 rfl
    have f0 := hi.frozen 0
    have f1 := hi.frozen 1
    have HR4 := Aside0.mk hr4
    have HB4 : Aside0 (Only fp w w3) := ⟨HB2.out.trans hb4 (fun k _ e => e ▸ hfp)⟩
    have HF4 : Aside0 (∀ k, fp' k → fp k ∨ w.heap.size ≤ k) := ⟨fun k hk => (hfp4 k hk).imp id (fun h => Nat.le_trans HB2.out.size h)⟩
    have fin : ∀ k, k ≤ n2 → cutN n n2 = k → Left base Lz w F fp (.returned (.int .i64 0)) ((w3.setCell ⟨g, 0, none⟩ (.slice A2 k c2)).setCell ⟨g, 1, none⟩ (.int .i64 k)) 0 (cutS (opS st) g (cutN n (allL (opS st) g).length)) := fun k hk he => by
      rw [← HN2.out, he]
      obtain ⟨r1, r2⟩ := cut_ends HR4.out HG.out HRB3.out hk
      exact ⟨rfl, ⟨fp', r1, HF4.out⟩, HB4.out.trans r2 (fun k _ e => e ▸ hfg)⟩
    have FIN := Aside0.mk fin
    clear hr4 hb4 hfp4 hi fin
    by_cases h1 : n < 0
    · go_wp2
      go_ret
      exact FIN.out 0 (by omega) (by simp [cutN, h1])
    · obtain ⟨m, rfl⟩ : ∃ m : Nat, n = m := ⟨n.toNat, by omega⟩
      by_cases h2 : n2 < m
      · go_wp2
        go_ret
        exact FIN.out n2 (by omega) (by unfold cutN; rw [if_neg (by omega), if_pos (by omega)])
      · go_wp2
        go_ret
        exact FIN.out m (by omega) (by unfold cutN; rw [if_neg (by omega), if_neg (by omega), Int.toNat_natCast])

/-- A write more: its file's length, and the row, turn. -/
theorem FRepX.wrote {base : Nat} {Lz : Nat → Prop} {w w' : World} {F : Nat} {fp : Nat → Prop} {st : FS} {M : Nat} {rv : Value} {cells : List Value} (h : FRepX base Lz w F fp st M rv cells) {g : Nat} (hg : g ∈ st.live)
    (ho : Only (fun k => k = F ∨ k = g ∨ rv.ownBlock = some k) w w') {rv' : Value} {row' : List Wr} {cells' : List Value} {n : Nat} {v0 : Value}
    (hb : Blk w' F 67 #[.map (some M), rv', .int .i64 st.ops, .int .i64 st.fuse, .int .i64 st.fault, .bool st.down]) (hi : Blk w' g 77 #[v0, .int .i64 n]) (hv0 : RB base Lz w v0 (st.sb g))
    (hr : w'.ownsRow base 80 3 rv' row'.length cells') (hri : RowIs base Lz w' row' cells') (hrl : ∀ x ∈ row', x.tgt ∈ st.live) :
    FRepX base Lz w' F (fun k => (fp k ∧ rv.ownBlock ≠ some k) ∨ rv'.ownBlock = some k) { st with row := row', sz := upd st.sz g n } M rv' cells' := by
  obtain ⟨v1, hb1, _⟩ := h.ino g hg
  have hG : Mut base w (fun k => k = F ∨ k = g ∨ rv.ownBlock = some k) := fun k hk => by
    rcases hk with rfl | rfl | hk
    · exact h.fpb _ h.fpF
    · exact h.fpb _ (h.fpI _ hg)
    · exact h.fpb _ (h.fpR _ hk)
  have hRB : ∀ v xs, RB base Lz w v xs → RB base Lz w' v xs := fun v xs hv => hv.only ho hG
  have hk : ∀ k, k < w.heap.size → k ≠ F → k ≠ g → rv.ownBlock ≠ some k → w'.heap[k]? = w.heap[k]? := fun k hk h1 h2 h3 => ho.block k hk (fun e => by
    rcases e with e | e | e
    · exact h1 e
    · exact h2 e
    · exact h3 e)
  refine ⟨hb, h.map.to (hk _ h.map.lt (h.map.ne_blk h.blk) (h.map.ne_blk hb1) (fun e => h.map.ne_own h.row _ e rfl)), hr, hri, fun k hkl => ?_, h.filesLive, hrl, .inl ⟨h.fpF, own_blk_ne h.row h.blk (by decide)⟩, .inl ⟨h.fpM, fun e => h.map.ne_own h.row _ e rfl⟩, fun k hk => .inr hk, fun k hk => .inl ⟨h.fpI k hk, ?_⟩, fun k hkk => ?_, fun k hkk => ?_, Nat.le_trans h.hbase ho.size, fun g hg => Nat.lt_of_lt_of_le (h.lz g hg) ho.size⟩
  · by_cases he : k = g
    · subst he
      exact ⟨v0, by simp only [upd_same]; exact hi, hRB _ _ hv0⟩
    · obtain ⟨v', h1, h2⟩ := h.ino k hkl
      exact ⟨v', by simp only [upd_other _ _ he]; exact h1.to (hk _ h1.lt (h1.ne_ h.blk (by decide)) he (own_blk_ne h.row h1 (by decide))), hRB _ _ h2⟩
  · obtain ⟨v', h1, _⟩ := h.ino k hk
    exact own_blk_ne h.row h1 (by decide)
  · rcases hkk with ⟨hkk, e3⟩ | hkk
    · obtain ⟨h1, h2⟩ := h.fpb k hkk
      refine ⟨h1, ?_⟩
      by_cases e1 : k = F
      · subst e1; exact T5_blk hb (by decide)
      · by_cases e2 : k = g
        · subst e2; exact T5_blk hi (by decide)
        · intro h5
          unfold T5 at h5
          rw [hk k (h.fpl k hkk) e1 e2 e3] at h5
          exact h2 h5
    · refine ⟨own_base hr k hkk, fun h5 => ?_⟩
      obtain ⟨c5, fr, h5⟩ := h5
      obtain ⟨cs', hh'⟩ := own_typed hr k hkk
      rw [hh'] at h5
      injection h5 with h5
      injection h5 with _ h5
      exact absurd h5 (by decide)
  · rcases hkk with ⟨hkk, _⟩ | hkk
    · exact Nat.lt_of_lt_of_le (h.fpl k hkk) ho.size
    · exact own_lt hr k hkk

/-- What a call tells and does that writes; g: the inode of a new file. -/
def writeL (st : FS) (s : ByteArray) (b : List Int) (new : Nat) : Int × FS :=
  if st.down = true then (100, st) else
  if namedB s = false ∨ (fnd s st.files = none ∧ 8 ≤ st.files.length) then (101, st) else
  if ((fnd s st.files).map st.sz).getD 0 + b.length > 65536 then (103, st) else
  if st.fault == 0 then (if st.fuse == 0 then 100 else 102, opS (faultS st)) else
  let st1 : FS := match fnd s st.files with | none => { st with live := new :: st.live, sb := upd st.sb new [], sz := upd st.sz new 0 } | some _ => st
  let g := (fnd s st.files).getD new
  let st2 := opS (faultS st1)
  (if st.fuse == 0 then 100 else 0, { st2 with files := put s g st2.files, row := st2.row ++ [⟨g, st1.sz g, b⟩], sz := upd st2.sz g (st1.sz g + b.length) })

/-- How many files there are. -/
theorem FRepX.lenM {base : Nat} {Lz : Nat → Prop} {w : World} {F : Nat} {fp : Nat → Prop} {st : FS} {M : Nat} {rv : Value} {cells : List Value} (h : FRepX base Lz w F fp st M rv cells) : ∀ ty, (Builtin.len_ #[64] ty #[.map (some M)]).run Try.prog w = .ok (.int .i64 st.files.length) w := by
  intro ty
  have := h.map.len Try.underlying64 ty
  rwa [List.length_map] at this

set_option maxRecDepth 100000 in
set_option maxHeartbeats 1000000 in
theorem write_early {base : Nat} {Lz : Nat → Prop} {w : World} {F : Nat} {fp : Nat → Prop} {st : FS} (h : FRep base Lz w F fp st) (s : ByteArray) (v : Value)
    (hc : st.down = true ∨ (st.down = false ∧ (namedB s = false ∨ (fnd s st.files = none ∧ 8 ≤ st.files.length)))) :
    Calls Try.prog 23 #[ptr F, .string s, v] w fun e w' => e = .returned (.int .i64 (if st.down = true then 100 else 101)) ∧ w' = w := by
  obtain ⟨M, rv, cells, h⟩ := h
  have XN := Aside0.mk (named_calls s w)
  have c0 := h.blk.cell 0 rfl
  have c5 := h.blk.cell 5 rfl
  have hl := h.look s
  have hlen := h.lenM
  clear h
  rcases hc with hd | ⟨hd, hn | ⟨hf, h8⟩⟩
  · rw [hd] at c5
    simp only [hd, if_true]
    rcases hl with ⟨_, hl⟩ | ⟨g, _, _, hl⟩
    all_goals
      clear hd
      go_enter Try.func23, Try.ntmps23
      go_wp2
      go_ret
      exact ⟨rfl, rfl⟩
  · rw [hd] at c5
    simp only [hd, Bool.false_eq_true, if_false]
    have XN' : Aside0 (Calls Try.prog 43 #[.string s] w fun e w' => e = .returned (.bool false) ∧ w' = w) := ⟨XN.out.mono fun e w' ⟨he, hw⟩ => ⟨by rw [he]; congr 2, hw⟩⟩
    rcases hl with ⟨_, hl⟩ | ⟨g, _, _, hl⟩
    all_goals
      clear hd hn
      go_enter Try.func23, Try.ntmps23
      go_wp2_with (go_at_call 43; (with_reducible refine (XN'.out).mono ?_); rintro e w2 ⟨rfl, rfl⟩)
      go_ret
      exact ⟨rfl, rfl⟩
  · rw [hd] at c5
    simp only [hd, Bool.false_eq_true, if_false]
    rcases hl with ⟨_, hl⟩ | ⟨g, hg, _, _⟩
    · cases hn : namedB s with
      | false =>
        have XN' : Aside0 (Calls Try.prog 43 #[.string s] w fun e w' => e = .returned (.bool false) ∧ w' = w) := ⟨XN.out.mono fun e w' ⟨he, hw⟩ => ⟨by rw [he]; congr 2, hw⟩⟩
        clear hd hn hf
        go_enter Try.func23, Try.ntmps23
        go_wp2_with (go_at_call 43; (with_reducible refine (XN'.out).mono ?_); rintro e w2 ⟨rfl, rfl⟩)
        go_ret
        exact ⟨rfl, rfl⟩
      | true =>
        have XN' : Aside0 (Calls Try.prog 43 #[.string s] w fun e w' => e = .returned (.bool true) ∧ w' = w) := ⟨XN.out.mono fun e w' ⟨he, hw⟩ => ⟨by rw [he]; congr 2, hw⟩⟩
        have h8' : (8 : Int) ≤ (st.files.length : Int) := by omega
        clear hd hn hf
        go_enter Try.func23, Try.ntmps23
        go_wp2_with (go_at_call 43; (with_reducible refine (XN'.out).mono ?_); rintro e w2 ⟨rfl, rfl⟩)
        go_ret
        exact ⟨rfl, rfl⟩
    · rw [hf] at hg
      cases hg

end Go.Proofs.Ytcpkoajnepijkaa
