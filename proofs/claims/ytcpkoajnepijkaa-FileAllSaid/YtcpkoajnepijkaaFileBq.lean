/- Parts of the proof of the law that the last file states; declarations that nothing mentions are left out by a program. No conditions. -/
import Derived.Deep.RegionHeld3
import Derived.Deep.AppendLies
import Derived.Deep.RegionLaw
import Derived.Test.YtcpkoajnepijkaaFile4q
set_option linter.unusedVariables false
set_option linter.unusedSimpArgs false
namespace Go.Proofs.Ytcpkoajnepijkaa
open Go.RowKit Go.Proofs.YtcpkoajnepijkaaL Go.Proofs.YtcpkoajnepijkaaW.PrintWords
def upd {α : Type} (f : Nat → α) (g : Nat) (x : α) : Nat → α := fun k => if k = g then x else f k
theorem upd_same {α : Type} (f : Nat → α) (g : Nat) (x : α) : upd f g x g = x := by simp [upd]
theorem upd_other {α : Type} (f : Nat → α) {g k : Nat} (x : α) (h : k ≠ g) : upd f g x k = f k := by simp [upd, h]
section
variable {base : Nat} {Lz : Nat → Prop} {w w' : World} {F : Nat} {fp : Nat → Prop} {st : FS} {M : Nat} {rv : Value} {cells : List Value}
theorem T5_blk {g t : Nat} {cs : Array Value} (hb : Blk w g t cs) (ht : t ≠ 5) : ¬ T5 w g := by
  rintro ⟨c5, fr, h5⟩
  rw [hb] at h5
  injection h5 with h5
  injection h5 with _ h5
  exact ht h5
theorem T5_map {g : Nat} {l : List (ByteArray × Value)} (hb : MapStr w g l) : ¬ T5 w g := by
  rintro ⟨c5, fr, h5⟩
  obtain ⟨es, clock, hM, _⟩ := hb
  rw [hM] at h5
  cases h5
theorem fpb_keep (h : FRepX base Lz w F fp st M rv cells) {G : Nat → Prop} (ho : Only G w w') (hn : ∀ g, G g → fp g → ¬ T5 w' g) : Mut base w' fp := by
  intro g hg
  obtain ⟨h1, h2⟩ := h.fpb g hg
  refine ⟨h1, ?_⟩
  by_cases hG : G g
  · exact hn g hG hg
  · intro h5
    unfold T5 at h5
    rw [ho.block g (h.fpl g hg) hG] at h5
    exact h2 h5
theorem FRepX.setIno (h : FRepX base Lz w F fp st M rv cells) {g : Nat} (hg : g ∈ st.live) (ho : Only (· = g) w w') {v : Value} {n : Nat} {b : List Int}
    (hb : Blk w' g 77 #[v, .int .i64 n]) (hv : RB base Lz w' v b) : FRepX base Lz w' F fp { st with sb := upd st.sb g b, sz := upd st.sz g n } M rv cells := by
  obtain ⟨v0, hb0, _⟩ := h.ino g hg
  have hG : Mut base w (· = g) := fun k hk => hk ▸ h.fpb g (h.fpI g hg)
  have hRB : ∀ v xs, RB base Lz w v xs → RB base Lz w' v xs := fun v xs hv => hv.only ho hG
  have hk : ∀ k, k < w.heap.size → k ≠ g → w'.heap[k]? = w.heap[k]? := fun k hk hne => ho.block k hk hne
  refine ⟨h.blk.to (hk _ h.blk.lt (h.blk.ne_ hb0 (by decide))), h.map.to (hk _ h.map.lt (h.map.ne_blk hb0)), row_only h.row ho (fun k hk' e => own_blk_ne h.row hb0 (by decide) (by rw [hk', e])), h.rowIs.imp hRB, fun k hkl => ?_, h.filesLive, h.rowLive, h.fpF, h.fpM, h.fpR, h.fpI, fpb_keep h ho (fun k hk _ => hk ▸ T5_blk hb (by decide)), fun k hk => Nat.lt_of_lt_of_le (h.fpl k hk) ho.size, Nat.le_trans h.hbase ho.size, fun g hg => Nat.lt_of_lt_of_le (h.lz g hg) ho.size⟩
  by_cases he : k = g
  · subst he
    exact ⟨v, by simp only [upd_same]; exact hb, by simp only [upd_same]; exact hv⟩
  · obtain ⟨v', h1, h2⟩ := h.ino k hkl
    exact ⟨v', by simp only [upd_other _ _ he]; exact h1.to (hk _ h1.lt he), by simp only [upd_other _ _ he]; exact hRB _ _ h2⟩
theorem FRepX.setMap (h : FRepX base Lz w F fp st M rv cells) (ho : Only (· = M) w w') {files : List (ByteArray × Nat)} (hm : MapStr w' M (files.map fun p => (p.1, ptr p.2))) (hl : ∀ p ∈ files, p.2 ∈ st.live) :
    FRepX base Lz w' F fp { st with files } M rv cells := by
  have hG : Mut base w (· = M) := fun k hk => hk ▸ h.fpb M h.fpM
  have hRB : ∀ v xs, RB base Lz w v xs → RB base Lz w' v xs := fun v xs hv => hv.only ho hG
  have hk : ∀ k, k < w.heap.size → k ≠ M → w'.heap[k]? = w.heap[k]? := fun k hk hne => ho.block k hk hne
  refine ⟨h.blk.to (hk _ h.blk.lt (fun e => h.map.ne_blk h.blk e.symm)), hm, row_only h.row ho (fun k hk' e => h.map.ne_own h.row k hk' e), h.rowIs.imp hRB, fun k hkl => ?_, hl, h.rowLive, h.fpF, h.fpM, h.fpR, h.fpI, fpb_keep h ho (fun k hk _ => hk ▸ T5_map hm), fun k hk => Nat.lt_of_lt_of_le (h.fpl k hk) ho.size, Nat.le_trans h.hbase ho.size, fun g hg => Nat.lt_of_lt_of_le (h.lz g hg) ho.size⟩
  obtain ⟨v', h1, h2⟩ := h.ino k hkl
  exact ⟨v', h1.to (hk _ h1.lt (fun e => h.map.ne_blk h1 e.symm)), hRB _ _ h2⟩
theorem FRepX.addIno (h : FRepX base Lz w F fp st M rv cells) :
    FRepX base Lz (w.alloc (.cells #[.slice none 0 0, .int .i64 0] 77)) F (fun k => fp k ∨ k = w.heap.size) { st with live := w.heap.size :: st.live, sb := upd st.sb w.heap.size [], sz := upd st.sz w.heap.size 0 } M rv cells := by
  have hb : Below w.heap.size w (w.alloc (.cells #[.slice none 0 0, .int .i64 0] 77)) := (Below.refl _ _).alloc (Nat.le_refl _) _
  have h' := h.only (Only.of_below (F := fun _ => False) hb) (fun _ h => h.elim) (fun _ h => h.elim)
  have hlt : ∀ g ∈ st.live, g ≠ w.heap.size := fun g hg => by
    obtain ⟨v, h1, _⟩ := h.ino g hg
    have := h1.lt
    omega
  have hnew : Blk (w.alloc (.cells #[.slice none 0 0, .int .i64 0] 77)) w.heap.size 77 #[.slice none 0 0, .int .i64 0] := Blk.new w 77 _
  refine ⟨h'.blk, h'.map, h'.row, h'.rowIs, fun k hkl => ?_, fun p hp => List.mem_cons_of_mem _ (h.filesLive p hp), fun x hx => List.mem_cons_of_mem _ (h.rowLive x hx), .inl h.fpF, .inl h.fpM, fun k hk => .inl (h.fpR k hk), fun g hg => ?_, fun g hg => ?_, fun g hg => ?_, h'.hbase, h'.lz⟩
  · rcases List.mem_cons.1 hkl with rfl | hkl
    · exact ⟨.slice none 0 0, by simp only [upd_same]; exact hnew, by simp only [upd_same]; exact RB.nil _ _ _⟩
    · obtain ⟨v, h1, h2⟩ := h'.ino k hkl
      exact ⟨v, by simp only [upd_other _ _ (hlt k hkl)]; exact h1, by simp only [upd_other _ _ (hlt k hkl)]; exact h2⟩
  · rcases List.mem_cons.1 hg with rfl | hg
    · exact .inr rfl
    · exact .inl (h.fpI g hg)
  · rcases hg with hg | rfl
    · exact h'.fpb g hg
    · exact ⟨h.hbase, T5_blk hnew (by decide)⟩
  · rcases hg with hg | rfl
    · exact h'.fpl g hg
    · simp
end
def begunL (st : FS) (s : ByteArray) (may : Bool) : Option Nat × Int × FS :=
  if st.down = true then (none, 100, st) else
  match fnd s st.files with
  | none => (none, 101, st)
  | some g => if may = false then (none, 101, st) else if st.fuse == 0 then (none, 100, opS st) else (some g, 0, opS st)
def ptrO : Option Nat → Value
  | none => .pointer none
  | some g => ptr g
set_option maxRecDepth 100000 in
theorem begun_calls {base : Nat} {Lz : Nat → Prop} {w : World} {F : Nat} {fp : Nat → Prop} {st : FS} (h : FRep base Lz w F fp st) (hf : Fine st) (s : ByteArray) (may : Bool) :
    Calls Try.prog 48 #[ptr F, .string s, .bool may] w fun e w' => e = .returned (.tuple #[ptrO (begunL st s may).1, .int .i64 (begunL st s may).2.1]) ∧ FRep base Lz w' F fp (begunL st s may).2.2 ∧ Only (· = F) w w' := by
  have HR := Zz.mk h
  have HF := Zz.mk hf
  have XO := Zz.mk (op_calls h hf)
  obtain ⟨M, rv, cells, h⟩ := h
  have c0 := h.blk.cell 0 rfl
  have c5 := h.blk.cell 5 rfl
  have hl := h.look s
  clear h hf
  cases hd : st.down with
  | true =>
    rw [hd] at c5
    have e1 : begunL st s may = (none, 100, st) := by simp [begunL, hd]
    rw [e1]
    rcases hl with ⟨_, hl⟩ | ⟨g, _, _, hl⟩
    all_goals
      clear hd e1
      go_enter Try.func48, Try.ntmps48
      go_wp2
      go_ret2
      exact ⟨rfl, HR.out, Only.refl _ _⟩
  | false =>
    rw [hd] at c5
    rcases hl with ⟨hf, hl⟩ | ⟨g, hf, hg, hl⟩
    · have e1 : begunL st s may = (none, 101, st) := by simp [begunL, hd, hf]
      rw [e1]
      clear hd e1 hf
      go_enter Try.func48, Try.ntmps48
      go_wp2
      go_ret2
      exact ⟨rfl, HR.out, Only.refl _ _⟩
    · cases may with
      | false =>
        have e1 : begunL st s false = (none, 101, st) := by simp [begunL, hd, hf]
        rw [e1]
        clear hd e1 hf
        go_enter Try.func48, Try.ntmps48
        go_wp2
        go_ret2
        exact ⟨rfl, HR.out, Only.refl _ _⟩
      | true =>
        cases hfu : (st.fuse == 0) with
        | true =>
          have e1 : begunL st s true = (none, 100, opS st) := by simp only [begunL, hd, hf, hfu]; rfl
          rw [e1]
          rw [hfu] at XO
          clear hd e1 hf hfu
          go_enter Try.func48, Try.ntmps48
          go_wp2_with (go_at_call 45; (with_reducible refine (XO.out).mono ?_); rintro e w2 ⟨rfl, ho, hb⟩)
          go_ret2
          exact ⟨rfl, ho, hb⟩
        | false =>
          have e1 : begunL st s true = (some g, 0, opS st) := by simp only [begunL, hd, hf, hfu]; rfl
          rw [e1]
          rw [hfu] at XO
          clear hd e1 hf hfu
          go_enter Try.func48, Try.ntmps48
          go_wp2_with (go_at_call 45; (with_reducible refine (XO.out).mono ?_); rintro e w2 ⟨rfl, ho, hb⟩)
          go_ret2
          exact ⟨rfl, ho, hb⟩
theorem begunL_cases (st : FS) (s : ByteArray) (may : Bool) (hl : ∀ p ∈ st.files, p.2 ∈ st.live) :
    (∃ st', begunL st s may = (none, 100, st')) ∨ (begunL st s may = (none, 101, st)) ∨ ∃ g, g ∈ st.live ∧ fnd s st.files = some g ∧ begunL st s may = (some g, 0, opS st) := by
  unfold begunL
  split
  · exact .inl ⟨_, rfl⟩
  · cases hf : fnd s st.files with
    | none => exact .inr (.inl rfl)
    | some g =>
      simp only
      split
      · exact .inr (.inl rfl)
      · split
        · exact .inl ⟨_, rfl⟩
        · exact .inr (.inr ⟨g, hl _ (fnd_mem hf), rfl, rfl⟩)
def Left (base : Nat) (Lz : Nat → Prop) (w : World) (F : Nat) (fp : Nat → Prop) (e : Ending) (w' : World) (n : Int) (st' : FS) : Prop :=
  e = .returned (.int .i64 n) ∧ (∃ fp', FRep base Lz w' F fp' st' ∧ ∀ k, fp' k → fp k ∨ w.heap.size ≤ k) ∧ Only fp w w'
theorem FRep.live {base : Nat} {Lz : Nat → Prop} {w : World} {F : Nat} {fp : Nat → Prop} {st : FS} (h : FRep base Lz w F fp st) : ∀ p ∈ st.files, p.2 ∈ st.live := by
  obtain ⟨M, rv, cells, h⟩ := h
  exact h.filesLive
theorem FRep.fpF {base : Nat} {Lz : Nat → Prop} {w : World} {F : Nat} {fp : Nat → Prop} {st : FS} (h : FRep base Lz w F fp st) : fp F := by
  obtain ⟨M, rv, cells, h⟩ := h
  exact h.fpF
theorem FRep.fpI {base : Nat} {Lz : Nat → Prop} {w : World} {F : Nat} {fp : Nat → Prop} {st : FS} (h : FRep base Lz w F fp st) {g : Nat} (hg : g ∈ st.live) : fp g := by
  obtain ⟨M, rv, cells, h⟩ := h
  exact h.fpI g hg
theorem FRep.inoCell {base : Nat} {Lz : Nat → Prop} {w : World} {F : Nat} {fp : Nat → Prop} {st : FS} (h : FRep base Lz w F fp st) {g : Nat} (hg : g ∈ st.live) : ∃ v, Blk w g 77 #[v, .int .i64 (st.sz g)] := by
  obtain ⟨M, rv, cells, h⟩ := h
  obtain ⟨v, h1, _⟩ := h.ino g hg
  exact ⟨v, h1⟩
theorem FRep.setIno {base : Nat} {Lz : Nat → Prop} {w w' : World} {F : Nat} {fp : Nat → Prop} {st : FS} (h : FRep base Lz w F fp st) {g : Nat} (hg : g ∈ st.live) (ho : Only (· = g) w w') {v : Value} {n : Nat} {b : List Int}
    (hb : Blk w' g 77 #[v, .int .i64 n]) (hv : RB base Lz w' v b) : FRep base Lz w' F fp { st with sb := upd st.sb g b, sz := upd st.sz g n } := by
  obtain ⟨M, rv, cells, h⟩ := h
  exact ⟨M, rv, cells, h.setIno hg ho hb hv⟩
theorem Sized.opS {st : FS} (h : Sized st) : Sized (opS st) := ⟨h.sb, h.row, h.rows⟩
def syncS (st : FS) (g : Nat) : FS := forgetS { st with sb := upd st.sb g (allL st g), sz := upd st.sz g (st.sz g) } g
def syncL (st : FS) (s : ByteArray) : Int × FS :=
  match begunL st s true with
  | (some g, n, st') => (n, syncS st' g)
  | (none, n, st') => (n, st')
set_option maxRecDepth 100000 in
theorem sync_calls {base : Nat} {Lz : Nat → Prop} {w : World} {F : Nat} {fp : Nat → Prop} {st : FS} (h : FRep base Lz w F fp st) (hf : Fine st) (hs : Sized st) (s : ByteArray) :
    Calls Try.prog 29 #[ptr F, .string s] w fun e w' => Left base Lz w F fp e w' (syncL st s).1 (syncL st s).2 := by
  have XB := begun_calls h hf s true
  have hfp := h.fpF
  rcases begunL_cases st s true h.live with ⟨st', e1⟩ | e1 | ⟨g, hg, hfd, e1⟩
  · have e2 : syncL st s = (100, st') := by simp [syncL, e1]
    rw [e1] at XB
    rw [e2]
    have XB := Zz.mk XB
    clear e1 e2
    go_enter Try.func29, Try.ntmps29
    go_wp2_with (go_at_call 48; (with_reducible refine (XB.out).mono ?_); rintro e w2 ⟨rfl, ho, hb⟩)
    go_ret
    exact ⟨rfl, ⟨_, ho, fun _ h => .inl h⟩, hb.mono fun _ _ e => e ▸ hfp⟩
  · have e2 : syncL st s = (101, st) := by simp [syncL, e1]
    rw [e1] at XB
    rw [e2]
    have XB := Zz.mk XB
    clear e1 e2
    go_enter Try.func29, Try.ntmps29
    go_wp2_with (go_at_call 48; (with_reducible refine (XB.out).mono ?_); rintro e w2 ⟨rfl, ho, hb⟩)
    go_ret
    exact ⟨rfl, ⟨_, ho, fun _ h => .inl h⟩, hb.mono fun _ _ e => e ▸ hfp⟩
  · have e2 : syncL st s = (0, syncS (opS st) g) := by simp [syncL, e1]
    rw [e1] at XB
    rw [e2]
    have XB := Zz.mk (show Calls Try.prog 48 #[ptr F, .string s, .bool true] w fun e w' => e = .returned (.tuple #[ptr g, .int .i64 0]) ∧ FRep base Lz w' F fp (opS st) ∧ Only (· = F) w w' from XB)
    have hfg := h.fpI hg
    have HG := Zz.mk (show g ∈ (opS st).live from hg)
    clear e1 e2
    go_enter Try.func29, Try.ntmps29
    go_wp2_with fail
    go_at_call 48
    with_reducible refine (XB.out).mono ?_
    rintro e w1 ⟨rfl, hr1, hb1⟩
    have XA := Zz.mk (all_calls hr1 hs.opS HG.out)
    have HR1 := Zz.mk hr1
    have HB1 := Zz.mk hb1
    clear hr1 hb1
    go_wp2_with fail
    go_at_call 39
    with_reducible refine (XA.out).mono ?_
    rintro e w2 ⟨v2, rfl, ho2, hb2⟩
    have hr2 := HR1.out.below hb2
    obtain ⟨A2, n2, c2, rfl, hn2⟩ := own_form ho2
    obtain ⟨v0, hi2⟩ := hr2.inoCell HG.out
    have k0 := hi2.cell 0 rfl
    have f0 := hi2.frozen 0
    have hon := (Only.refl (· = g) w2).set1 0 (.slice A2 n2 c2)
    have hr3 := hr2.setIno HG.out hon (hi2.set_ 0 (.slice A2 n2 c2)) ((RB.of_R (base := base) (Lz := Lz) ho2 (HR1.out.nol (Nat.le_refl _))).only hon (fun k hk => by
      subst hk
      obtain ⟨M, rv, cells, hx⟩ := hr2
      exact hx.fpb _ (hx.fpI _ HG.out)))
    have XF := Zz.mk (forget_calls hr3 (by exact hs.rows) HG.out)
    have HON : Zz (Only fp w (w2.setCell ⟨g, 0, none⟩ (.slice A2 n2 c2))) := ⟨((HB1.out.mono (fun _ _ e => e ▸ hfp)).below hb2).setCell (.inl hfg) _⟩
    have HSZ : Zz (w.heap.size ≤ (w2.setCell ⟨g, 0, none⟩ (.slice A2 n2 c2)).heap.size) := ⟨HON.out.size⟩
    clear ho2 hb2 hr2 hi2 hon hr3 hn2
    go_wp2_with fail
    go_at_call 49
    with_reducible refine (XF.out).mono ?_
    rintro e w3 ⟨rfl, ⟨fp', hr4, hfp4⟩, hb4⟩
    have HR4 := Zz.mk hr4
    have HB4 := Zz.mk hb4
    have HF4 := Zz.mk hfp4
    clear hr4 hb4 hfp4
    go_wp2
    go_ret
    refine ⟨rfl, ⟨fp', HR4.out, fun k hk => ?_⟩, HON.out.trans HB4.out (fun k _ e => e ▸ hfp)⟩
    rcases HF4.out k hk with h | h
    · exact .inl h
    · exact .inr (Nat.le_trans HSZ.out h)
theorem drop_map {β γ : Type} (f : β → γ) (s : ByteArray) : ∀ l : List (ByteArray × β), drop_ s (l.map fun p => (p.1, f p.2)) = (drop_ s l).map fun p => (p.1, f p.2)
  | [] => rfl
  | p :: r => by
    by_cases h : p.1 = s
    · simp [drop_, h]
    · simp [drop_, h, drop_map f s r]
theorem drop_sub {β : Type} {s : ByteArray} : ∀ {l : List (ByteArray × β)}, ∀ p ∈ drop_ s l, p ∈ l
  | [], p, h => by cases h
  | q :: r, p, h => by
    by_cases hq : q.1 = s
    · simp only [drop_, hq, if_true] at h
      exact List.mem_cons_of_mem _ h
    · simp only [drop_, hq, if_false, List.mem_cons] at h
      rcases h with rfl | h
      · exact List.mem_cons_self ..
      · exact List.mem_cons_of_mem _ (drop_sub p h)
theorem put_map {β γ : Type} (f : β → γ) (s : ByteArray) (v : β) : ∀ l : List (ByteArray × β), put s (f v) (l.map fun p => (p.1, f p.2)) = (put s v l).map fun p => (p.1, f p.2)
  | [] => rfl
  | p :: r => by
    by_cases h : p.1 = s
    · simp [put, h]
    · simp [put, h, put_map f s v r]
theorem put_sub {β : Type} {s : ByteArray} {v : β} : ∀ {l : List (ByteArray × β)}, ∀ p ∈ put s v l, p = (s, v) ∨ p ∈ l
  | [], p, h => .inl (List.mem_singleton.1 h)
  | q :: r, p, h => by
    by_cases hq : q.1 = s
    · simp only [put, hq, if_true, List.mem_cons] at h
      rcases h with rfl | h
      · exact .inl rfl
      · exact .inr (List.mem_cons_of_mem _ h)
    · simp only [put, hq, if_false, List.mem_cons] at h
      rcases h with rfl | h
      · exact .inr (List.mem_cons_self ..)
      · rcases put_sub p h with h | h
        · exact .inl h
        · exact .inr (List.mem_cons_of_mem _ h)
theorem grown_only {w w' : World} {M : Nat} (h : w.grownBy w' (some M)) : Only (· = M) w w' :=
  ⟨h.os, h.tape, h.output, h.size, fun i hi hn => h.block i hi (fun e => hn (Option.some.inj e))⟩
def removeS (st : FS) (g : Nat) (s : ByteArray) : FS := { forgetS st g with files := drop_ s st.files }
def removeL (st : FS) (s : ByteArray) : Int × FS :=
  match begunL st s true with
  | (some g, n, st') => (n, removeS st' g s)
  | (none, n, st') => (n, st')
set_option maxRecDepth 100000 in
theorem remove_calls {base : Nat} {Lz : Nat → Prop} {w : World} {F : Nat} {fp : Nat → Prop} {st : FS} (h : FRep base Lz w F fp st) (hf : Fine st) (hs : Sized st) (s : ByteArray) :
    Calls Try.prog 33 #[ptr F, .string s] w fun e w' => Left base Lz w F fp e w' (removeL st s).1 (removeL st s).2 := by
  have XB := begun_calls h hf s true
  have hfp := h.fpF
  rcases begunL_cases st s true h.live with ⟨st', e1⟩ | e1 | ⟨g, hg, hfd, e1⟩
  · have e2 : removeL st s = (100, st') := by simp [removeL, e1]
    rw [e1] at XB
    rw [e2]
    have XB := Zz.mk XB
    clear e1 e2
    go_enter Try.func33, Try.ntmps33
    go_wp2_with (go_at_call 48; (with_reducible refine (XB.out).mono ?_); rintro e w2 ⟨rfl, ho, hb⟩)
    go_ret
    exact ⟨rfl, ⟨_, ho, fun _ h => .inl h⟩, hb.mono fun _ _ e => e ▸ hfp⟩
  · have e2 : removeL st s = (101, st) := by simp [removeL, e1]
    rw [e1] at XB
    rw [e2]
    have XB := Zz.mk XB
    clear e1 e2
    go_enter Try.func33, Try.ntmps33
    go_wp2_with (go_at_call 48; (with_reducible refine (XB.out).mono ?_); rintro e w2 ⟨rfl, ho, hb⟩)
    go_ret
    exact ⟨rfl, ⟨_, ho, fun _ h => .inl h⟩, hb.mono fun _ _ e => e ▸ hfp⟩
  · have e2 : removeL st s = (0, removeS (opS st) g s) := by simp [removeL, e1]
    rw [e1] at XB
    rw [e2]
    have XB := Zz.mk (show Calls Try.prog 48 #[ptr F, .string s, .bool true] w fun e w' => e = .returned (.tuple #[ptr g, .int .i64 0]) ∧ FRep base Lz w' F fp (opS st) ∧ Only (· = F) w w' from XB)
    have HG := Zz.mk (show g ∈ (opS st).live from hg)
    clear e1 e2
    go_enter Try.func33, Try.ntmps33
    go_wp2_with fail
    go_at_call 48
    with_reducible refine (XB.out).mono ?_
    rintro e w1 ⟨rfl, hr1, hb1⟩
    have XF := Zz.mk (forget_calls hr1 (by exact hs.rows) HG.out)
    have HB1 : Zz (Only fp w w1) := ⟨hb1.mono (fun _ _ e => e ▸ hfp)⟩
    clear hr1 hb1
    go_wp2_with fail
    go_at_call 49
    with_reducible refine (XF.out).mono ?_
    rintro e w3 ⟨rfl, ⟨fp', ⟨M, rv, cells, hr4⟩, hfp4⟩, hb4⟩
    have k0 := hr4.blk.cell 0 rfl
    have HR4 := Zz.mk hr4
    have HB4 : Zz (Only fp w w3) := ⟨HB1.out.trans hb4 (fun k _ e => e ▸ hfp)⟩
    have HF4 : Zz (∀ k, fp' k → fp k ∨ w.heap.size ≤ k) := ⟨fun k hk => (hfp4 k hk).imp id (fun h => Nat.le_trans HB1.out.size h)⟩
    clear hr4 hb4 hfp4
    go_wp2_with (with_reducible refine wpList_delete_str HR4.out.map rfl (.tmp 21) (.tmp 22) rfl Try.underlying64 Try.underlying9 s rfl rfl ?_; intro w5 hm5 hg5; rw [drop_map (fun g => ptr g)] at hm5; have HM5 := Zz.mk hm5; have HG5 := Zz.mk hg5; clear hm5 hg5)
    go_ret
    refine ⟨rfl, ⟨fp', ⟨M, rv, cells, HR4.out.setMap (grown_only HG5.out) HM5.out (fun p hp => HR4.out.filesLive p (drop_sub p hp))⟩, HF4.out⟩, HB4.out.grown HG5.out (fun k hk => ?_)⟩
    injection hk with hk
    subst hk
    exact HF4.out _ HR4.out.fpM
theorem toList_eq_iff (s t : ByteArray) : (s.toList == t.toList) = decide (s = t) := by
  rw [Bool.eq_iff_iff, beq_iff_eq, decide_eq_true_iff, ByteArray.toList_eq, ByteArray.toList_eq]
  exact ⟨fun h => ByteArray.ext (Array.ext' h), fun h => by rw [h]⟩
def namedB (s : ByteArray) : Bool := decide (1 ≤ s.size) && decide (s.size ≤ 20)
def renameS (st : FS) (g : Nat) (s t : ByteArray) : FS :=
  let st2 := match fnd t st.files with | some old => forgetS st old | none => st
  { st2 with files := put t g (drop_ s st2.files) }
def renameL (st : FS) (s t : ByteArray) : Int × FS :=
  match begunL st s (namedB t) with
  | (some g, n, st') => if s = t then (n, st') else (n, renameS st' g s t)
  | (none, n, st') => (n, st')
theorem FRepX.renamed {base : Nat} {Lz : Nat → Prop} {w w1 w2 : World} {F : Nat} {fp : Nat → Prop} {st : FS} {M : Nat} {rv : Value} {cells : List Value} (h : FRepX base Lz w F fp st M rv cells) {g : Nat} (hg : g ∈ st.live) {s t : ByteArray}
    (h1 : w.grownBy w1 (some M)) (h2 : w1.grownBy w2 (some M)) (hm : MapStr w2 M (put t (ptr g) (drop_ s (st.files.map fun p => (p.1, ptr p.2))))) : FRepX base Lz w2 F fp { st with files := put t g (drop_ s st.files) } M rv cells := by
  rw [drop_map (fun g => ptr g), put_map (fun g => ptr g)] at hm
  refine h.setMap ((grown_only h1).trans (grown_only h2) (fun _ _ h => h)) hm (fun p hp => ?_)
  rcases put_sub p hp with rfl | hp
  · exact hg
  · exact h.filesLive p (drop_sub p hp)
set_option maxRecDepth 100000 in
set_option maxHeartbeats 1000000 in
theorem rename_calls {base : Nat} {Lz : Nat → Prop} {w : World} {F : Nat} {fp : Nat → Prop} {st : FS} (h : FRep base Lz w F fp st) (hf : Fine st) (hs : Sized st) (s t : ByteArray) :
    Calls Try.prog 31 #[ptr F, .string s, .string t] w fun e w' => Left base Lz w F fp e w' (renameL st s t).1 (renameL st s t).2 := by
  have XB := begun_calls h hf s (namedB t)
  have XN := Zz.mk (named_calls t w)
  have hfp := h.fpF
  rcases begunL_cases st s (namedB t) h.live with ⟨st', e1⟩ | e1 | ⟨g, hg, hfd, e1⟩
  · have e2 : renameL st s t = (100, st') := by simp [renameL, e1]
    rw [e1] at XB
    rw [e2]
    have XB := Zz.mk XB
    clear e1 e2
    go_enter Try.func31, Try.ntmps31
    go_wp2_with (first | (go_at_call 43; (with_reducible refine (XN.out).mono ?_); rintro e w2 ⟨rfl, rfl⟩) | (go_at_call 48; (refine (XB.out).mono ?_); rintro e w2 ⟨rfl, ho, hb⟩))
    go_ret
    exact ⟨rfl, ⟨_, ho, fun _ h => .inl h⟩, hb.mono fun _ _ e => e ▸ hfp⟩
  · have e2 : renameL st s t = (101, st) := by simp [renameL, e1]
    rw [e1] at XB
    rw [e2]
    have XB := Zz.mk XB
    clear e1 e2
    go_enter Try.func31, Try.ntmps31
    go_wp2_with (first | (go_at_call 43; (with_reducible refine (XN.out).mono ?_); rintro e w2 ⟨rfl, rfl⟩) | (go_at_call 48; (refine (XB.out).mono ?_); rintro e w2 ⟨rfl, ho, hb⟩))
    go_ret
    exact ⟨rfl, ⟨_, ho, fun _ h => .inl h⟩, hb.mono fun _ _ e => e ▸ hfp⟩
  · rw [e1] at XB
    have XB := Zz.mk (show Calls Try.prog 48 #[ptr F, .string s, .bool (namedB t)] w fun e w' => e = .returned (.tuple #[ptr g, .int .i64 0]) ∧ FRep base Lz w' F fp (opS st) ∧ Only (· = F) w w' from XB)
    have HG := Zz.mk (show g ∈ (opS st).live from hg)
    by_cases hst : s = t
    · have e2 : renameL st s t = (0, opS st) := by simp only [renameL, e1]; rw [if_pos hst]
      rw [e2]
      have hq : (s.toList == t.toList) = true := by rw [toList_eq_iff]; simp [hst]
      clear e1 e2 hst
      go_enter Try.func31, Try.ntmps31
      go_wp2_with (first | (go_at_call 43; (with_reducible refine (XN.out).mono ?_); rintro e w2 ⟨rfl, rfl⟩) | (go_at_call 48; (refine (XB.out).mono ?_); rintro e w2 ⟨rfl, ho, hb⟩))
      go_ret
      exact ⟨rfl, ⟨_, ho, fun _ h => .inl h⟩, hb.mono fun _ _ e => e ▸ hfp⟩
    · have e2 : renameL st s t = (0, renameS (opS st) g s t) := by simp [renameL, e1, hst]
      rw [e2]
      have hq : (s.toList == t.toList) = false := by rw [toList_eq_iff]; simp [hst]
      clear e1 e2 hst
      go_enter Try.func31, Try.ntmps31
      go_wp2_with fail
      go_at_call 43
      with_reducible refine (XN.out).mono ?_
      rintro e w0 ⟨rfl, rfl⟩
      go_wp2_with fail
      go_at_call 48
      refine (XB.out).mono ?_
      rintro e w1 ⟨rfl, ⟨M, rv, cells, hr1⟩, hb1⟩
      have k0 := hr1.blk.cell 0 rfl
      have HR1 := Zz.mk hr1
      have HB1 : Zz (Only fp w0 w1) := ⟨hb1.mono (fun _ _ e => e ▸ hfp)⟩
      rcases hr1.look t with ⟨hfn, hl⟩ | ⟨old, hfn, hold, hl⟩
      · have HE : Zz (renameS (opS st) g s t = { opS st with files := put t g (drop_ s (opS st).files) }) := ⟨by simp [renameS, hfn]⟩
        clear hr1 hb1 hfn
        go_wp2_with (first
          | (refine wpList_delete_str HR1.out.map rfl (.tmp 43) (.tmp 44) rfl Try.underlying64 Try.underlying9 s rfl rfl ?_; intro w5 hm5 hg5; have HM5 := Zz.mk hm5; have HG5 := Zz.mk hg5; have k5 : w5.cell? ⟨F, 0, none⟩ = some (.map (some M)) := (HR1.out.blk.to (hg5.block _ HR1.out.blk.lt (fun e => HR1.out.map.ne_blk HR1.out.blk (Option.some.inj e).symm))).cell 0 rfl; clear hm5 hg5)
          | (refine wpList_mapUpdate_str HM5.out rfl (.tmp 48) (.tmp 49) (.tmp 50) rfl Try.underlying64 Try.underlying9 t (ptr g) rfl rfl rfl ?_; intro w6 hm6 hg6; have HM6 := Zz.mk hm6; have HG6 := Zz.mk hg6; clear hm6 hg6))
        go_ret
        rw [HE.out]
        have hM : fp M := HR1.out.fpM
        refine ⟨rfl, ⟨fp, ⟨M, rv, cells, HR1.out.renamed HG.out HG5.out HG6.out HM6.out⟩, fun _ h => .inl h⟩, (HB1.out.grown HG5.out (fun k hk => ?_)).grown HG6.out (fun k hk => ?_)⟩
        all_goals
          injection hk with hk
          subst hk
          exact .inl hM
      · have HE : Zz (renameS (opS st) g s t = { forgetS (opS st) old with files := put t g (drop_ s (opS st).files) }) := ⟨by simp [renameS, hfn, forgetS]⟩
        have XF := Zz.mk (forget_calls ⟨M, rv, cells, hr1⟩ (by exact hs.rows) hold)
        clear hr1 hb1 hfn
        go_wp2_with fail
        go_at_call 49
        with_reducible refine (XF.out).mono ?_
        rintro e w3 ⟨rfl, ⟨fp', ⟨M', rv', cells', hr4⟩, hfp4⟩, hb4⟩
        have k1 := hr4.blk.cell 0 rfl
        have HR4 := Zz.mk hr4
        have HB4 : Zz (Only fp w0 w3) := ⟨HB1.out.trans hb4 (fun k _ e => e ▸ hfp)⟩
        have HF4 : Zz (∀ k, fp' k → fp k ∨ w0.heap.size ≤ k) := ⟨fun k hk => (hfp4 k hk).imp id (fun h => Nat.le_trans HB1.out.size h)⟩
        clear hr4 hb4 hfp4
        go_wp2_with (first
          | (refine wpList_delete_str HR4.out.map rfl (.tmp 43) (.tmp 44) rfl Try.underlying64 Try.underlying9 s rfl rfl ?_; intro w5 hm5 hg5; have HM5 := Zz.mk hm5; have HG5 := Zz.mk hg5; have k5 : w5.cell? ⟨F, 0, none⟩ = some (.map (some M')) := (HR4.out.blk.to (hg5.block _ HR4.out.blk.lt (fun e => HR4.out.map.ne_blk HR4.out.blk (Option.some.inj e).symm))).cell 0 rfl; clear hm5 hg5)
          | (refine wpList_mapUpdate_str HM5.out rfl (.tmp 48) (.tmp 49) (.tmp 50) rfl Try.underlying64 Try.underlying9 t (ptr g) rfl rfl rfl ?_; intro w6 hm6 hg6; have HM6 := Zz.mk hm6; have HG6 := Zz.mk hg6; clear hm6 hg6))
        go_ret
        rw [HE.out]
        have hM := HF4.out M' HR4.out.fpM
        refine ⟨rfl, ⟨fp', ⟨M', rv', cells', HR4.out.renamed HG.out HG5.out HG6.out HM6.out⟩, HF4.out⟩, (HB4.out.grown HG5.out (fun k hk => ?_)).grown HG6.out (fun k hk => ?_)⟩
        all_goals
          injection hk with hk
          subst hk
          exact hM
end Go.Proofs.Ytcpkoajnepijkaa
namespace Go.Proofs.Ytcpkoajnepijkaa
open Go.RowKit Go.Proofs.YtcpkoajnepijkaaL Go.Proofs.YtcpkoajnepijkaaW.PrintWords
def cutS (st : FS) (g : Nat) (k : Nat) : FS := { forgetS st g with sb := upd st.sb g ((allL st g).take k), sz := upd st.sz g k }
def cutN (n : Int) (len : Nat) : Nat := if n < 0 then 0 else if (len : Int) < n then len else n.toNat
theorem cutN_le (n : Int) (len : Nat) : cutN n len ≤ len := by
  unfold cutN
  split
  · omega
  · split <;> omega
def cutL (st : FS) (s : ByteArray) (n : Int) : Int × FS :=
  match begunL st s true with
  | (some g, e, st') => (e, cutS st' g (cutN n (allL st' g).length))
  | (none, e, st') => (e, st')
theorem RB.take {base : Nat} {Lz : Nat → Prop} {w : World} {A : Option Addr} {n c k : Nat} {xs : List Int} (h : RB base Lz w (.slice A n c) xs) (hk : k ≤ n) : RB base Lz w (.slice A k c) (xs.take k) := by
  obtain ⟨A', c', e, hc, hC, hI⟩ := h
  injection e with e1 e2 e3
  subst e1 e2 e3
  have hl : (xs.take k).length = k := by rw [List.length_take]; omega
  exact ⟨A, c, by rw [hl], by omega, by have := Kd.C_take hC hk; exact this, fun ad e hn => hI ad e (by have := hn; simp at this; omega)⟩
theorem cut_ends {base : Nat} {Lz : Nat → Prop} {w3 : World} {F : Nat} {fp : Nat → Prop} {st : FS} {g : Nat} (h : FRep base Lz w3 F fp (forgetS st g)) (hg : g ∈ st.live) {A : Option Addr} {n2 c2 k : Nat} (hb : RB base Lz w3 (.slice A n2 c2) (allL st g)) (hk : k ≤ n2) :
    FRep base Lz ((w3.setCell ⟨g, 0, none⟩ (.slice A k c2)).setCell ⟨g, 1, none⟩ (.int .i64 k)) F fp (cutS st g k) ∧ Only (· = g) w3 ((w3.setCell ⟨g, 0, none⟩ (.slice A k c2)).setCell ⟨g, 1, none⟩ (.int .i64 k)) := by
  have hon := ((Only.refl (· = g) w3).set1 0 (.slice A k c2)).set1 1 (.int .i64 k)
  have hm : Mut base w3 (· = g) := fun j hj => by
    subst hj
    obtain ⟨M, rv, cells, hx⟩ := h
    exact hx.fpb _ (hx.fpI _ hg)
  obtain ⟨v0, hi⟩ := h.inoCell (show g ∈ (forgetS st g).live from hg)
  exact ⟨h.setIno (show g ∈ (forgetS st g).live from hg) hon ((hi.set_ 0 (.slice A k c2)).set_ 1 (.int .i64 k)) ((hb.take hk).only hon hm), hon⟩
set_option maxRecDepth 100000 in
set_option maxHeartbeats 1000000 in
theorem cut_calls {base : Nat} {Lz : Nat → Prop} {w : World} {F : Nat} {fp : Nat → Prop} {st : FS} (h : FRep base Lz w F fp st) (hf : Fine st) (hs : Sized st) (s : ByteArray) (n : Int) :
    Calls Try.prog 32 #[ptr F, .string s, .int .i64 n] w fun e w' => Left base Lz w F fp e w' (cutL st s n).1 (cutL st s n).2 := by
  have XB := begun_calls h hf s true
  have hfp := h.fpF
  rcases begunL_cases st s true h.live with ⟨st', e1⟩ | e1 | ⟨g, hg, hfd, e1⟩
  · have e2 : cutL st s n = (100, st') := by simp [cutL, e1]
    rw [e1] at XB
    rw [e2]
    have XB := Zz.mk XB
    clear e1 e2
    go_enter Try.func32, Try.ntmps32
    go_wp2_with (go_at_call 48; (with_reducible refine (XB.out).mono ?_); rintro e w2 ⟨rfl, ho, hb⟩)
    go_ret
    exact ⟨rfl, ⟨_, ho, fun _ h => .inl h⟩, hb.mono fun _ _ e => e ▸ hfp⟩
  · have e2 : cutL st s n = (101, st) := by simp [cutL, e1]
    rw [e1] at XB
    rw [e2]
    have XB := Zz.mk XB
    clear e1 e2
    go_enter Try.func32, Try.ntmps32
    go_wp2_with (go_at_call 48; (with_reducible refine (XB.out).mono ?_); rintro e w2 ⟨rfl, ho, hb⟩)
    go_ret
    exact ⟨rfl, ⟨_, ho, fun _ h => .inl h⟩, hb.mono fun _ _ e => e ▸ hfp⟩
  · have e2 : cutL st s n = (0, cutS (opS st) g (cutN n (allL (opS st) g).length)) := by simp [cutL, e1]
    rw [e1] at XB
    rw [e2]
    have XB := Zz.mk (show Calls Try.prog 48 #[ptr F, .string s, .bool true] w fun e w' => e = .returned (.tuple #[ptr g, .int .i64 0]) ∧ FRep base Lz w' F fp (opS st) ∧ Only (· = F) w w' from XB)
    have hfg := h.fpI hg
    have HG := Zz.mk (show g ∈ (opS st).live from hg)
    clear e1 e2
    go_enter Try.func32, Try.ntmps32
    go_wp2_with fail
    go_at_call 48
    with_reducible refine (XB.out).mono ?_
    rintro e w1 ⟨rfl, hr1, hb1⟩
    have XA := Zz.mk (all_calls hr1 hs.opS HG.out)
    have HR1 := Zz.mk hr1
    have HB1 := Zz.mk hb1
    clear hr1 hb1
    go_wp2_with fail
    go_at_call 39
    with_reducible refine (XA.out).mono ?_
    rintro e w2 ⟨v2, rfl, ho2, hb2⟩
    have hr2 := HR1.out.below hb2
    have XF := Zz.mk (forget_calls hr2 (by exact hs.rows) HG.out)
    have HR2 := Zz.mk (RB.of_R (base := base) (Lz := Lz) ho2 (HR1.out.nol (Nat.le_refl _)))
    obtain ⟨A2, n2, c2, rfl, hn2⟩ := own_form ho2
    have hc2 : n2 ≤ c2 := by
      obtain ⟨A', c', e, hc, _⟩ := HR2.out
      injection e with _ e2 e3
      omega
    have HRR := Zz.mk hr2
    have HN2 := Zz.mk hn2
    have HB2 : Zz (Only fp w w2) := ⟨(HB1.out.mono (fun _ _ e => e ▸ hfp)).below hb2⟩
    clear ho2 hb2 hr2 hn2
    go_wp2_with fail
    go_at_call 49
    with_reducible refine (XF.out).mono ?_
    rintro e w3 ⟨rfl, ⟨fp', hr4, hfp4⟩, hb4⟩
    have HRB3 := Zz.mk (HR2.out.only hb4 (fun j hj => by
      subst hj
      obtain ⟨M, rv, cells, hx⟩ := HRR.out
      exact hx.fpb _ hx.fpF))
    obtain ⟨v0, hi⟩ := hr4.inoCell (show g ∈ (forgetS (opS st) g).live from HG.out)
    have k0 := hi.cell 0 rfl
    have k1 := hi.cell 1 rfl
    have f0 := hi.frozen 0
    have f1 := hi.frozen 1
    have HR4 := Zz.mk hr4
    have HB4 : Zz (Only fp w w3) := ⟨HB2.out.trans hb4 (fun k _ e => e ▸ hfp)⟩
    have HF4 : Zz (∀ k, fp' k → fp k ∨ w.heap.size ≤ k) := ⟨fun k hk => (hfp4 k hk).imp id (fun h => Nat.le_trans HB2.out.size h)⟩
    have fin : ∀ k, k ≤ n2 → cutN n n2 = k → Left base Lz w F fp (.returned (.int .i64 0)) ((w3.setCell ⟨g, 0, none⟩ (.slice A2 k c2)).setCell ⟨g, 1, none⟩ (.int .i64 k)) 0 (cutS (opS st) g (cutN n (allL (opS st) g).length)) := fun k hk he => by
      rw [← HN2.out, he]
      obtain ⟨r1, r2⟩ := cut_ends HR4.out HG.out HRB3.out hk
      exact ⟨rfl, ⟨fp', r1, HF4.out⟩, HB4.out.trans r2 (fun k _ e => e ▸ hfg)⟩
    have FIN := Zz.mk fin
    clear hr4 hb4 hfp4 hi fin
    by_cases h1 : n < 0
    · go_wp2
      go_ret
      exact FIN.out 0 (by omega) (by simp [cutN, h1])
    · obtain ⟨m, rfl⟩ : ∃ m : Nat, n = m := ⟨n.toNat, by omega⟩
      by_cases h2 : n2 < m
      · go_wp2
        go_ret
        exact FIN.out n2 (by omega) (by unfold cutN; rw [if_neg (by omega), if_pos (by omega)])
      · go_wp2
        go_ret
        exact FIN.out m (by omega) (by unfold cutN; rw [if_neg (by omega), if_neg (by omega), Int.toNat_natCast])
theorem FRepX.wrote {base : Nat} {Lz : Nat → Prop} {w w' : World} {F : Nat} {fp : Nat → Prop} {st : FS} {M : Nat} {rv : Value} {cells : List Value} (h : FRepX base Lz w F fp st M rv cells) {g : Nat} (hg : g ∈ st.live)
    (ho : Only (fun k => k = F ∨ k = g ∨ rv.ownBlock = some k) w w') {rv' : Value} {row' : List Wr} {cells' : List Value} {n : Nat} {v0 : Value}
    (hb : Blk w' F 67 #[.map (some M), rv', .int .i64 st.ops, .int .i64 st.fuse, .int .i64 st.fault, .bool st.down]) (hi : Blk w' g 77 #[v0, .int .i64 n]) (hv0 : RB base Lz w v0 (st.sb g))
    (hr : w'.ownsRow base 80 3 rv' row'.length cells') (hri : RowIs base Lz w' row' cells') (hrl : ∀ x ∈ row', x.tgt ∈ st.live) :
    FRepX base Lz w' F (fun k => (fp k ∧ rv.ownBlock ≠ some k) ∨ rv'.ownBlock = some k) { st with row := row', sz := upd st.sz g n } M rv' cells' := by
  obtain ⟨v1, hb1, _⟩ := h.ino g hg
  have hG : Mut base w (fun k => k = F ∨ k = g ∨ rv.ownBlock = some k) := fun k hk => by
    rcases hk with rfl | rfl | hk
    · exact h.fpb _ h.fpF
    · exact h.fpb _ (h.fpI _ hg)
    · exact h.fpb _ (h.fpR _ hk)
  have hRB : ∀ v xs, RB base Lz w v xs → RB base Lz w' v xs := fun v xs hv => hv.only ho hG
  have hk : ∀ k, k < w.heap.size → k ≠ F → k ≠ g → rv.ownBlock ≠ some k → w'.heap[k]? = w.heap[k]? := fun k hk h1 h2 h3 => ho.block k hk (fun e => by
    rcases e with e | e | e
    · exact h1 e
    · exact h2 e
    · exact h3 e)
  refine ⟨hb, h.map.to (hk _ h.map.lt (h.map.ne_blk h.blk) (h.map.ne_blk hb1) (fun e => h.map.ne_own h.row _ e rfl)), hr, hri, fun k hkl => ?_, h.filesLive, hrl, .inl ⟨h.fpF, own_blk_ne h.row h.blk (by decide)⟩, .inl ⟨h.fpM, fun e => h.map.ne_own h.row _ e rfl⟩, fun k hk => .inr hk, fun k hk => .inl ⟨h.fpI k hk, ?_⟩, fun k hkk => ?_, fun k hkk => ?_, Nat.le_trans h.hbase ho.size, fun g hg => Nat.lt_of_lt_of_le (h.lz g hg) ho.size⟩
  · by_cases he : k = g
    · subst he
      exact ⟨v0, by simp only [upd_same]; exact hi, hRB _ _ hv0⟩
    · obtain ⟨v', h1, h2⟩ := h.ino k hkl
      exact ⟨v', by simp only [upd_other _ _ he]; exact h1.to (hk _ h1.lt (h1.ne_ h.blk (by decide)) he (own_blk_ne h.row h1 (by decide))), hRB _ _ h2⟩
  · obtain ⟨v', h1, _⟩ := h.ino k hk
    exact own_blk_ne h.row h1 (by decide)
  · rcases hkk with ⟨hkk, e3⟩ | hkk
    · obtain ⟨h1, h2⟩ := h.fpb k hkk
      refine ⟨h1, ?_⟩
      by_cases e1 : k = F
      · subst e1; exact T5_blk hb (by decide)
      · by_cases e2 : k = g
        · subst e2; exact T5_blk hi (by decide)
        · intro h5
          unfold T5 at h5
          rw [hk k (h.fpl k hkk) e1 e2 e3] at h5
          exact h2 h5
    · refine ⟨own_base hr k hkk, fun h5 => ?_⟩
      obtain ⟨c5, fr, h5⟩ := h5
      obtain ⟨cs', hh'⟩ := own_typed hr k hkk
      rw [hh'] at h5
      injection h5 with h5
      injection h5 with _ h5
      exact absurd h5 (by decide)
  · rcases hkk with ⟨hkk, _⟩ | hkk
    · exact Nat.lt_of_lt_of_le (h.fpl k hkk) ho.size
    · exact own_lt hr k hkk
def writeL (st : FS) (s : ByteArray) (b : List Int) (new : Nat) : Int × FS :=
  if st.down = true then (100, st) else
  if namedB s = false ∨ (fnd s st.files = none ∧ 8 ≤ st.files.length) then (101, st) else
  if ((fnd s st.files).map st.sz).getD 0 + b.length > 65536 then (103, st) else
  if st.fault == 0 then (if st.fuse == 0 then 100 else 102, opS (faultS st)) else
  let st1 : FS := match fnd s st.files with | none => { st with live := new :: st.live, sb := upd st.sb new [], sz := upd st.sz new 0 } | some _ => st
  let g := (fnd s st.files).getD new
  let st2 := opS (faultS st1)
  (if st.fuse == 0 then 100 else 0, { st2 with files := put s g st2.files, row := st2.row ++ [⟨g, st1.sz g, b⟩], sz := upd st2.sz g (st1.sz g + b.length) })
theorem FRepX.lenM {base : Nat} {Lz : Nat → Prop} {w : World} {F : Nat} {fp : Nat → Prop} {st : FS} {M : Nat} {rv : Value} {cells : List Value} (h : FRepX base Lz w F fp st M rv cells) : ∀ ty, (Builtin.len_ #[64] ty #[.map (some M)]).run Try.prog w = .ok (.int .i64 st.files.length) w := by
  intro ty
  have := h.map.len Try.underlying64 ty
  rwa [List.length_map] at this
set_option maxRecDepth 100000 in
set_option maxHeartbeats 1000000 in
theorem write_early {base : Nat} {Lz : Nat → Prop} {w : World} {F : Nat} {fp : Nat → Prop} {st : FS} (h : FRep base Lz w F fp st) (s : ByteArray) (v : Value)
    (hc : st.down = true ∨ (st.down = false ∧ (namedB s = false ∨ (fnd s st.files = none ∧ 8 ≤ st.files.length)))) :
    Calls Try.prog 23 #[ptr F, .string s, v] w fun e w' => e = .returned (.int .i64 (if st.down = true then 100 else 101)) ∧ w' = w := by
  obtain ⟨M, rv, cells, h⟩ := h
  have XN := Zz.mk (named_calls s w)
  have c0 := h.blk.cell 0 rfl
  have c5 := h.blk.cell 5 rfl
  have hl := h.look s
  have hlen := h.lenM
  clear h
  rcases hc with hd | ⟨hd, hn | ⟨hf, h8⟩⟩
  · rw [hd] at c5
    simp only [hd, if_true]
    rcases hl with ⟨_, hl⟩ | ⟨g, _, _, hl⟩
    all_goals
      clear hd
      go_enter Try.func23, Try.ntmps23
      go_wp2
      go_ret
      exact ⟨rfl, rfl⟩
  · rw [hd] at c5
    simp only [hd, Bool.false_eq_true, if_false]
    have XN' : Zz (Calls Try.prog 43 #[.string s] w fun e w' => e = .returned (.bool false) ∧ w' = w) := ⟨XN.out.mono fun e w' ⟨he, hw⟩ => ⟨by rw [he]; congr 2, hw⟩⟩
    rcases hl with ⟨_, hl⟩ | ⟨g, _, _, hl⟩
    all_goals
      clear hd hn
      go_enter Try.func23, Try.ntmps23
      go_wp2_with (go_at_call 43; (with_reducible refine (XN'.out).mono ?_); rintro e w2 ⟨rfl, rfl⟩)
      go_ret
      exact ⟨rfl, rfl⟩
  · rw [hd] at c5
    simp only [hd, Bool.false_eq_true, if_false]
    rcases hl with ⟨_, hl⟩ | ⟨g, hg, _, _⟩
    · cases hn : namedB s with
      | false =>
        have XN' : Zz (Calls Try.prog 43 #[.string s] w fun e w' => e = .returned (.bool false) ∧ w' = w) := ⟨XN.out.mono fun e w' ⟨he, hw⟩ => ⟨by rw [he]; congr 2, hw⟩⟩
        clear hd hn hf
        go_enter Try.func23, Try.ntmps23
        go_wp2_with (go_at_call 43; (with_reducible refine (XN'.out).mono ?_); rintro e w2 ⟨rfl, rfl⟩)
        go_ret
        exact ⟨rfl, rfl⟩
      | true =>
        have XN' : Zz (Calls Try.prog 43 #[.string s] w fun e w' => e = .returned (.bool true) ∧ w' = w) := ⟨XN.out.mono fun e w' ⟨he, hw⟩ => ⟨by rw [he]; congr 2, hw⟩⟩
        have h8' : (8 : Int) ≤ (st.files.length : Int) := by omega
        clear hd hn hf
        go_enter Try.func23, Try.ntmps23
        go_wp2_with (go_at_call 43; (with_reducible refine (XN'.out).mono ?_); rintro e w2 ⟨rfl, rfl⟩)
        go_ret
        exact ⟨rfl, rfl⟩
    · rw [hf] at hg
      cases hg
end Go.Proofs.Ytcpkoajnepijkaa
namespace Go.Proofs.Ytcpkoajnepijkaa
open Go.RowKit Go.Proofs.YtcpkoajnepijkaaL Go.Proofs.YtcpkoajnepijkaaW.PrintWords
theorem Fine.faultS {st : FS} (h : Fine st) : Fine (faultS st) := ⟨h.ops, h.fuse0, h.fuse1, by
  have := h.fault0
  show -1 ≤ (if st.fault - 1 < -1 then -1 else st.fault - 1)
  split <;> omega, by
  have := h.fault1
  show (if st.fault - 1 < -1 then -1 else st.fault - 1) ≤ _
  split <;> omega⟩
theorem named_true {s : ByteArray} {w : World} (hn : namedB s = true) : Calls Try.prog 43 #[.string s] w fun e w' => e = .returned (.bool true) ∧ w' = w :=
  (named_calls s w).mono fun e w' ⟨he, hw⟩ => ⟨by rw [he]; congr 2, hw⟩
set_option maxRecDepth 100000 in
set_option maxHeartbeats 1000000 in
theorem write_full {base : Nat} {Lz : Nat → Prop} {w : World} {F : Nat} {fp : Nat → Prop} {st : FS} (h : FRep base Lz w F fp st) (s : ByteArray) (A : Option Addr) (n c : Nat) (hd : st.down = false) (hn : namedB s = true) (hf : ∀ g, fnd s st.files = some g → st.sz g ≤ 65536) (h8 : fnd s st.files = none → st.files.length < 8) (hl : n ≤ 1000000)
    (hfull : ((fnd s st.files).map st.sz).getD 0 + n > 65536) :
    Calls Try.prog 23 #[ptr F, .string s, .slice A n c] w fun e w' => e = .returned (.int .i64 103) ∧ Below w.heap.size w w' := by
  obtain ⟨M, rv, cells, h⟩ := h
  have XN := Zz.mk (named_true (w := w) hn)
  have c0 := h.blk.cell 0 rfl
  have c5 := h.blk.cell 5 rfl
  have hlk := h.look s
  have hlen := h.lenM
  rw [hd] at c5
  rcases hlk with ⟨hfn, hlk⟩ | ⟨g, hfg, hg, hlk⟩
  · have h8' : ¬ (8 : Int) ≤ (st.files.length : Int) := by have := h8 hfn; omega
    rw [hfn] at hfull
    have hbig : 65536 < n := by simpa using hfull
    clear hd hn hf h8 hfull hfn h
    go_enter Try.func23, Try.ntmps23
    go_wp2_with (go_at_call 43; (with_reducible refine (XN.out).mono ?_); rintro e w2 ⟨rfl, rfl⟩)
    go_ret
    exact ⟨rfl, below_alloc (Below.refl _ _) _⟩
  · obtain ⟨v0, hi, _⟩ := h.ino g hg
    have k1 : w.cell? ⟨g, 1, none⟩ = some (.int .i64 (st.sz g)) := hi.cell 1 rfl
    have hz := hf g hfg
    rw [hfg] at hfull
    have hbig : (65536 : Int) < (st.sz g : Int) + (n : Int) := by simp at hfull; omega
    clear hd hn hf h8 hfull hfg h hi
    go_enter Try.func23, Try.ntmps23
    go_wp2_with (go_at_call 43; (with_reducible refine (XN.out).mono ?_); rintro e w2 ⟨rfl, rfl⟩)
    go_ret
    exact ⟨rfl, Below.refl _ _⟩
set_option maxRecDepth 100000 in
set_option maxHeartbeats 1000000 in
theorem write_fault {base : Nat} {Lz : Nat → Prop} {w : World} {F : Nat} {fp : Nat → Prop} {st : FS} (h : FRep base Lz w F fp st) (hfi : Fine st) (s : ByteArray) (A : Option Addr) (n c : Nat) (hd : st.down = false) (hn : namedB s = true) (hf : ∀ g, fnd s st.files = some g → st.sz g ≤ 65536) (h8 : fnd s st.files = none → st.files.length < 8) (hl : n ≤ 1000000)
    (hroom : ((fnd s st.files).map st.sz).getD 0 + n ≤ 65536) (hft : (st.fault == 0) = true) :
    Calls Try.prog 23 #[ptr F, .string s, .slice A n c] w fun e w' => e = .returned (.int .i64 (if (st.fuse == 0) = true then 100 else 102)) ∧ FRep base Lz w' F fp (opS (faultS st)) ∧ Only (· = F) w w' := by
  have HR := Zz.mk h
  have HFI := Zz.mk hfi
  obtain ⟨M, rv, cells, h⟩ := h
  have XN := Zz.mk (named_true (w := w) hn)
  have c0 := h.blk.cell 0 rfl
  have c5 := h.blk.cell 5 rfl
  have hlk := h.look s
  have hlen := h.lenM
  rw [hd] at c5
  have XQ : Zz (∀ w1, FRep base Lz w1 F fp st → Calls Try.prog 44 #[ptr F] w1 fun e w' => e = .returned (.bool true) ∧ FRep base Lz w' F fp (faultS st) ∧ Only (· = F) w1 w') := ⟨fun w1 h1 => by
    have := faulty_calls h1 hfi
    rw [hft] at this
    exact this⟩
  cases hfu : (st.fuse == 0) with
  | true =>
    have XO : Zz (∀ w1, FRep base Lz w1 F fp (faultS st) → Calls Try.prog 45 #[ptr F] w1 fun e w' => e = .returned (.bool false) ∧ FRep base Lz w' F fp (opS (faultS st)) ∧ Only (· = F) w1 w') := ⟨fun w1 h1 => by
      have := op_calls h1 hfi.faultS
      rw [show ((faultS st).fuse == 0) = true from hfu] at this
      exact this⟩
    rcases hlk with ⟨hfn, hlk⟩ | ⟨g, hfg, hg, hlk⟩
    · have h8' : ¬ (8 : Int) ≤ (st.files.length : Int) := by have := h8 hfn; omega
      rw [hfn] at hroom
      have hbig : ¬ 65536 < n := by simp at hroom; omega
      clear hd hn hf h8 hroom hfn h hft hfu hfi
      go_enter Try.func23, Try.ntmps23
      go_wp2_with (first
        | (go_at_call 43; (with_reducible refine (XN.out).mono ?_); rintro e w2 ⟨rfl, rfl⟩)
        | (go_at_call 44; (with_reducible refine (XQ.out _ (HR.out.below (below_alloc (Below.refl _ _) _))).mono ?_); rintro e w3 ⟨rfl, hr3, hb3⟩; have HR3 := Zz.mk hr3; have HB3 := Zz.mk hb3; clear hr3 hb3)
        | (go_at_call 45; (with_reducible refine (XO.out _ HR3.out).mono ?_); rintro e w4 ⟨rfl, hr4, hb4⟩; have HR4 := Zz.mk hr4; have HB4 := Zz.mk hb4; clear hr4 hb4))
      go_ret
      exact ⟨rfl, HR4.out, (((Only.refl _ _).alloc _).trans HB3.out (fun _ _ h => h)).trans HB4.out (fun _ _ h => h)⟩
    · obtain ⟨v0, hi, _⟩ := h.ino g hg
      have k1 : w.cell? ⟨g, 1, none⟩ = some (.int .i64 (st.sz g)) := hi.cell 1 rfl
      have hz := hf g hfg
      rw [hfg] at hroom
      have hbig : ¬ (65536 : Int) < (st.sz g : Int) + (n : Int) := by simp at hroom; omega
      clear hd hn hf h8 hroom hfg h hi hft hfu hfi
      go_enter Try.func23, Try.ntmps23
      go_wp2_with (first
        | (go_at_call 43; (with_reducible refine (XN.out).mono ?_); rintro e w2 ⟨rfl, rfl⟩)
        | (go_at_call 44; (with_reducible refine (XQ.out _ HR.out).mono ?_); rintro e w3 ⟨rfl, hr3, hb3⟩; have HR3 := Zz.mk hr3; have HB3 := Zz.mk hb3; clear hr3 hb3)
        | (go_at_call 45; (with_reducible refine (XO.out _ HR3.out).mono ?_); rintro e w4 ⟨rfl, hr4, hb4⟩; have HR4 := Zz.mk hr4; have HB4 := Zz.mk hb4; clear hr4 hb4))
      go_ret
      exact ⟨rfl, HR4.out, HB3.out.trans HB4.out (fun _ _ h => h)⟩
  | false =>
    have XO : Zz (∀ w1, FRep base Lz w1 F fp (faultS st) → Calls Try.prog 45 #[ptr F] w1 fun e w' => e = .returned (.bool true) ∧ FRep base Lz w' F fp (opS (faultS st)) ∧ Only (· = F) w1 w') := ⟨fun w1 h1 => by
      have := op_calls h1 hfi.faultS
      rw [show ((faultS st).fuse == 0) = false from hfu] at this
      exact this⟩
    rcases hlk with ⟨hfn, hlk⟩ | ⟨g, hfg, hg, hlk⟩
    · have h8' : ¬ (8 : Int) ≤ (st.files.length : Int) := by have := h8 hfn; omega
      rw [hfn] at hroom
      have hbig : ¬ 65536 < n := by simp at hroom; omega
      clear hd hn hf h8 hroom hfn h hft hfu hfi
      go_enter Try.func23, Try.ntmps23
      go_wp2_with (first
        | (go_at_call 43; (with_reducible refine (XN.out).mono ?_); rintro e w2 ⟨rfl, rfl⟩)
        | (go_at_call 44; (with_reducible refine (XQ.out _ (HR.out.below (below_alloc (Below.refl _ _) _))).mono ?_); rintro e w3 ⟨rfl, hr3, hb3⟩; have HR3 := Zz.mk hr3; have HB3 := Zz.mk hb3; clear hr3 hb3)
        | (go_at_call 45; (with_reducible refine (XO.out _ HR3.out).mono ?_); rintro e w4 ⟨rfl, hr4, hb4⟩; have HR4 := Zz.mk hr4; have HB4 := Zz.mk hb4; clear hr4 hb4))
      go_ret
      exact ⟨rfl, HR4.out, (((Only.refl _ _).alloc _).trans HB3.out (fun _ _ h => h)).trans HB4.out (fun _ _ h => h)⟩
    · obtain ⟨v0, hi, _⟩ := h.ino g hg
      have k1 : w.cell? ⟨g, 1, none⟩ = some (.int .i64 (st.sz g)) := hi.cell 1 rfl
      have hz := hf g hfg
      rw [hfg] at hroom
      have hbig : ¬ (65536 : Int) < (st.sz g : Int) + (n : Int) := by simp at hroom; omega
      clear hd hn hf h8 hroom hfg h hi hft hfu hfi
      go_enter Try.func23, Try.ntmps23
      go_wp2_with (first
        | (go_at_call 43; (with_reducible refine (XN.out).mono ?_); rintro e w2 ⟨rfl, rfl⟩)
        | (go_at_call 44; (with_reducible refine (XQ.out _ HR.out).mono ?_); rintro e w3 ⟨rfl, hr3, hb3⟩; have HR3 := Zz.mk hr3; have HB3 := Zz.mk hb3; clear hr3 hb3)
        | (go_at_call 45; (with_reducible refine (XO.out _ HR3.out).mono ?_); rintro e w4 ⟨rfl, hr4, hb4⟩; have HR4 := Zz.mk hr4; have HB4 := Zz.mk hb4; clear hr4 hb4))
      go_ret
      exact ⟨rfl, HR4.out, HB3.out.trans HB4.out (fun _ _ h => h)⟩
end Go.Proofs.Ytcpkoajnepijkaa

