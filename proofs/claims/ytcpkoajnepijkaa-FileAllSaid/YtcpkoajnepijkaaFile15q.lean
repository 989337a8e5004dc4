/- Parts of the proof of the law that the last file states; declarations that nothing mentions are left out by a program. No conditions. -/
import Derived.Deep.RegionHeld3
import Derived.Deep.AppendLies
import Derived.Test.YtcpkoajnepijkaaFileCq
set_option linter.unusedVariables false
set_option linter.unusedSimpArgs false
namespace Go.Proofs.Ytcpkoajnepijkaa
open Go.RowKit Go.Proofs.YtcpkoajnepijkaaL Go.Proofs.YtcpkoajnepijkaaW.PrintWords Go.MapKept
theorem copy_start {base : Nat} {Lz : Nat → Prop} {w : World} {st : FS} {rvc : Value} {M : Value} (hb : base ≤ w.heap.size) (hlz : ∀ g, Lz g → g < w.heap.size) :
    CopyRep base Lz w.heap.size ((((w.alloc (.cells #[.map (some (w.heap.size + 1)), rvc, .int .i64 st.ops, .int .i64 st.fuse, .int .i64 st.fault, .bool st.down] 67)).alloc (.map #[] 0)).alloc (.map #[] 0)).alloc (.cells #[.map (some (w.heap.size + 1 + 1))] 74))
      w.heap.size (w.heap.size + 1) (w.heap.size + 1 + 1) (w.heap.size + 1 + 1 + 1) st [] [] rvc (.slice none 0 0) [] [] := by
  have h1 := Blk.new w 67 #[.map (some (w.heap.size + 1)), rvc, .int .i64 st.ops, .int .i64 st.fuse, .int .i64 st.fault, .bool st.down]
  generalize hw1 : w.alloc (.cells #[.map (some (w.heap.size + 1)), rvc, .int .i64 st.ops, .int .i64 st.fuse, .int .i64 st.fault, .bool st.down] 67) = w1 at h1
  have s1 : w1.heap.size = w.heap.size + 1 := by rw [← hw1]; simp
  have h2 := MapStr.new w1
  rw [s1] at h2
  have h1' := h1.alloc (.map #[] 0)
  generalize hw2 : w1.alloc (.map #[] 0) = w2 at h2 h1'
  have s2 : w2.heap.size = w.heap.size + 1 + 1 := by rw [← hw2]; simp [s1]
  have h3 : (w2.alloc (.map #[] 0)).heap[w2.heap.size]? = some (.map #[] 0) := heap_alloc_new w2 _
  rw [s2] at h3
  have h2' := h2.to (Below.heap_alloc w2 (.map #[] 0) _ h2.lt)
  have h1'' := h1'.alloc (.map #[] 0)
  generalize hw3 : w2.alloc (.map #[] 0) = w3 at h3 h2' h1''
  have s3 : w3.heap.size = w.heap.size + 1 + 1 + 1 := by rw [← hw3]; simp [s2]
  have h4 := Blk.new w3 74 #[.map (some (w.heap.size + 1 + 1))]
  rw [s3] at h4
  refine ⟨h1''.alloc _, h2'.to (Below.heap_alloc w3 _ _ h2'.lt), ⟨#[], 0, (Below.heap_alloc w3 _ _ (by omega)).trans h3, rfl⟩, h4, own_nil _ _ _ _, trivial, (fun p hp => by cases hp), (by simp), by omega, by omega, by omega, by omega, hb, (by simp; omega), hlz⟩
theorem iter_ne_map {w : World} {r M Mc : Nat} {l left l2 : List (ByteArray × Value)} (h : Iter w r M l left) (hm : MapStr w Mc l2) : Mc ≠ r := by
  obtain ⟨es, clock, seen, c0, since, a1, a2, a3, a4, a5⟩ := h
  obtain ⟨es', clock', b1, _⟩ := hm
  intro e
  subst e
  rw [b1] at a4
  cases a4
theorem iter_ne_ptr {w : World} {r M N : Nat} {l left : List (ByteArray × Value)} {l2 : List (Nat × Nat)} (h : Iter w r M l left) (hm : MapPtr w N l2) : N ≠ r := by
  obtain ⟨es, clock, seen, c0, since, a1, a2, a3, a4, a5⟩ := h
  obtain ⟨es', clock', b1, _⟩ := hm
  intro e
  subst e
  rw [b1] at a4
  cases a4
theorem put_snoc {β : Type} {s : ByteArray} {v : β} : ∀ {l : List (ByteArray × β)}, s ∉ l.map (·.1) → put s v l = l ++ [(s, v)]
  | [], _ => rfl
  | p :: l, h => by
    simp only [List.map_cons, List.mem_cons, not_or] at h
    rw [put, if_neg (fun e => h.1 e.symm), put_snoc h.2]
    rfl
theorem perm_erase {α : Type} : ∀ {l : List α} {j : Nat} (hj : j < l.length), (l[j] :: l.eraseIdx j).Perm l
  | [], j, hj => by simp at hj
  | x :: l, 0, _ => List.Perm.refl _
  | x :: l, j + 1, hj => (List.Perm.swap x (l[j]'(by simpa using hj)) (l.eraseIdx j)).trans (List.Perm.cons x (perm_erase (by simpa using hj)))
theorem below_only {B r : Nat} {a w w' : World} (h : Below B a w) (ho : Only (· = r) w w') (hr : B ≤ r) (hB : B ≤ w.heap.size) : Below B a w' :=
  ⟨ho.os.trans h.os, ho.tape.trans h.tape, ho.output.trans h.output, Nat.le_trans h.size ho.size, fun k hk => (ho.block k (by omega) (fun e => by omega)).trans (h.block k hk)⟩
theorem rho_grows {l l' : List (Nat × Nat)} {g k : Nat} (h : fndN g l = some k) (hl : l' = l ∨ ∃ r, l' = l ++ r) : fndN g l' = some k := by
  rcases hl with rfl | ⟨r, rfl⟩
  · exact h
  · exact fndN_keep h
theorem copy_file {base : Nat} {Lz : Nat → Prop} {B : Nat} {w : World} {C Mc N X : Nat} {st : FS} {l l' : List (Nat × Nat)} {dn : List (ByteArray × Nat)} {rvc rv : Value} {row : List Wr} {cells : List Value} (h : CopyRep base Lz B w C Mc N X st l' (dn.map fun p => (p.1, rho l p.2)) rvc rv row cells) (hMN : Mc ≠ N)
    (hdn : ∀ p ∈ dn, ∃ k, fndN p.2 l = some k) (hl : l' = l ∨ ∃ r, l' = l ++ r) {nm : ByteArray} (hn : nm ∉ dn.map (·.1)) {g k : Nat} (hk : fndN g l' = some k) :
    ∃ w', (Instr.mapUpdate 64 (.map (some Mc)) (.string nm) (ptr k)).run Try.prog w = .ok () w' ∧ CopyRep base Lz B w' C Mc N X st l' ((dn ++ [(nm, g)]).map fun p => (p.1, rho l' p.2)) rvc rv row cells ∧ w.grownBy w' (some Mc) := by
  have e1 : (dn.map fun p => (p.1, rho l p.2)) = dn.map fun p => (p.1, rho l' p.2) := by
    refine List.map_congr_left (fun p hp => ?_)
    obtain ⟨k', hk'⟩ := hdn p hp
    simp [rho, hk', rho_grows hk' hl]
  rw [e1] at h
  obtain ⟨w', hup, hm, hg⟩ := h.map.update (P := Try.prog) Try.underlying64 Try.underlying9 nm (ptr k)
  refine ⟨w', hup, h.addFile hMN hg ?_, hg⟩
  rw [put_snoc (by simpa [List.map_map, Function.comp_def] using hn)] at hm
  simpa [List.map_append, rho, hk] using hm
theorem copy_row {base : Nat} {Lz : Nat → Prop} {B : Nat} {w w7 : World} {C Mc N X : Nat} {st : FS} {l : List (Nat × Nat)} {files : List (ByteArray × Nat)} {rv : Value} {row : List Wr} {cells : List Value} (h : CopyRep base Lz B w C Mc N X st l files rv rv row cells) {k a : Nat} {v : Value} {b : List Int} (hv : RB base Lz w v b)
    (hgr : (w.alloc (.cells #[ptr k, .int .i64 a, v] 80)).grownBy w7 rv.ownBlock) {gg cap : Nat}
    (hown7 : w7.ownsRow B 80 3 (.slice (some ⟨gg, 0, none⟩) (row.length + 1) cap) (row.length + 1) (cells ++ [ptr k, .int .i64 a, v]))
    (hat : rv.ownBlock = some gg ∨ gg = w.heap.size + 1) :
    CopyRep base Lz B (w7.setCell ⟨C, 1, none⟩ (.slice (some ⟨gg, 0, none⟩) (row.length + 1) cap)) C Mc N X st l files (.slice (some ⟨gg, 0, none⟩) (row.length + 1) cap) (.slice (some ⟨gg, 0, none⟩) (row.length + 1) cap) (row ++ [⟨k, a, b⟩]) (cells ++ [ptr k, .int .i64 a, v]) := by
  have hoC := own_blk_ne h.row h.blk (by decide)
  have hCl := h.blk.lt
  let G : Nat → Prop := fun k => k = C ∨ rv.ownBlock = some k
  have o7 : Only G w w7 := ((Only.refl G w).alloc _).grown hgr (fun k e => .inl (.inr e))
  have o8 : Only G w (w7.setCell ⟨C, 1, none⟩ (.slice (some ⟨gg, 0, none⟩) (row.length + 1) cap)) := o7.setCell (p := ⟨C, 1, none⟩) (.inl (.inl rfl)) _
  have hC7 : Blk w7 C 67 _ := (h.blk.alloc _).to (hgr.block C (by simp; omega) (Ne.symm hoC))
  have hggC : gg ≠ C := by
    rcases hat with e | e
    · intro e2; subst e2; exact hoC e
    · omega
  have hGm : Mut base w G := fun k hk => by
    rcases hk with rfl | hk
    · exact ⟨Nat.le_trans h.hB h.geC, T5_blk h.blk (by decide)⟩
    · refine ⟨Nat.le_trans h.hB (own_base h.row k hk), ?_⟩
      rintro ⟨c5, fr, h5⟩
      obtain ⟨cs', hh'⟩ := own_typed h.row k hk
      rw [hh'] at h5
      injection h5 with h5
      injection h5 with _ h5
      exact absurd h5 (by decide)
  refine h.newRow o8 (by simpa using hC7.set_ 1 (.slice (some ⟨gg, 0, none⟩) (row.length + 1) cap)) ?_ (RowIs.snoc (x := ⟨k, a, b⟩) (hv.only o8 hGm) (RowIs.imp (fun v xs hv => hv.only o8 hGm) h.rowIs))
  have := row_only hown7 ((Only.refl (· = C) w7).set1 1 (.slice (some ⟨gg, 0, none⟩) (row.length + 1) cap)) (fun k e hk => by
    injection e with e
    exact hggC (e.trans hk))
  simpa using this
theorem below_onlyG {B : Nat} {G : Nat → Prop} {a w w' : World} (h : Below B a w) (ho : Only G w w') (hr : ∀ k, G k → B ≤ k) (hB : B ≤ w.heap.size) : Below B a w' :=
  ⟨ho.os.trans h.os, ho.tape.trans h.tape, ho.output.trans h.output, Nat.le_trans h.size ho.size, fun k hk => (ho.block k (by omega) (fun e => by have := hr k e; omega)).trans (h.block k hk)⟩
theorem copy_rows {row : List Wr} {i : Nat} {l l' : List (Nat × Nat)} (hrn : ∀ x ∈ row.take i, ∃ k, fndN x.tgt l = some k) (hl : l' = l ∨ ∃ r, l' = l ++ r) (hlt : i < row.length) {k : Nat} (hk : fndN row[i].tgt l' = some k) :
    (row.take i).map (rhoW l) ++ [⟨k, row[i].at_, row[i].b⟩] = (row.take (i + 1)).map (rhoW l') := by
  have e1 : (row.take i).map (rhoW l) = (row.take i).map (rhoW l') := by
    refine List.map_congr_left (fun x hx => ?_)
    obtain ⟨k', hk'⟩ := hrn x hx
    simp [rhoW, rho, hk', rho_grows hk' hl]
  rw [e1, List.take_succ_eq_append_getElem hlt, List.map_append]
  simp [rhoW, rho, hk]
theorem fnd_of_mem {β : Type} {s : ByteArray} {b : β} : ∀ {l : List (ByteArray × β)}, (l.map (·.1)).Nodup → (s, b) ∈ l → fnd s l = some b
  | [], _, h => by cases h
  | p :: l, hn, h => by
    rw [List.map_cons, List.nodup_cons] at hn
    rcases List.mem_cons.1 h with h | h
    · subst h; simp [fnd]
    · have : p.1 ≠ s := fun e => hn.1 (e ▸ List.mem_map.2 ⟨_, h, rfl⟩)
      rw [fnd, if_neg this]
      exact fnd_of_mem hn.2 h
theorem fnd_perm {β : Type} {s : ByteArray} {l l' : List (ByteArray × β)} (hp : l.Perm l') (hn : (l'.map (·.1)).Nodup) : fnd s l = fnd s l' := by
  have hn' : (l.map (·.1)).Nodup := (hp.map (·.1)).nodup_iff.2 hn
  cases h : fnd s l with
  | some b => exact (fnd_of_mem hn (hp.mem_iff.1 (fnd_mem h))).symm
  | none =>
    cases h' : fnd s l' with
    | none => rfl
    | some b => rw [fnd_of_mem hn' (hp.mem_iff.2 (fnd_mem h'))] at h; cases h
theorem copy_ends {base : Nat} {Lz : Nat → Prop} {B : Nat} {w : World} {C Mc N X : Nat} {st : FS} {l : List (Nat × Nat)} {dn : List (ByteArray × Nat)} {rv : Value} {cells : List Value} (h : CopyRep base Lz B w C Mc N X st l (dn.map fun p => (p.1, rho l p.2)) rv rv (st.row.map (rhoW l)) cells)
    (hp : dn.Perm st.files) (hn : (st.files.map (·.1)).Nodup) (hdn : ∀ p ∈ dn, ∃ k, fndN p.2 l = some k) (hrn : ∀ x ∈ st.row, ∃ k, fndN x.tgt l = some k) :
    ∃ fp' st', FRep base Lz w C fp' st' ∧ Copied st st' ∧ ∀ k, fp' k → B ≤ k := by
  have hrho : ∀ g k, fndN g l = some k → rho l g = k ∧ k ∈ l.map (·.2) ∧ back l k = some g := fun g k hk => by
    have hm := fndN_mem hk
    exact ⟨by simp [rho, hk], List.mem_map.2 ⟨_, hm, rfl⟩, back_of h.nod hm⟩
  have hused : ∀ g, ((∃ s, fnd s st.files = some g) ∨ ∃ x ∈ st.row, x.tgt = g) → ∃ k, fndN g l = some k := fun g hg => by
    rcases hg with ⟨s, hs⟩ | ⟨x, hx, rfl⟩
    · exact hdn _ (hp.mem_iff.2 (fnd_mem hs))
    · exact hrn x hx
  refine ⟨fun k => k = C ∨ k = Mc ∨ rv.ownBlock = some k ∨ k ∈ l.map (·.2), { files := dn.map fun p => (p.1, rho l p.2), live := l.map (·.2), sb := fun k => ((back l k).map st.sb).getD [], sz := fun k => ((back l k).map st.sz).getD 0, row := st.row.map (rhoW l), ops := st.ops, fuse := st.fuse, fault := st.fault, down := st.down }, ⟨Mc, rv, cells, ?_⟩, ?_, ?_⟩
  · refine ⟨h.blk, h.map, own_lower h.row h.hB, h.rowIs, fun g hg => ?_, fun p hp => ?_, fun x hx => ?_, .inl rfl, .inr (.inl rfl), fun k hk => .inr (.inr (.inl hk)), fun g hg => .inr (.inr (.inr hg)), fun g hg => ?_, fun g hg => ?_, Nat.le_trans h.hB h.hBw, fun g hg => Nat.lt_of_lt_of_le (h.lzB g hg) h.hBw⟩
    · obtain ⟨p, hpl, rfl⟩ := List.mem_map.1 hg
      obtain ⟨_, v, hb, hr⟩ := h.inos p hpl
      simp only [back_of h.nod hpl, Option.map_some, Option.getD_some]
      exact ⟨v, hb, hr⟩
    · obtain ⟨q, hq, rfl⟩ := List.mem_map.1 hp
      obtain ⟨k, hk⟩ := hdn q hq
      rw [(hrho _ _ hk).1]
      exact (hrho _ _ hk).2.1
    · obtain ⟨y, hy, rfl⟩ := List.mem_map.1 hx
      obtain ⟨k, hk⟩ := hrn y hy
      show rho l y.tgt ∈ _
      rw [(hrho _ _ hk).1]
      exact (hrho _ _ hk).2.1
    · rcases hg with rfl | rfl | hg | hg
      · exact ⟨Nat.le_trans h.hB h.geC, T5_blk h.blk (by decide)⟩
      · exact ⟨Nat.le_trans h.hB h.geM, T5_map h.map⟩
      · refine ⟨Nat.le_trans h.hB (own_base h.row g hg), ?_⟩
        rintro ⟨c5, fr, h5⟩
        obtain ⟨cs', hh'⟩ := own_typed h.row g hg
        rw [hh'] at h5
        injection h5 with h5
        injection h5 with _ h5
        exact absurd h5 (by decide)
      · obtain ⟨p, hpl, rfl⟩ := List.mem_map.1 hg
        obtain ⟨hb0, v, hb, hr⟩ := h.inos p hpl
        exact ⟨Nat.le_trans h.hB hb0, T5_blk hb (by decide)⟩
    · rcases hg with rfl | rfl | hg | hg
      · exact h.blk.lt
      · exact h.map.lt
      · exact own_lt h.row g hg
      · obtain ⟨p, hpl, rfl⟩ := List.mem_map.1 hg
        obtain ⟨_, v, hb, hr⟩ := h.inos p hpl
        exact hb.lt
  · refine ⟨rho l, fun s => ?_, ?_, rfl, fun g g' hg hg' e => ?_, fun g hg => ?_, fun g => ?_, fun g => ?_, rfl, rfl, rfl, rfl⟩
    · rw [fnd_map, fnd_perm hp hn]
    · simp [hp.length_eq]
    · obtain ⟨k, hk⟩ := hused g hg
      obtain ⟨k', hk'⟩ := hused g' hg'
      rw [(hrho _ _ hk).1, (hrho _ _ hk').1] at e
      have h1 := (hrho _ _ hk).2.2
      rw [e, (hrho _ _ hk').2.2] at h1
      exact (Option.some.inj h1).symm
    · obtain ⟨k, hk⟩ := hused g hg
      simp only [(hrho _ _ hk).1, (hrho _ _ hk).2.2, Option.map_some, Option.getD_some, and_self]
    · cases hb : back l g with
      | none => left; simp [hb]
      | some g0 => exact .inr ⟨g0, by simp [hb]⟩
    · cases hb : back l g with
      | none => left; simp [hb]
      | some g0 => exact .inr ⟨g0, by simp [hb]⟩
  · rintro k (rfl | rfl | hk | hk)
    · exact h.geC
    · exact h.geM
    · exact own_base h.row k hk
    · obtain ⟨p, hpl, rfl⟩ := List.mem_map.1 hk
      exact (h.inos p hpl).1
set_option maxRecDepth 100000 in
set_option maxHeartbeats 4000000 in
theorem copy_calls {base : Nat} {Lz : Nat → Prop} {w : World} {F : Nat} {fp : Nat → Prop} {st : FS} (h : FRep base Lz w F fp st) (hs : Sized st) :
    Calls Try.prog 19 #[ptr F] w fun e w' => ∃ C fp' st', e = .returned (ptr C) ∧ FRep base Lz w' C fp' st' ∧ Copied st st' ∧ (∀ k, fp' k → w.heap.size ≤ k) ∧ Below w.heap.size w w' := by
  have hmm : ∀ W : World, (Instr.makeMap 64 none).run Try.prog W = .ok (.map (some W.heap.size)) (W.alloc (.map #[] 0)) := fun W => by rw [run_makeMap]
  have hmn : ∀ W : World, (Instr.makeMap 74 none).run Try.prog W = .ok (.map (some W.heap.size)) (W.alloc (.map #[] 0)) := fun W => by rw [run_makeMap]
  obtain ⟨M, rv, cells, h⟩ := h
  obtain ⟨A, c, hrv, hc⟩ := own_slice h.row
  subst hrv
  have c0 := h.blk.cell 0 (v := .map (some M)) rfl
  have c1 := h.blk.cell 1 (v := .slice A st.row.length c) rfl
  have c2 := h.blk.cell 2 (v := .int .i64 st.ops) rfl
  have c3 := h.blk.cell 3 (v := .int .i64 st.fuse) rfl
  have c4 := h.blk.cell 4 (v := .int .i64 st.fault) rfl
  have c5 := h.blk.cell 5 (v := .bool st.down) rfl
  have hF := h.blk.lt
  have H := Zz.mk h
  have HS := Zz.mk hs
  have HCR := Zz.mk (copy_start (st := st) (rvc := .slice A st.row.length c) (M := .map none) h.hbase h.lz)
  have hbw : Below w.heap.size w ((((w.alloc (.cells #[.map (some (w.heap.size + 1)), .slice A st.row.length c, .int .i64 st.ops, .int .i64 st.fuse, .int .i64 st.fault, .bool st.down] 67)).alloc (.map #[] 0)).alloc (.map #[] 0)).alloc (.cells #[.map (some (w.heap.size + 1 + 1))] 74)) := below_alloc (below_alloc (below_alloc (below_alloc (Below.refl _ _) _) _) _) _
  have k0 := (hbw.cell (p := ⟨F, 0, none⟩) hF).trans c0
  have HM4 := Zz.mk (h.map.to (hbw.block _ h.map.lt))
  have HBW := Zz.mk hbw
  clear h hs hbw
  go_enter Try.func19, Try.ntmps19
  go_wp2_with (first | (refine wpList_range_str HM4.out rfl _ rfl Try.underlying64 rfl ?_; intro o2 hit2; have HIT2 := Zz.mk hit2; clear hit2))
  have HCR5 := Zz.mk (HCR.out.below (below_alloc (Below.refl _ _) o2))
  have HBW5 := Zz.mk (below_alloc HBW.out o2)
  have hr0 : ((((w.alloc (.cells #[.map (some (w.heap.size + 1)), .slice A st.row.length c, .int .i64 st.ops, .int .i64 st.fuse, .int .i64 st.fault, .bool st.down] 67)).alloc (.map #[] 0)).alloc (.map #[] 0)).alloc (.cells #[.map (some (w.heap.size + 1 + 1))] 74)).heap.size = w.heap.size + 1 + 1 + 1 + 1 := by simp
  rw [hr0] at HIT2 ⊢
  clear hr0 HCR HBW HM4 hmm hmn k0
  generalize ((((w.alloc (.cells #[.map (some (w.heap.size + 1)), .slice A st.row.length c, .int .i64 st.ops, .int .i64 st.fuse, .int .i64 st.fault, .bool st.down] 67)).alloc (.map #[] 0)).alloc (.map #[] 0)).alloc (.cells #[.map (some (w.heap.size + 1 + 1))] 74)).alloc o2 = w5 at HIT2 HCR5 HBW5 ⊢
  obtain ⟨B, hB⟩ : ∃ B, B = w.heap.size := ⟨_, rfl⟩
  rw [← hB] at HIT2 HCR5 HBW5 ⊢
  have HNE : Zz (B + 1 ≠ B + 1 + 1 ∧ B ≤ B + 1 + 1 + 1 + 1) := ⟨by omega, by omega⟩
  generalize B + 1 + 1 + 1 + 1 = r0 at HIT2 HNE ⊢
  generalize B + 1 + 1 + 1 = X at HCR5 ⊢
  generalize B + 1 + 1 = N at HCR5 HNE ⊢
  generalize B + 1 = Mc at HCR5 HNE ⊢
  obtain ⟨C, hC⟩ : ∃ C, C = B := ⟨_, rfl⟩
  rw [show (.pointer (some ⟨B, 0, none⟩) : Value) = .pointer (some ⟨C, 0, none⟩) from by rw [hC]]
  have HCR6 : Zz (CopyRep base Lz B w5 C Mc N X st [] [] (.slice A st.row.length c) (.slice none 0 0) [] []) := ⟨hC ▸ HCR5.out⟩
  have HB := Zz.mk hB
  clear HCR5
  have HPF : Zz (∀ p ∈ st.files, p.2 ∈ st.live) := ⟨H.out.filesLive⟩
  have HND : Zz ((st.files.map (·.1)).Nodup) := ⟨by have := H.out.map.nodup; rwa [List.map_map] at this⟩
  clear hB hC
  simp only [Act.put, List.setIfInBounds_toArray, List.set_cons_zero, List.set_cons_succ]
  go_loopg [7] st.files.length (fun kq v7 w' => ∃ (lf : List (ByteArray × Nat)) (l : List (Nat × Nat)) (dn : List (ByteArray × Nat)), Zz (lf.length = kq) ∧ Zz (Iter w' r0 M (st.files.map fun p => (p.1, ptr p.2)) (lf.map fun p => (p.1, ptr p.2))) ∧ Zz ((dn ++ lf).Perm st.files) ∧
    Zz (CopyRep base Lz B w' C Mc N X st l (dn.map fun p => (p.1, rho l p.2)) (.slice A st.row.length c) (.slice none 0 0) [] []) ∧ Zz (∀ p ∈ dn, ∃ k, fndN p.2 l = some k) ∧ Zz (∀ p ∈ l, p.1 ∈ st.live) ∧ Zz (Below B w w'))
  case atStart => exact ⟨st.files, [], [], ⟨rfl⟩, HIT2, ⟨List.Perm.refl _⟩, HCR6, ⟨fun p hp => by cases hp⟩, ⟨fun p hp => by cases hp⟩, HBW5⟩
  case round =>
    obtain ⟨lf, l, dn, HLEN, HIT, HPERM, HCR, HDN, HLL, HBW⟩ := hrel
    go_wp2_with (first | (refine wpList_next_str HIT.out rfl _ rfl rfl ?_ ?_))
    · intro h0
      have h0' : lf = [] := by simpa using h0
      subst h0'
      have hFB : F < B := by have := HB.out; omega
      have kC1 := HCR.out.blk.cell 1 (v := .slice A st.row.length c) rfl
      have fC1 := HCR.out.blk.frozen 1
      have hCF : ¬ C = F := by have := HCR.out.geC; omega
      have f1' : (wr.setCell ⟨C, 1, none⟩ (.slice none 0 0)).cell? ⟨F, 1, none⟩ = some (.slice A st.row.length c) := by
        rw [World.cell?_setCell_far _ _ _ _ hCF]
        exact (HBW.out.cell (p := ⟨F, 1, none⟩) hFB).trans c1
      have hset : Only (· = C) wr (wr.setCell ⟨C, 1, none⟩ (.slice none 0 0)) := (Only.refl _ wr).set1 1 _
      have HCR8 := Zz.mk (HCR.out.newRow (rv' := .slice none 0 0) (row' := []) (cells' := []) (hset.mono (fun k _ e => .inl e)) (HCR.out.blk.set_ 1 _) (own_nil _ _ _ _) trivial)
      have HBW8 := Zz.mk (below_only HBW.out hset HCR.out.geC HCR.out.hBw)
      clear hset
      go_wp2_with fail
      generalize wr.setCell ⟨C, 1, none⟩ (.slice none 0 0) = w8 at HCR8 HBW8 ⊢
      clear HCR HBW kC1 fC1 f1' HIT HLEN
      go_loopg [39] st.row.length (fun kq v39 w' => ∃ (i : Nat) (l : List (Nat × Nat)) (rv : Value) (cells : List Value), i + kq = st.row.length ∧ v39 = .int .i64 i ∧ Zz (CopyRep base Lz B w' C Mc N X st l (dn.map fun p => (p.1, rho l p.2)) rv rv ((st.row.take i).map (rhoW l)) cells) ∧
        Zz (∀ p ∈ dn, ∃ k, fndN p.2 l = some k) ∧ Zz (∀ x ∈ st.row.take i, ∃ k, fndN x.tgt l = some k) ∧ Zz (∀ p ∈ l, p.1 ∈ st.live) ∧ Zz (Below B w w'))
      case atStart => exact ⟨0, l, _, _, by omega, rfl, HCR8, HDN, ⟨fun x hx => by cases hx⟩, HLL, HBW8⟩
      case round =>
        obtain ⟨i, l2, rv2, cells2, hi, rfl, HCR, HDN, HRN, HLL, HBW⟩ := hrel
        cases gk with
        | zero =>
          have e1 : decide (i < st.row.length) = false := decide_eq_false (by omega)
          have HI := Zz.mk hi
          clear hi
          go_wp2
          go_ret
          have htk : st.row.take i = st.row := List.take_of_length_le (by have := HI.out; omega)
          have hcr := HCR.out
          rw [htk] at hcr
          obtain ⟨fp', st', e1, e2, e3⟩ := copy_ends hcr (by have := HPERM.out; rwa [List.append_nil] at this) HND.out HDN.out (fun x hx => HRN.out x (by rw [htk]; exact hx))
          have hwB := HB.out
          exact ⟨C, fp', st', rfl, e1, e2, fun k hk => by have := e3 k hk; omega, ⟨HBW.out.os, HBW.out.tape, HBW.out.output, HBW.out.size, fun k hk => HBW.out.block k (by omega)⟩⟩
        | succ d =>
          have hlt : i < st.row.length := by omega
          have e1 : decide (i < st.row.length) = true := decide_eq_true hlt
          have hwB := HB.out
          have hbww : Below w.heap.size w wr := ⟨HBW.out.os, HBW.out.tape, HBW.out.output, HBW.out.size, fun k hk => HBW.out.block k (by omega)⟩
          obtain ⟨R, vb, rfl, r0, r1, r2, hvb⟩ := H.out.rowCell hbww rfl hlt
          obtain ⟨Ab, cb, rfl⟩ : ∃ Ab cb, vb = .slice Ab st.row[i].b.length cb := by obtain ⟨Ab, cb, e, _⟩ := hvb; exact ⟨Ab, cb, e⟩
          have HI := Zz.mk hi
          have HVB := Zz.mk hvb
          obtain ⟨t, ht⟩ : ∃ t, t = st.row[i].tgt := ⟨_, rfl⟩
          rw [← ht] at r0
          have HLVT : Zz (t ∈ st.live) := ⟨ht ▸ H.out.rowLive _ (List.getElem_mem hlt)⟩
          have HT := Zz.mk ht
          obtain ⟨row2, hrow2⟩ : ∃ row2, row2 = (st.row.take i).map (rhoW l2) := ⟨_, rfl⟩
          have HCR2 : Zz (CopyRep base Lz B wr C Mc N X st l2 (dn.map fun p => (p.1, rho l2 p.2)) rv2 rv2 row2 cells2) := ⟨by rw [hrow2]; exact HCR.out⟩
          have hlen2 : row2.length = i := by rw [hrow2, List.length_map, List.length_take]; omega
          have HROW2 := Zz.mk hrow2
          have HLEN2 := Zz.mk hlen2
          clear hi hvb ht hrow2 hlen2 HCR
          obtain ⟨Ar, cr, hrv, hcr⟩ := own_slice HCR2.out.row
          subst hrv
          have hbwa : Below B w (wr.alloc (.cells #[ptr t, .int .i64 st.row[i].at_, .slice Ab st.row[i].b.length cb] 80)).drew := below_drew (HBW.out.alloc HCR2.out.hBw _)
          have hcra := (HCR2.out.below (below_alloc (Below.refl _ _) (.cells #[ptr t, .int .i64 st.row[i].at_, .slice Ab st.row[i].b.length cb] 80))).below (below_drew (Below.refl _ _))
          have hisc : ∀ g ∈ st.live, IsC (wr.alloc (.cells #[ptr t, .int .i64 st.row[i].at_, .slice Ab st.row[i].b.length cb] 80)).drew g := fun g hg => by
            obtain ⟨v, hb, _⟩ := H.out.ino g hg
            exact ⟨_, _, hb.to (hbwa.block g (by have := hb.lt; omega))⟩
          obtain ⟨vg, hig, hrg⟩ := H.out.ino t HLVT.out
          have XA := Zz.mk (anew_calls (base := base) (Lz := Lz) hcra.x rfl hcra.mp (fun p hp => hisc _ (HLL.out p hp)) (hig.to (hbwa.block t (by have := hig.lt; omega))) (hrg.below ⟨hbwa.os, hbwa.tape, hbwa.output, hbwa.size, fun k hk => hbwa.block k (by omega)⟩) (by have := HS.out.sb t HLVT.out; omega) (Nat.le_trans hcra.hB hcra.geN) (fun k hk => Nat.lt_of_lt_of_le (hcra.lzB k hk) hcra.hBw))
          have HCRA := Zz.mk hcra
          have HBWA := Zz.mk hbwa
          have hbn : Blk (wr.alloc (.cells #[ptr t, .int .i64 st.row[i].at_, .slice Ab st.row[i].b.length cb] 80)) wr.heap.size 80 _ := Blk.new wr 80 #[ptr t, .int .i64 st.row[i].at_, .slice Ab st.row[i].b.length cb]
          have y0 := hbn.cell 0 (v := ptr t) rfl
          have y1 := hbn.cell 1 (v := .int .i64 st.row[i].at_) rfl
          have y2 := hbn.cell 2 (v := .slice Ab st.row[i].b.length cb) rfl
          have kC : (wr.alloc (.cells #[ptr t, .int .i64 st.row[i].at_, .slice Ab st.row[i].b.length cb] 80)).cell? ⟨C, 1, none⟩ = some (.slice Ar row2.length cr) := hcra.blk.cell 1 rfl
          have hVN : wr.heap.size ≠ N := fun e => hcra.mp.ne_blk (t := 80) (g := wr.heap.size) hbn e.symm
          have hCl := HCR2.out.blk.lt
          have hCV : C ≠ wr.heap.size := by omega
          have HOV : Zz ((Value.slice Ar row2.length cr).ownBlock ≠ some wr.heap.size) := ⟨fun e => by have := own_lt HCR2.out.row _ e; omega⟩
          have hVl : wr.heap.size < (wr.alloc (.cells #[ptr t, .int .i64 st.row[i].at_, .slice Ab st.row[i].b.length cb] 80)).drew.heap.size := by simp
          obtain ⟨i0, hi0, hz0, hz1, hz2⟩ := info_parts info80
          have HII := Zz.mk hi0
          have HZ := Zz.mk hz0
          have HZ1 := Zz.mk hz1
          have HZ2 := Zz.mk hz2
          have hrows := HS.out.rows
          clear hbwa hcra hisc hig hrg hbn hi0 hz0 hz1 hz2
          go_wp2_with fail
          refine wp_region_noPanic ?_
          refine wp_region_held_drew (S := (fun w' => w'.cell? ⟨wr.heap.size, 0, none⟩ = some (ptr t) ∧ w'.cell? ⟨wr.heap.size, 1, none⟩ = some (.int .i64 st.row[i].at_) ∧ w'.cell? ⟨wr.heap.size, 2, none⟩ = some (.slice Ab st.row[i].b.length cb))) (by kernel_rfl) ?_ (fun hHeld => ?_)
          · (first | (dsimp only; go_keep) | go_keep | (refine ⟨?_, ?_, ?_⟩ <;> assumption) | (go_split_ands; refine ⟨?_, ?_, ?_⟩ <;> (rw [World.cell?_setCell_far _ _ _ _ hCV]; assumption)) | (go_split_ands; refine ⟨?_, ?_, ?_⟩ <;> (rw [HGR.out.cell_far _ (by have := hsz6.out; simp; omega) (Ne.symm HOV.out)]; assumption)))
          refine wpAnyH_take (i := 0) (v := ?v1) rfl (by kernel_rfl) (by kernel_rfl) (by kernel_rfl) (fun _ _ _ h => h) (Or.inl ⟨by rfl, ?hy1⟩) (by assumption) ?rest1
          case hy1 => (intro w hSw; (try dsimp only at hSw); go_simp; try (with_reducible rfl))
          case rest1 =>
          try simp only [Act.put, List.setIfInBounds_toArray, List.set_cons_zero, List.set_cons_succ]
          refine wpAnyH_take (i := 2) (v := ?v2) rfl (by kernel_rfl) (by kernel_rfl) (by kernel_rfl) (fun _ _ _ h => h) (Or.inl ⟨by rfl, ?hy2⟩) (by assumption) ?rest2
          case hy2 => (intro w hSw; (try dsimp only at hSw); go_simp; try (with_reducible rfl))
          case rest2 =>
          try simp only [Act.put, List.setIfInBounds_toArray, List.set_cons_zero, List.set_cons_succ]
          refine wpAnyH_take (i := 3) (v := ?v3) rfl (by kernel_rfl) (by kernel_rfl) (by kernel_rfl) (fun _ _ _ h => h) (Or.inl ⟨by rfl, ?hy3⟩) (by assumption) ?rest3
          case hy3 => (intro w hSw; (try dsimp only at hSw); go_simp; try (with_reducible rfl))
          case rest3 =>
          try simp only [Act.put, List.setIfInBounds_toArray, List.set_cons_zero, List.set_cons_succ]
          refine wpAnyH_take (i := 4) (v := ?v4) rfl (by kernel_rfl) (by kernel_rfl) (by kernel_rfl) (fun _ _ _ h => h) (Or.inl ⟨by rfl, ?hy4⟩) (by assumption) ?rest4
          case hy4 => (intro w hSw; (try dsimp only at hSw); go_simp; try (with_reducible rfl))
          case rest4 =>
          try simp only [Act.put, List.setIfInBounds_toArray, List.set_cons_zero, List.set_cons_succ]
          refine wpAnyH_take (i := 6) (v := ?v5) rfl (by kernel_rfl) (by kernel_rfl) (by kernel_rfl) (fun _ _ _ h => h) (Or.inl ⟨by rfl, ?hy5⟩) (by assumption) ?rest5
          case hy5 => (intro w hSw; (try dsimp only at hSw); go_simp; try (with_reducible rfl))
          case rest5 =>
          try simp only [Act.put, List.setIfInBounds_toArray, List.set_cons_zero, List.set_cons_succ]
          refine wpAnyH_take (i := 7) (v := ?v6) rfl (by kernel_rfl) (by kernel_rfl) (by kernel_rfl) (fun _ _ _ h => h) (Or.inl ⟨by rfl, ?hy6⟩) (by assumption) ?rest6
          case hy6 => (intro w hSw; (try dsimp only at hSw); go_simp; try (with_reducible rfl))
          case rest6 =>
          try simp only [Act.put, List.setIfInBounds_toArray, List.set_cons_zero, List.set_cons_succ]
          refine wpAnyH_take (i := 8) (v := ?v7) rfl (by kernel_rfl) (by kernel_rfl) (by kernel_rfl) (fun _ _ _ h => h) (Or.inl ⟨by rfl, ?hy7⟩) (by assumption) ?rest7
          case hy7 => (intro w hSw; (try dsimp only at hSw); go_simp; try (with_reducible rfl))
          case rest7 =>
          try simp only [Act.put, List.setIfInBounds_toArray, List.set_cons_zero, List.set_cons_succ]
          refine wpAnyH_take (i := 9) (v := ?v8) rfl (by kernel_rfl) (by kernel_rfl) (by kernel_rfl) (fun _ _ _ h => h) (Or.inl ⟨by rfl, ?hy8⟩) (by assumption) ?rest8
          case hy8 => (intro w hSw; (try dsimp only at hSw); go_simp; try (with_reducible rfl))
          case rest8 =>
          try simp only [Act.put, List.setIfInBounds_toArray, List.set_cons_zero, List.set_cons_succ]
          refine wpAnyH_ready (rs := [1, 5]) (by kernel_rfl) (by simp) ?_
          refine AllReadyH.cons rfl (fun K hK => ?_) (AllReadyH.cons rfl (fun K hK => ?_) AllReadyH.nil)
          · go_simp
            refine hK.out _ _ ?hS9 (fun hHeld9 => ?hR9)
            case hS9 => (first | (dsimp only; go_keep) | go_keep | (refine ⟨?_, ?_, ?_⟩ <;> assumption) | (go_split_ands; refine ⟨?_, ?_, ?_⟩ <;> (rw [World.cell?_setCell_far _ _ _ _ hCV]; assumption)) | (go_split_ands; refine ⟨?_, ?_, ?_⟩ <;> (rw [HGR.out.cell_far _ (by have := hsz6.out; simp; omega) (Ne.symm HOV.out)]; assumption)))
            case hR9 =>
            clear hK K
            try simp only [Act.put, List.setIfInBounds_toArray, List.set_cons_zero, List.set_cons_succ]
            refine wpAnyH_ready (rs := [5]) (by kernel_rfl) (by simp) ?_
            refine AllReadyH.cons rfl (fun K hK => ?_) AllReadyH.nil
            go_simp
            go_at_call 40; refine (XA.out).mono ?_; rintro e w6 ⟨k, l', rfl, hm6, hf6, hor, ho6⟩
            have hcr6 := HCRA.out.anew HNE.out.1 ho6 hm6 hor
            have hll' : l' = l2 ∨ ∃ r, l' = l2 ++ r := by
              rcases hor with h | ⟨_, h, _⟩
              · exact .inl h
              · exact .inr ⟨_, h⟩
            have hlk' : ∀ p ∈ l', p.1 ∈ st.live := fun p hp => by
              rcases hor with h | ⟨_, h, _⟩
              · exact HLL.out p (h ▸ hp)
              · rw [h] at hp
                rcases List.mem_append.1 hp with hp | hp
                · exact HLL.out p hp
                · rw [List.mem_singleton.1 hp]; exact HLVT.out
            have y0' := (World.cell?_of_block (a := ⟨wr.heap.size, 0, none⟩) (ho6.block wr.heap.size hVl hVN)).trans y0
            have y1' := (World.cell?_of_block (a := ⟨wr.heap.size, 1, none⟩) (ho6.block wr.heap.size hVl hVN)).trans y1
            have y2' := (World.cell?_of_block (a := ⟨wr.heap.size, 2, none⟩) (ho6.block wr.heap.size hVl hVN)).trans y2
            have kC6 : w6.cell? ⟨C, 1, none⟩ = some (.slice Ar row2.length cr) := hcr6.blk.cell 1 rfl
            have kC6a : (w6.alloc (.cells #[ptr k, .int .i64 st.row[i].at_, .slice Ab st.row[i].b.length cb] 80)).cell? ⟨C, 1, none⟩ = some (.slice Ar row2.length cr) := (hcr6.blk.alloc _).cell 1 rfl
            have hsz6 : Zz (wr.heap.size < w6.heap.size ∧ B ≤ w6.heap.size) := ⟨by have := ho6.size; omega, hcr6.hBw⟩
            have HCR6' := Zz.mk hcr6
            have HO6 := Zz.mk ho6
            have HF6 := Zz.mk hf6
            have HLL' := Zz.mk hll'
            have HLK' := Zz.mk hlk'
            clear hcr6 ho6 hf6 hll' hlk' hor hm6
            try go_simp
            refine hK.out _ _ ?hS10 (fun hHeld10 => ?hR10)
            case hS10 => (first | (dsimp only; go_keep) | go_keep | (refine ⟨?_, ?_, ?_⟩ <;> assumption) | (go_split_ands; refine ⟨?_, ?_, ?_⟩ <;> (rw [World.cell?_setCell_far _ _ _ _ hCV]; assumption)) | (go_split_ands; refine ⟨?_, ?_, ?_⟩ <;> (rw [HGR.out.cell_far _ (by have := hsz6.out; simp; omega) (Ne.symm HOV.out)]; assumption)))
            case hR10 =>
            clear hK K
            try simp only [Act.put, List.setIfInBounds_toArray, List.set_cons_zero, List.set_cons_succ]
            refine wpAnyH_take (i := 10) (v := ?v11) rfl (by kernel_rfl) (by kernel_rfl) (by kernel_rfl) (fun _ _ _ h => h) (Or.inl ⟨by rfl, ?hy11⟩) (by assumption) ?rest11
            case hy11 => (intro w hSw; (try dsimp only at hSw); go_simp; try (with_reducible rfl))
            case rest11 =>
            try simp only [Act.put, List.setIfInBounds_toArray, List.set_cons_zero, List.set_cons_succ]
            refine wpAnyH_ready (rs := [11]) (by kernel_rfl) (by simp) ?_
            refine AllReadyH.cons rfl (fun K hK => ?_) AllReadyH.nil
            go_simp
            refine hK.out _ _ ?hS12 (fun hHeld12 => ?hR12)
            case hS12 => (first | (dsimp only; go_keep) | go_keep | (refine ⟨?_, ?_, ?_⟩ <;> assumption) | (go_split_ands; refine ⟨?_, ?_, ?_⟩ <;> (rw [World.cell?_setCell_far _ _ _ _ hCV]; assumption)) | (go_split_ands; refine ⟨?_, ?_, ?_⟩ <;> (rw [HGR.out.cell_far _ (by have := hsz6.out; simp; omega) (Ne.symm HOV.out)]; assumption)))
            case hR12 =>
            clear hK K
            try simp only [Act.put, List.setIfInBounds_toArray, List.set_cons_zero, List.set_cons_succ]
            refine wpAnyH_ready (rs := [12]) (by kernel_rfl) (by simp) ?_
            refine AllReadyH.cons rfl (fun K hK => ?_) AllReadyH.nil
            refine step_append_lies _ (by rfl) _ _ _ (by rfl) B 80 i0 _ 3 40 Try.underlying65 HII.out HZ.out HZ1.out HZ2.out rfl (by omega) (.slice Ar row2.length cr) row2.length cells2 (by rfl) (by first | exact (HCR6'.out.row.alloc _).drew | exact (HCR6'.out.row.alloc _))
             ⟨w6.heap.size, 0, none⟩ 1 1 [ptr k, .int .i64 st.row[i].at_, .slice Ab st.row[i].b.length cb] (by rfl) (by rfl) (World.news_of_block (cs := #[ptr k, .int .i64 st.row[i].at_, .slice Ab st.row[i].b.length cb]) (t := 80) (fr := (0, 0)) (heap_alloc_new w6 _)) (by simp [Value.oneCell'])
             (by omega) (Nat.le_trans (show row2.length + 1 ≤ 1000001 by have := HLEN2.out; omega) (by decide)) (by have := HLEN2.out; omega) (by have := hsz6.out; simp; omega) (w6.heap.size + 1) (by simp) ?_; intro gg cap w7 hown7 hgrow hat hlt7
            have HOW7 := Zz.mk hown7; have HGR := Zz.mk hgrow
            have B7 := Zz.mk ((HCR6'.out.blk.alloc _).to (hgrow.block C (by have := hsz6.out; simp; omega) (Ne.symm (own_blk_ne HCR6'.out.row HCR6'.out.blk (by decide)))))
            have sf := B7.out.frozen 1
            have sc := B7.out.cell 1 (v := .slice Ar row2.length cr) rfl
            clear hown7 hgrow
            refine hK.out _ _ ?hS13 (fun hHeld13 => ?hR13)
            case hS13 => (first | (dsimp only; go_keep) | go_keep | (refine ⟨?_, ?_, ?_⟩ <;> assumption) | (go_split_ands; refine ⟨?_, ?_, ?_⟩ <;> (rw [World.cell?_setCell_far _ _ _ _ hCV]; assumption)) | (go_split_ands; refine ⟨?_, ?_, ?_⟩ <;> (rw [HGR.out.cell_far _ (by have := hsz6.out; simp; omega) (Ne.symm HOV.out)]; assumption)))
            case hR13 =>
            clear hK K
            try simp only [Act.put, List.setIfInBounds_toArray, List.set_cons_zero, List.set_cons_succ]
            refine wpAnyH_take (i := 13) (v := ?v14) rfl (by kernel_rfl) (by kernel_rfl) (by kernel_rfl) (fun _ _ _ h => h) (Or.inl ⟨by rfl, ?hy14⟩) (by assumption) ?rest14
            case hy14 => (intro w hSw; (try dsimp only at hSw); go_simp; try (with_reducible rfl))
            case rest14 =>
            try simp only [Act.put, List.setIfInBounds_toArray, List.set_cons_zero, List.set_cons_succ]
            refine wpAnyH_ready (rs := [14]) (by kernel_rfl) (by simp) ?_
            refine AllReadyH.cons rfl (fun K hK => ?_) AllReadyH.nil
            go_simp
            refine hK.out _ _ ?hS15 (fun hHeld15 => ?hR15)
            case hS15 => (first | (dsimp only; go_keep) | go_keep | (refine ⟨?_, ?_, ?_⟩ <;> assumption) | (go_split_ands; refine ⟨?_, ?_, ?_⟩ <;> (rw [World.cell?_setCell_far _ _ _ _ hCV]; assumption)) | (go_split_ands; refine ⟨?_, ?_, ?_⟩ <;> (rw [HGR.out.cell_far _ (by have := hsz6.out; simp; omega) (Ne.symm HOV.out)]; assumption)))
            case hR15 =>
            clear hK K
            try simp only [Act.put, List.setIfInBounds_toArray, List.set_cons_zero, List.set_cons_succ]
            refine wpAnyH_done (by kernel_rfl) ?_ _
            refine NoPanic.normal ?_
            all_goals go_wp2
            all_goals (
              go_roundg d
              case measure => omega
              case rel =>
                have hwB' := HB.out
                have hv6 := (HVB.out.below (w' := (wr.alloc (.cells #[ptr t, .int .i64 st.row[i].at_, .slice Ab st.row[i].b.length cb] 80)).drew) ⟨HBWA.out.os, HBWA.out.tape, HBWA.out.output, HBWA.out.size, fun k hk => HBWA.out.block k (by omega)⟩).only HO6.out (fun k hk => ⟨hk ▸ Nat.le_trans HCRA.out.hB HCRA.out.geN, hk ▸ mapPtr_not_T5 HCRA.out.mp⟩)
                have hx := copy_row HCR6'.out hv6 HGR.out HOW7.out hat
                have hf6' : fndN st.row[i].tgt l' = some k := HT.out ▸ HF6.out
                rw [show (dn.map fun p => (p.1, rho l2 p.2)) = dn.map fun p => (p.1, rho l' p.2) from List.map_congr_left (fun p hp => by
                  obtain ⟨k', hk'⟩ := HDN.out p hp
                  simp [rho, hk', rho_grows hk' HLL'.out]), show row2 ++ [⟨k, st.row[i].at_, st.row[i].b⟩] = (st.row.take (i + 1)).map (rhoW l') from by rw [HROW2.out]; exact copy_rows HRN.out HLL'.out hlt hf6'] at hx
                have o8 : Only (fun k => k = C ∨ (Value.slice Ar row2.length cr).ownBlock = some k) w6 (w7.setCell ⟨C, 1, none⟩ (.slice (some ⟨gg, 0, none⟩) (row2.length + 1) cap)) := (((Only.refl _ w6).alloc _).grown HGR.out (fun k e => .inl (.inr e))).setCell (p := ⟨C, 1, none⟩) (.inl (.inl rfl)) _
                refine ⟨i + 1, l', _, _, by have := HI.out; omega, by go_num, ⟨hx⟩, ⟨fun p hp => ?_⟩, ⟨fun x hx => ?_⟩, HLK', ⟨below_onlyG (below_only HBWA.out HO6.out HCRA.out.geN HCRA.out.hBw) o8 (fun k hk => ?_) HCR6'.out.hBw⟩⟩
                · obtain ⟨k', hk'⟩ := HDN.out p hp
                  exact ⟨k', rho_grows hk' HLL'.out⟩
                · rw [List.take_succ_eq_append_getElem hlt] at hx
                  rcases List.mem_append.1 hx with hx | hx
                  · obtain ⟨k', hk'⟩ := HRN.out x hx
                    exact ⟨k', rho_grows hk' HLL'.out⟩
                  · rw [List.mem_singleton.1 hx]
                    exact ⟨k, hf6'⟩
                · rcases hk with rfl | hk
                  · exact HCRA.out.geC
                  · exact own_base HCRA.out.row k hk)
          · go_simp
            go_at_call 40; refine (XA.out).mono ?_; rintro e w6 ⟨k, l', rfl, hm6, hf6, hor, ho6⟩
            have hcr6 := HCRA.out.anew HNE.out.1 ho6 hm6 hor
            have hll' : l' = l2 ∨ ∃ r, l' = l2 ++ r := by
              rcases hor with h | ⟨_, h, _⟩
              · exact .inl h
              · exact .inr ⟨_, h⟩
            have hlk' : ∀ p ∈ l', p.1 ∈ st.live := fun p hp => by
              rcases hor with h | ⟨_, h, _⟩
              · exact HLL.out p (h ▸ hp)
              · rw [h] at hp
                rcases List.mem_append.1 hp with hp | hp
                · exact HLL.out p hp
                · rw [List.mem_singleton.1 hp]; exact HLVT.out
            have y0' := (World.cell?_of_block (a := ⟨wr.heap.size, 0, none⟩) (ho6.block wr.heap.size hVl hVN)).trans y0
            have y1' := (World.cell?_of_block (a := ⟨wr.heap.size, 1, none⟩) (ho6.block wr.heap.size hVl hVN)).trans y1
            have y2' := (World.cell?_of_block (a := ⟨wr.heap.size, 2, none⟩) (ho6.block wr.heap.size hVl hVN)).trans y2
            have kC6 : w6.cell? ⟨C, 1, none⟩ = some (.slice Ar row2.length cr) := hcr6.blk.cell 1 rfl
            have kC6a : (w6.alloc (.cells #[ptr k, .int .i64 st.row[i].at_, .slice Ab st.row[i].b.length cb] 80)).cell? ⟨C, 1, none⟩ = some (.slice Ar row2.length cr) := (hcr6.blk.alloc _).cell 1 rfl
            have hsz6 : Zz (wr.heap.size < w6.heap.size ∧ B ≤ w6.heap.size) := ⟨by have := ho6.size; omega, hcr6.hBw⟩
            have HCR6' := Zz.mk hcr6
            have HO6 := Zz.mk ho6
            have HF6 := Zz.mk hf6
            have HLL' := Zz.mk hll'
            have HLK' := Zz.mk hlk'
            clear hcr6 ho6 hf6 hll' hlk' hor hm6
            try go_simp
            refine hK.out _ _ ?hS16 (fun hHeld16 => ?hR16)
            case hS16 => (first | (dsimp only; go_keep) | go_keep | (refine ⟨?_, ?_, ?_⟩ <;> assumption) | (go_split_ands; refine ⟨?_, ?_, ?_⟩ <;> (rw [World.cell?_setCell_far _ _ _ _ hCV]; assumption)) | (go_split_ands; refine ⟨?_, ?_, ?_⟩ <;> (rw [HGR.out.cell_far _ (by have := hsz6.out; simp; omega) (Ne.symm HOV.out)]; assumption)))
            case hR16 =>
            clear hK K
            try simp only [Act.put, List.setIfInBounds_toArray, List.set_cons_zero, List.set_cons_succ]
            refine wpAnyH_take (i := 10) (v := ?v17) rfl (by kernel_rfl) (by kernel_rfl) (by kernel_rfl) (fun _ _ _ h => h) (Or.inl ⟨by rfl, ?hy17⟩) (by assumption) ?rest17
            case hy17 => (intro w hSw; (try dsimp only at hSw); go_simp; try (with_reducible rfl))
            case rest17 =>
            try simp only [Act.put, List.setIfInBounds_toArray, List.set_cons_zero, List.set_cons_succ]
            refine wpAnyH_ready (rs := [1, 11]) (by kernel_rfl) (by simp) ?_
            refine AllReadyH.cons rfl (fun K hK => ?_) (AllReadyH.cons rfl (fun K hK => ?_) AllReadyH.nil)
            · go_simp
              refine hK.out _ _ ?hS18 (fun hHeld18 => ?hR18)
              case hS18 => (first | (dsimp only; go_keep) | go_keep | (refine ⟨?_, ?_, ?_⟩ <;> assumption) | (go_split_ands; refine ⟨?_, ?_, ?_⟩ <;> (rw [World.cell?_setCell_far _ _ _ _ hCV]; assumption)) | (go_split_ands; refine ⟨?_, ?_, ?_⟩ <;> (rw [HGR.out.cell_far _ (by have := hsz6.out; simp; omega) (Ne.symm HOV.out)]; assumption)))
              case hR18 =>
              clear hK K
              try simp only [Act.put, List.setIfInBounds_toArray, List.set_cons_zero, List.set_cons_succ]
              refine wpAnyH_ready (rs := [11]) (by kernel_rfl) (by simp) ?_
              refine AllReadyH.cons rfl (fun K hK => ?_) AllReadyH.nil
              go_simp
              refine hK.out _ _ ?hS19 (fun hHeld19 => ?hR19)
              case hS19 => (first | (dsimp only; go_keep) | go_keep | (refine ⟨?_, ?_, ?_⟩ <;> assumption) | (go_split_ands; refine ⟨?_, ?_, ?_⟩ <;> (rw [World.cell?_setCell_far _ _ _ _ hCV]; assumption)) | (go_split_ands; refine ⟨?_, ?_, ?_⟩ <;> (rw [HGR.out.cell_far _ (by have := hsz6.out; simp; omega) (Ne.symm HOV.out)]; assumption)))
              case hR19 =>
              clear hK K
              try simp only [Act.put, List.setIfInBounds_toArray, List.set_cons_zero, List.set_cons_succ]
              refine wpAnyH_ready (rs := [12]) (by kernel_rfl) (by simp) ?_
              refine AllReadyH.cons rfl (fun K hK => ?_) AllReadyH.nil
              refine step_append_lies _ (by rfl) _ _ _ (by rfl) B 80 i0 _ 3 40 Try.underlying65 HII.out HZ.out HZ1.out HZ2.out rfl (by omega) (.slice Ar row2.length cr) row2.length cells2 (by rfl) (by first | exact (HCR6'.out.row.alloc _).drew | exact (HCR6'.out.row.alloc _))
               ⟨w6.heap.size, 0, none⟩ 1 1 [ptr k, .int .i64 st.row[i].at_, .slice Ab st.row[i].b.length cb] (by rfl) (by rfl) (World.news_of_block (cs := #[ptr k, .int .i64 st.row[i].at_, .slice Ab st.row[i].b.length cb]) (t := 80) (fr := (0, 0)) (heap_alloc_new w6 _)) (by simp [Value.oneCell'])
               (by omega) (Nat.le_trans (show row2.length + 1 ≤ 1000001 by have := HLEN2.out; omega) (by decide)) (by have := HLEN2.out; omega) (by have := hsz6.out; simp; omega) (w6.heap.size + 1) (by simp) ?_; intro gg cap w7 hown7 hgrow hat hlt7
              have HOW7 := Zz.mk hown7; have HGR := Zz.mk hgrow
              have B7 := Zz.mk ((HCR6'.out.blk.alloc _).to (hgrow.block C (by have := hsz6.out; simp; omega) (Ne.symm (own_blk_ne HCR6'.out.row HCR6'.out.blk (by decide)))))
              have sf := B7.out.frozen 1
              have sc := B7.out.cell 1 (v := .slice Ar row2.length cr) rfl
              clear hown7 hgrow
              refine hK.out _ _ ?hS20 (fun hHeld20 => ?hR20)
              case hS20 => (first | (dsimp only; go_keep) | go_keep | (refine ⟨?_, ?_, ?_⟩ <;> assumption) | (go_split_ands; refine ⟨?_, ?_, ?_⟩ <;> (rw [World.cell?_setCell_far _ _ _ _ hCV]; assumption)) | (go_split_ands; refine ⟨?_, ?_, ?_⟩ <;> (rw [HGR.out.cell_far _ (by have := hsz6.out; simp; omega) (Ne.symm HOV.out)]; assumption)))
              case hR20 =>
              clear hK K
              try simp only [Act.put, List.setIfInBounds_toArray, List.set_cons_zero, List.set_cons_succ]
              refine wpAnyH_take (i := 13) (v := ?v21) rfl (by kernel_rfl) (by kernel_rfl) (by kernel_rfl) (fun _ _ _ h => h) (Or.inl ⟨by rfl, ?hy21⟩) (by assumption) ?rest21
              case hy21 => (intro w hSw; (try dsimp only at hSw); go_simp; try (with_reducible rfl))
              case rest21 =>
              try simp only [Act.put, List.setIfInBounds_toArray, List.set_cons_zero, List.set_cons_succ]
              refine wpAnyH_ready (rs := [14]) (by kernel_rfl) (by simp) ?_
              refine AllReadyH.cons rfl (fun K hK => ?_) AllReadyH.nil
              go_simp
              refine hK.out _ _ ?hS22 (fun hHeld22 => ?hR22)
              case hS22 => (first | (dsimp only; go_keep) | go_keep | (refine ⟨?_, ?_, ?_⟩ <;> assumption) | (go_split_ands; refine ⟨?_, ?_, ?_⟩ <;> (rw [World.cell?_setCell_far _ _ _ _ hCV]; assumption)) | (go_split_ands; refine ⟨?_, ?_, ?_⟩ <;> (rw [HGR.out.cell_far _ (by have := hsz6.out; simp; omega) (Ne.symm HOV.out)]; assumption)))
              case hR22 =>
              clear hK K
              try simp only [Act.put, List.setIfInBounds_toArray, List.set_cons_zero, List.set_cons_succ]
              refine wpAnyH_done (by kernel_rfl) ?_ _
              refine NoPanic.normal ?_
              all_goals go_wp2
              all_goals (
                go_roundg d
                case measure => omega
                case rel =>
                  have hwB' := HB.out
                  have hv6 := (HVB.out.below (w' := (wr.alloc (.cells #[ptr t, .int .i64 st.row[i].at_, .slice Ab st.row[i].b.length cb] 80)).drew) ⟨HBWA.out.os, HBWA.out.tape, HBWA.out.output, HBWA.out.size, fun k hk => HBWA.out.block k (by omega)⟩).only HO6.out (fun k hk => ⟨hk ▸ Nat.le_trans HCRA.out.hB HCRA.out.geN, hk ▸ mapPtr_not_T5 HCRA.out.mp⟩)
                  have hx := copy_row HCR6'.out hv6 HGR.out HOW7.out hat
                  have hf6' : fndN st.row[i].tgt l' = some k := HT.out ▸ HF6.out
                  rw [show (dn.map fun p => (p.1, rho l2 p.2)) = dn.map fun p => (p.1, rho l' p.2) from List.map_congr_left (fun p hp => by
                    obtain ⟨k', hk'⟩ := HDN.out p hp
                    simp [rho, hk', rho_grows hk' HLL'.out]), show row2 ++ [⟨k, st.row[i].at_, st.row[i].b⟩] = (st.row.take (i + 1)).map (rhoW l') from by rw [HROW2.out]; exact copy_rows HRN.out HLL'.out hlt hf6'] at hx
                  have o8 : Only (fun k => k = C ∨ (Value.slice Ar row2.length cr).ownBlock = some k) w6 (w7.setCell ⟨C, 1, none⟩ (.slice (some ⟨gg, 0, none⟩) (row2.length + 1) cap)) := (((Only.refl _ w6).alloc _).grown HGR.out (fun k e => .inl (.inr e))).setCell (p := ⟨C, 1, none⟩) (.inl (.inl rfl)) _
                  refine ⟨i + 1, l', _, _, by have := HI.out; omega, by go_num, ⟨hx⟩, ⟨fun p hp => ?_⟩, ⟨fun x hx => ?_⟩, HLK', ⟨below_onlyG (below_only HBWA.out HO6.out HCRA.out.geN HCRA.out.hBw) o8 (fun k hk => ?_) HCR6'.out.hBw⟩⟩
                  · obtain ⟨k', hk'⟩ := HDN.out p hp
                    exact ⟨k', rho_grows hk' HLL'.out⟩
                  · rw [List.take_succ_eq_append_getElem hlt] at hx
                    rcases List.mem_append.1 hx with hx | hx
                    · obtain ⟨k', hk'⟩ := HRN.out x hx
                      exact ⟨k', rho_grows hk' HLL'.out⟩
                    · rw [List.mem_singleton.1 hx]
                      exact ⟨k, hf6'⟩
                  · rcases hk with rfl | hk
                    · exact HCRA.out.geC
                    · exact own_base HCRA.out.row k hk)
            · go_simp
              refine hK.out _ _ ?hS23 (fun hHeld23 => ?hR23)
              case hS23 => (first | (dsimp only; go_keep) | go_keep | (refine ⟨?_, ?_, ?_⟩ <;> assumption) | (go_split_ands; refine ⟨?_, ?_, ?_⟩ <;> (rw [World.cell?_setCell_far _ _ _ _ hCV]; assumption)) | (go_split_ands; refine ⟨?_, ?_, ?_⟩ <;> (rw [HGR.out.cell_far _ (by have := hsz6.out; simp; omega) (Ne.symm HOV.out)]; assumption)))
              case hR23 =>
              clear hK K
              try simp only [Act.put, List.setIfInBounds_toArray, List.set_cons_zero, List.set_cons_succ]
              refine wpAnyH_ready (rs := [1]) (by kernel_rfl) (by simp) ?_
              refine AllReadyH.cons rfl (fun K hK => ?_) AllReadyH.nil
              go_simp
              refine hK.out _ _ ?hS24 (fun hHeld24 => ?hR24)
              case hS24 => (first | (dsimp only; go_keep) | go_keep | (refine ⟨?_, ?_, ?_⟩ <;> assumption) | (go_split_ands; refine ⟨?_, ?_, ?_⟩ <;> (rw [World.cell?_setCell_far _ _ _ _ hCV]; assumption)) | (go_split_ands; refine ⟨?_, ?_, ?_⟩ <;> (rw [HGR.out.cell_far _ (by have := hsz6.out; simp; omega) (Ne.symm HOV.out)]; assumption)))
              case hR24 =>
              clear hK K
              try simp only [Act.put, List.setIfInBounds_toArray, List.set_cons_zero, List.set_cons_succ]
              refine wpAnyH_ready (rs := [12]) (by kernel_rfl) (by simp) ?_
              refine AllReadyH.cons rfl (fun K hK => ?_) AllReadyH.nil
              refine step_append_lies _ (by rfl) _ _ _ (by rfl) B 80 i0 _ 3 40 Try.underlying65 HII.out HZ.out HZ1.out HZ2.out rfl (by omega) (.slice Ar row2.length cr) row2.length cells2 (by rfl) (by first | exact (HCR6'.out.row.alloc _).drew | exact (HCR6'.out.row.alloc _))
               ⟨w6.heap.size, 0, none⟩ 1 1 [ptr k, .int .i64 st.row[i].at_, .slice Ab st.row[i].b.length cb] (by rfl) (by rfl) (World.news_of_block (cs := #[ptr k, .int .i64 st.row[i].at_, .slice Ab st.row[i].b.length cb]) (t := 80) (fr := (0, 0)) (heap_alloc_new w6 _)) (by simp [Value.oneCell'])
               (by omega) (Nat.le_trans (show row2.length + 1 ≤ 1000001 by have := HLEN2.out; omega) (by decide)) (by have := HLEN2.out; omega) (by have := hsz6.out; simp; omega) (w6.heap.size + 1) (by simp) ?_; intro gg cap w7 hown7 hgrow hat hlt7
              have HOW7 := Zz.mk hown7; have HGR := Zz.mk hgrow
              have B7 := Zz.mk ((HCR6'.out.blk.alloc _).to (hgrow.block C (by have := hsz6.out; simp; omega) (Ne.symm (own_blk_ne HCR6'.out.row HCR6'.out.blk (by decide)))))
              have sf := B7.out.frozen 1
              have sc := B7.out.cell 1 (v := .slice Ar row2.length cr) rfl
              clear hown7 hgrow
              refine hK.out _ _ ?hS25 (fun hHeld25 => ?hR25)
              case hS25 => (first | (dsimp only; go_keep) | go_keep | (refine ⟨?_, ?_, ?_⟩ <;> assumption) | (go_split_ands; refine ⟨?_, ?_, ?_⟩ <;> (rw [World.cell?_setCell_far _ _ _ _ hCV]; assumption)) | (go_split_ands; refine ⟨?_, ?_, ?_⟩ <;> (rw [HGR.out.cell_far _ (by have := hsz6.out; simp; omega) (Ne.symm HOV.out)]; assumption)))
              case hR25 =>
              clear hK K
              try simp only [Act.put, List.setIfInBounds_toArray, List.set_cons_zero, List.set_cons_succ]
              refine wpAnyH_take (i := 13) (v := ?v26) rfl (by kernel_rfl) (by kernel_rfl) (by kernel_rfl) (fun _ _ _ h => h) (Or.inl ⟨by rfl, ?hy26⟩) (by assumption) ?rest26
              case hy26 => (intro w hSw; (try dsimp only at hSw); go_simp; try (with_reducible rfl))
              case rest26 =>
              try simp only [Act.put, List.setIfInBounds_toArray, List.set_cons_zero, List.set_cons_succ]
              refine wpAnyH_ready (rs := [14]) (by kernel_rfl) (by simp) ?_
              refine AllReadyH.cons rfl (fun K hK => ?_) AllReadyH.nil
              go_simp
              refine hK.out _ _ ?hS27 (fun hHeld27 => ?hR27)
              case hS27 => (first | (dsimp only; go_keep) | go_keep | (refine ⟨?_, ?_, ?_⟩ <;> assumption) | (go_split_ands; refine ⟨?_, ?_, ?_⟩ <;> (rw [World.cell?_setCell_far _ _ _ _ hCV]; assumption)) | (go_split_ands; refine ⟨?_, ?_, ?_⟩ <;> (rw [HGR.out.cell_far _ (by have := hsz6.out; simp; omega) (Ne.symm HOV.out)]; assumption)))
              case hR27 =>
              clear hK K
              try simp only [Act.put, List.setIfInBounds_toArray, List.set_cons_zero, List.set_cons_succ]
              refine wpAnyH_done (by kernel_rfl) ?_ _
              refine NoPanic.normal ?_
              all_goals go_wp2
              all_goals (
                go_roundg d
                case measure => omega
                case rel =>
                  have hwB' := HB.out
                  have hv6 := (HVB.out.below (w' := (wr.alloc (.cells #[ptr t, .int .i64 st.row[i].at_, .slice Ab st.row[i].b.length cb] 80)).drew) ⟨HBWA.out.os, HBWA.out.tape, HBWA.out.output, HBWA.out.size, fun k hk => HBWA.out.block k (by omega)⟩).only HO6.out (fun k hk => ⟨hk ▸ Nat.le_trans HCRA.out.hB HCRA.out.geN, hk ▸ mapPtr_not_T5 HCRA.out.mp⟩)
                  have hx := copy_row HCR6'.out hv6 HGR.out HOW7.out hat
                  have hf6' : fndN st.row[i].tgt l' = some k := HT.out ▸ HF6.out
                  rw [show (dn.map fun p => (p.1, rho l2 p.2)) = dn.map fun p => (p.1, rho l' p.2) from List.map_congr_left (fun p hp => by
                    obtain ⟨k', hk'⟩ := HDN.out p hp
                    simp [rho, hk', rho_grows hk' HLL'.out]), show row2 ++ [⟨k, st.row[i].at_, st.row[i].b⟩] = (st.row.take (i + 1)).map (rhoW l') from by rw [HROW2.out]; exact copy_rows HRN.out HLL'.out hlt hf6'] at hx
                  have o8 : Only (fun k => k = C ∨ (Value.slice Ar row2.length cr).ownBlock = some k) w6 (w7.setCell ⟨C, 1, none⟩ (.slice (some ⟨gg, 0, none⟩) (row2.length + 1) cap)) := (((Only.refl _ w6).alloc _).grown HGR.out (fun k e => .inl (.inr e))).setCell (p := ⟨C, 1, none⟩) (.inl (.inl rfl)) _
                  refine ⟨i + 1, l', _, _, by have := HI.out; omega, by go_num, ⟨hx⟩, ⟨fun p hp => ?_⟩, ⟨fun x hx => ?_⟩, HLK', ⟨below_onlyG (below_only HBWA.out HO6.out HCRA.out.geN HCRA.out.hBw) o8 (fun k hk => ?_) HCR6'.out.hBw⟩⟩
                  · obtain ⟨k', hk'⟩ := HDN.out p hp
                    exact ⟨k', rho_grows hk' HLL'.out⟩
                  · rw [List.take_succ_eq_append_getElem hlt] at hx
                    rcases List.mem_append.1 hx with hx | hx
                    · obtain ⟨k', hk'⟩ := HRN.out x hx
                      exact ⟨k', rho_grows hk' HLL'.out⟩
                    · rw [List.mem_singleton.1 hx]
                      exact ⟨k, hf6'⟩
                  · rcases hk with rfl | hk
                    · exact HCRA.out.geC
                    · exact own_base HCRA.out.row k hk)
    · intro j hj w2 hit2 ho2 hs2 hen
      have hjl : j < lf.length := by
        first
        | exact hj
        | (rw [List.length_map] at hj; exact hj)
      try simp only [List.getElem_map] at hen
      try simp only [List.getElem_map]
      rw [← map_eraseIdx] at hit2
      cases gk with
      | zero => have := HLEN.out; omega
      | succ d =>
        have hmem := HPERM.out.mem_iff.1 (List.mem_append_right _ (List.getElem_mem hjl))
        have hlv := HPF.out _ hmem
        have hnm : lf[j].1 ∉ dn.map (·.1) := fun e => by
          have hnd := (HPERM.out.map (·.1)).nodup_iff.2 HND.out
          rw [List.map_append, List.nodup_append] at hnd
          exact hnd.2.2 _ e _ (List.mem_map.2 ⟨_, List.getElem_mem hjl, rfl⟩) rfl
        have hpe : (dn ++ [lf[j]] ++ lf.eraseIdx j).Perm st.files := by
          refine List.Perm.trans ?_ HPERM.out
          rw [List.append_assoc]
          refine List.Perm.append_left dn ?_
          exact (perm_erase hjl)
        generalize lf[j] = p at hmem hlv hen hnm hpe ⊢
        obtain ⟨nm, g⟩ := p
        have hbw2 := below_only HBW.out ho2 HNE.out.2 HCR.out.hBw
        have hcr2 := (HCR.out.only ho2 (fun k hk => ⟨hk ▸ Nat.le_trans HCR.out.hB HNE.out.2, hk ▸ HIT.out.not_T5⟩) (fun e => HIT.out.ne_blk HCR.out.blk e.symm) (fun e => iter_ne_map HIT.out HCR.out.map e) (fun e => iter_ne_ptr HIT.out HCR.out.mp e) (fun e => HIT.out.ne_blk HCR.out.x e.symm) (fun k hk => by simp [Value.ownBlock] at hk) (fun p hp e => by
          obtain ⟨_, v, hb, _⟩ := HCR.out.inos p hp
          exact HIT.out.ne_blk hb e.symm)).below (below_drew (Below.refl _ _))
        have hbw2d : Below B w w2.drew := ⟨hbw2.os, hbw2.tape, hbw2.output, hbw2.size, hbw2.block⟩
        have hwB := HB.out
        have hiv := fun g (hg : g ∈ st.live) => H.out.ino g hg
        have hisc : ∀ g ∈ st.live, IsC w2.drew g := fun g hg => by
          obtain ⟨v, hb, _⟩ := H.out.ino g hg
          exact ⟨_, _, hb.to (hbw2d.block g (by have := hb.lt; omega))⟩
        obtain ⟨vg, hig, hrg⟩ := H.out.ino g hlv
        have XA := Zz.mk (anew_calls (base := base) (Lz := Lz) hcr2.x rfl hcr2.mp (fun p hp => hisc _ (HLL.out p hp)) (hig.to (hbw2d.block g (by have := hig.lt; omega))) (hrg.below ⟨hbw2d.os, hbw2d.tape, hbw2d.output, hbw2d.size, fun k hk => hbw2d.block k (by omega)⟩) (by have := HS.out.sb g hlv; omega) (Nat.le_trans hcr2.hB hcr2.geN) (fun k hk => Nat.lt_of_lt_of_le (hcr2.lzB k hk) hcr2.hBw))
        have HCR2 := Zz.mk hcr2
        have HIT2 := Zz.mk hit2
        have HBW2 := Zz.mk hbw2d
        have HNM := Zz.mk hnm
        have HPE := Zz.mk hpe
        have HLV := Zz.mk hlv
        have HJL := Zz.mk hjl
        have kc : w2.cell? ⟨C, 0, none⟩ = some (.map (some Mc)) := hcr2.blk.cell 0 rfl
        clear hcr2 hit2 ho2 hbw2 hbw2d hnm hpe hlv hjl hig hrg hiv hisc hmem hj
        go_wp2_with fail
        go_region_held3 (fun w' => w'.cell? ⟨C, 0, none⟩ = some (.map (some Mc)))
          (first
            | go_keep
            | assumption)
          (first
            | (go_at_call 40; refine (XA.out).mono ?_; rintro e w6 ⟨k, l', rfl, hm6, hf6, hor, ho6⟩
               have hcr6 := HCR2.out.anew HNE.out.1 ho6 hm6 hor
               have hll' : l' = l ∨ ∃ r, l' = l ++ r := by
                 rcases hor with h | ⟨_, h, _⟩
                 · exact .inl h
                 · exact .inr ⟨_, h⟩
               have hlk' : ∀ p ∈ l', p.1 ∈ st.live := fun p hp => by
                 rcases hor with h | ⟨_, h, _⟩
                 · exact HLL.out p (h ▸ hp)
                 · rw [h] at hp
                   rcases List.mem_append.1 hp with hp | hp
                   · exact HLL.out p hp
                   · rw [List.mem_singleton.1 hp]; exact HLV.out
               obtain ⟨w7, hup, hcr7, hg7⟩ := copy_file hcr6 HNE.out.1 HDN.out hll' HNM.out hf6
               have kc6 : w6.cell? ⟨C, 0, none⟩ = some (.map (some Mc)) := hcr6.blk.cell 0 rfl
               have kc7 : w7.cell? ⟨C, 0, none⟩ = some (.map (some Mc)) := hcr7.blk.cell 0 rfl
               have HCR7 := Zz.mk hcr7
               have HCR6' := Zz.mk hcr6
               have HG7 := Zz.mk hg7
               have HO6 := Zz.mk ho6
               have HF6 := Zz.mk hf6
               have HLL' := Zz.mk hll'
               have HLK' := Zz.mk hlk'
               clear hcr7 hcr6 hg7 ho6 hf6 hll' hlk' hor hm6))
        go_wp2
        go_roundg d
        case measure => omega
        case rel =>
          have hNr := iter_ne_ptr HIT.out HCR.out.mp
          have hMr := iter_ne_map HIT.out HCR.out.map
          have hMB : M < B := by have := H.out.map.lt; have := HB.out; omega
          have hr2 := HIT2.out.lt
          have h6s := HO6.out.size
          have hM2 : M < w2.heap.size := HIT2.out.map.lt
          have hge := HCR2.out.geN
          have hgm := HCR2.out.geM
          refine ⟨lf.eraseIdx j, l', dn ++ [(nm, g)], ⟨?_⟩, ⟨(HIT2.out.to (w' := w6) (HO6.out.block r0 hr2 (Ne.symm hNr)) (HO6.out.block M hM2 (by omega))).to (HG7.out.block r0 (Nat.lt_of_lt_of_le hr2 h6s) (fun e => hMr (Option.some.inj e).symm)) (HG7.out.block M (Nat.lt_of_lt_of_le hM2 h6s) (fun e => by have := Option.some.inj e; omega))⟩, HPE, HCR7, ⟨fun p hp => ?_⟩, HLK', ⟨below_only (below_only HBW2.out HO6.out hge HCR2.out.hBw) (grown_only HG7.out) hgm HCR6'.out.hBw⟩⟩
          · rw [List.length_eraseIdx, if_pos HJL.out, HLEN.out]; rfl
          · rcases List.mem_append.1 hp with hp | hp
            · obtain ⟨k', hk'⟩ := HDN.out p hp
              exact ⟨k', rho_grows hk' HLL'.out⟩
            · rw [List.mem_singleton.1 hp]
              exact ⟨k, HF6.out⟩
end Go.Proofs.Ytcpkoajnepijkaa

