/- Parts of the proof of the law that the last file states; declarations that nothing mentions are left out by a program. No conditions. -/
import Derived.Test.YtcpkoajnepijkaaRefDk
namespace Go.Proofs.Ytcpkoajnepijkaa
set_option linter.unusedVariables false
set_option linter.unusedSimpArgs false
open Go.RowKit Go.Proofs.YtcpkoajnepijkaaL Go.Proofs.YtcpkoajnepijkaaW.PrintWords Go.Proofs.Ytcpkoajnepijkaa.Q
theorem insP_len (f : PF) : ∀ l : List PF, (insP f l).length = l.length + 1
  | [] => by simp [insP]
  | x :: l => by
    unfold insP
    split
    · rfl
    · simp [insP_len f l]
theorem withoutP_len (s : ByteArray) (l : List PF) : (withoutP s l).length ≤ l.length := List.length_filter_le _ _
theorem withP_len (f : PF) (l : List PF) : (withP f l).length ≤ l.length + 1 := by
  unfold withP
  rw [insP_len]
  have := withoutP_len f.name l
  omega
theorem doP_len (S : PS) (x : S34) : (doP S x).2.l.length ≤ S.l.length + 1 ∧ (doP S x).2.no ≤ S.no + 1 := by
  have hb : ∀ s may, ∀ r, beginP S s may = r → r.2.2.l = S.l ∧ r.2.2.no = S.no := by
    intro s may r hr
    unfold beginP at hr
    split at hr
    · subst hr; exact ⟨rfl, rfl⟩
    · split at hr
      · subst hr; exact ⟨rfl, rfl⟩
      · split at hr
        · subst hr; exact ⟨rfl, rfl⟩
        · split at hr
          · subst hr; exact ⟨rfl, rfl⟩
          · subst hr; exact ⟨rfl, rfl⟩
  unfold doP
  split
  · unfold writeP
    split
    · exact ⟨Nat.le_succ _, Nat.le_succ _⟩
    · split
      · exact ⟨Nat.le_succ _, Nat.le_succ _⟩
      · simp only
        split
        · exact ⟨Nat.le_succ _, Nat.le_succ _⟩
        · split
          · exact ⟨Nat.le_succ _, Nat.le_succ _⟩
          · exact ⟨withP_len _ _, Nat.le_refl _⟩
  · split
    · unfold syncP
      split
      · rename_i f n S' h
        have := hb _ _ _ h
        simp only at this ⊢
        rw [this.1, this.2]
        exact ⟨withP_len _ _, Nat.le_succ _⟩
      · rename_i n S' h
        have := hb _ _ _ h
        simp only at this ⊢
        rw [this.1, this.2]
        exact ⟨Nat.le_succ _, Nat.le_succ _⟩
    · split
      · unfold renameP
        split
        · rename_i f n S' h
          have := hb _ _ _ h
          simp only at this ⊢
          rw [this.1, this.2]
          exact ⟨Nat.le_trans (withP_len _ _) (Nat.succ_le_succ (withoutP_len _ _)), Nat.le_succ _⟩
        · rename_i n S' h
          have := hb _ _ _ h
          simp only at this ⊢
          rw [this.1, this.2]
          exact ⟨Nat.le_succ _, Nat.le_succ _⟩
      · split
        · unfold removeP
          split
          · rename_i f n S' h
            have := hb _ _ _ h
            simp only at this ⊢
            rw [this.1, this.2]
            exact ⟨Nat.le_trans (withoutP_len _ _) (Nat.le_succ _), Nat.le_succ _⟩
          · rename_i n S' h
            have := hb _ _ _ h
            simp only at this ⊢
            rw [this.1, this.2]
            exact ⟨Nat.le_succ _, Nat.le_succ _⟩
        · unfold cutP
          split
          · rename_i f n S' h
            have := hb _ _ _ h
            simp only at this ⊢
            rw [this.1, this.2]
            exact ⟨withP_len _ _, Nat.le_succ _⟩
          · rename_i n S' h
            have := hb _ _ _ h
            simp only at this ⊢
            rw [this.1, this.2]
            exact ⟨Nat.le_succ _, Nat.le_succ _⟩
theorem FSat.numP {base : Nat} {Lz : Nat → Prop} {w : World} {F : Nat} {fp : Nat → Prop} {S : PS} {k : Nat} (h : FSat base Lz w F fp S k) (hk : k ≤ 100000) (hn : S.no ≤ 1000000) : NumP S := by
  obtain ⟨st, nos, _, hr, hk2⟩ := h
  exact ⟨hn, by rw [hr.ops]; exact Nat.le_trans hk2.ops (by omega), by rw [hr.fuse]; exact hk2.fuse0, by rw [hr.fuse]; exact hk2.fuse1, by rw [hr.fault]; exact hk2.fault0, by rw [hr.fault]; exact hk2.fault1⟩
theorem rowOf_mem {row : List Wr} {nos : List Nat} {g : Nat} {p : PP} (h : p ∈ rowOf row nos g) : ∃ x ∈ row, p.at_ = x.at_ ∧ p.b = x.b := by
  unfold rowOf at h
  obtain ⟨y, hy, rfl⟩ := List.mem_map.1 h
  have := (List.mem_filter.1 hy).1
  exact ⟨y.1, (List.of_mem_zip this).1, rfl, rfl⟩
theorem FSat.boundP {base : Nat} {Lz : Nat → Prop} {w : World} {F : Nat} {fp : Nat → Prop} {S : PS} {k : Nat} (h : FSat base Lz w F fp S k) (hk : k ≤ 100000) (hl : S.l.length ≤ 1000) : BoundP S := by
  obtain ⟨st, nos, _, hr, hk2⟩ := h
  refine ⟨hl, fun f hf => ?_⟩
  obtain ⟨g, h1, h2, h3, h4⟩ := hr.fwd f hf
  refine ⟨by rw [← h2]; exact hk2.sb g, ?_, fun p hp => ?_⟩
  · rw [h4]
    unfold rowOf
    rw [List.length_map]
    refine Nat.le_trans (List.length_filter_le _ _) ?_
    rw [List.length_zip]
    exact Nat.le_trans (Nat.min_le_left _ _) (Nat.le_trans hk2.rowl hk)
  · rw [h4] at hp
    obtain ⟨x, hx, e1, e2⟩ := rowOf_mem hp
    rw [e1, e2]
    exact hk2.row x hx
theorem findP_mem : ∀ {l : List PF}, (l.Pairwise fun x y => ltN x.name y.name = true) → ∀ {f : PF}, f ∈ l → findP f.name l = some f
  | [], _, f, h => by cases h
  | g :: l, hp, f, h => by
    unfold findP
    rcases List.mem_cons.1 h with rfl | h
    · rw [if_pos rfl]
    · have hlt := (List.pairwise_cons.1 hp).1 f h
      rw [if_neg (fun e => ltN_ne hlt e)]
      exact findP_mem (List.pairwise_cons.1 hp).2 h
theorem FSat.finds {base : Nat} {Lz : Nat → Prop} {w : World} {F : Nat} {fp : Nat → Prop} {S : PS} {k : Nat} (h : FSat base Lz w F fp S k) {f : PF} (hf : f ∈ S.l) : findP f.name S.l = some f := by
  obtain ⟨st, nos, _, hr, _⟩ := h
  exact findP_mem hr.sorted hf
theorem findP_map (g : PF → PF) (hg : ∀ f, (g f).name = f.name) (s : ByteArray) : ∀ l : List PF, findP s (l.map g) = (findP s l).map g
  | [] => rfl
  | f :: l => by
    simp only [List.map_cons, findP, hg]
    split
    · rfl
    · exact findP_map g hg s l
theorem keeps_read {S : PS} {f : PF} (hf : findP f.name S.l = some f) (hd : S.down = false) : readP S f.name = (bytesP f, 0) := by
  unfold readP
  simp [hd, hf]
theorem keeps_all {S : PS} {f : PF} (hf : findP f.name S.l = some f) : readP (crashP S [true]) f.name = (bytesP f, 0) := by
  have h := findP_map (fun f => { f with b := (f.row.filter fun p => keptAt [true] (rankP S p.no)).foldl overP f.b, row := [] }) (fun _ => rfl) f.name S.l
  rw [hf] at h
  have h : findP f.name (crashP S [true]).l = _ := h
  unfold readP
  rw [h]
  have hk : ∀ k, keptAt [true] k = true := fun k => by simp [keptAt, Nat.mod_one]
  have hfa : f.row.filter (fun _ => true) = f.row := List.filter_eq_self.2 (fun _ _ => rfl)
  simp [crashP, hk, bytesP, hfa]
theorem keeps_none {S : PS} {f : PF} (hf : findP f.name S.l = some f) : readP (crashP S []) f.name = (f.b, 0) := by
  have h := findP_map (fun f => { f with b := (f.row.filter fun p => keptAt [] (rankP S p.no)).foldl overP f.b, row := [] }) (fun _ => rfl) f.name S.l
  rw [hf] at h
  have h : findP f.name (crashP S []).l = _ := h
  unfold readP
  rw [h]
  have hk : ∀ k, keptAt [] k = false := fun k => by simp [keptAt]
  have hfa : f.row.filter (fun _ => false) = [] := List.filter_eq_nil_iff.2 (by simp)
  simp [crashP, hk, bytesP, hfa]
theorem keeps_pending (S : PS) (keep : List Bool) : pendingP (crashP S keep) = 0 := by
  unfold pendingP crashP
  simp only [List.map_map]
  have : ∀ l : List PF, (l.map ((fun f : PF => f.row.length) ∘ fun f => { f with b := (f.row.filter fun p => keptAt keep (rankP S p.no)).foldl overP f.b, row := [] })).sum = 0 := by
    intro l
    induction l with
    | nil => rfl
    | cons f l ih => rw [List.map_cons, List.sum_cons, ih]; rfl
  exact this S.l
theorem V_RB {w : World} {b0 base : Nat} {Q : Nat → Prop} {v : Value} {xs : List Int} (h : Kd.V (Kd.int .u8) 5 w b0 Q v xs) (hb : w.heap.size ≤ base) : RB base NoL w v xs := by
  obtain ⟨A, c, rfl, hc, hF⟩ := h
  have hC := Kd.F_now hF
  refine ⟨A, c, rfl, hc, hC, fun ad e h0 => .inl ?_⟩
  obtain ⟨ad', e', h3⟩ := hC.2.2 h0
  rw [e] at e'
  cases e'
  obtain ⟨cs, h4, h5, h6⟩ := h3 0 _ (List.getElem?_eq_getElem h0)
  have hK : cs = [.int .u8 xs[0]] := h5
  have := h6 0 (.int .u8 xs[0]) (by rw [hK]; rfl)
  have h7 := World.block_lt_of_cell? w _ this
  have h8 : (ad.add (0 * (Kd.int .u8).sz + 0)).block = ad.block := by unfold Addr.add; split <;> rfl
  rw [h8] at h7
  omega
end Go.Proofs.Ytcpkoajnepijkaa

