/- Parts of the proof of the law that the last file states; declarations that nothing mentions are left out by a program. No conditions. -/
import Derived.Maps.OwnSet
import Derived.WalkSpells
import Derived.Test.YtbhiljaipikklaaGreatDoorLAbbrq
set_option linter.unusedVariables false
set_option linter.unusedSimpArgs false
namespace Go.Proofs.YtbhiljaipikklaaGreatDoorL
open Go Go.RowKit Go.MapKept Go.Proofs.YtbhiljaipikklaaGreatDoorW.PrintWords
def vv (t : ByteArray) : Value := .agg #[.string t]
def vvL (l : List (ByteArray × ByteArray)) : List (ByteArray × Value) := l.map fun p => (p.1, vv p.2)
theorem fnd_vv (s : ByteArray) : ∀ l : List (ByteArray × ByteArray), fnd s (vvL l) = (fnd s l).map vv
  | [] => rfl
  | p :: l => by
    have ih := fnd_vv s l
    unfold vvL at ih ⊢
    simp only [List.map_cons, fnd]
    split
    · rfl
    · exact ih
theorem put_vv (s t : ByteArray) : ∀ l : List (ByteArray × ByteArray), put s (vv t) (vvL l) = vvL (put s t l)
  | [] => rfl
  | p :: l => by
    have ih := put_vv s t l
    unfold vvL at ih ⊢
    simp only [List.map_cons, put]
    split
    · rfl
    · rw [ih]; rfl
theorem drop_vv (s : ByteArray) : ∀ l : List (ByteArray × ByteArray), drop_ s (vvL l) = vvL (drop_ s l)
  | [] => rfl
  | p :: l => by
    have ih := drop_vv s l
    unfold vvL at ih ⊢
    simp only [List.map_cons, drop_]
    split
    · rfl
    · rw [ih]; rfl
theorem vvL_len (l : List (ByteArray × ByteArray)) : (vvL l).length = l.length := by simp [vvL]
def TRep (w : World) (T : Nat) (mo : Option Nat) (l : List (ByteArray × ByteArray)) : Prop :=
  Blk w T 27 #[.map mo] ∧ match mo with
    | none => l = []
    | some M => MapStr w M (vvL l)
section
variable {w w' : World} {T : Nat} {mo : Option Nat} {l : List (ByteArray × ByteArray)}
theorem TRep.only {F : Nat → Prop} (h : TRep w T mo l) (ho : Only F w w') (hT : ¬ F T) (hM : ∀ M, mo = some M → ¬ F M) : TRep w' T mo l := by
  refine ⟨h.1.to (ho.block T h.1.lt hT), ?_⟩
  have h2 := h.2
  cases mo with
  | none => exact h2
  | some M => exact MapStr.to h2 (ho.block M (MapStr.lt h2) (hM M rfl))
theorem TRep.below (h : TRep w T mo l) (hb : Below w.heap.size w w') : TRep w' T mo l := h.only (F := fun _ => False) (Only.of_below hb) (fun h => h) (fun _ _ h => h)
theorem TRep.lt (h : TRep w T mo l) : T < w.heap.size ∧ ∀ M, mo = some M → M < w.heap.size := by
  refine ⟨h.1.lt, fun M e => ?_⟩
  subst e
  exact MapStr.lt h.2
def getP (s : ByteArray) (l : List (ByteArray × ByteArray)) : ByteArray × Bool := match fnd s l with
  | some t => (t, true)
  | none => (⟨#[]⟩, false)
theorem fnd_mem {s t : ByteArray} : ∀ {l : List (ByteArray × ByteArray)}, fnd s l = some t → ∃ p ∈ l, p.1 = s ∧ p.2 = t
  | p :: l, h => by
    unfold fnd at h
    split at h
    · exact ⟨p, List.mem_cons_self, by assumption, by injection h⟩
    · obtain ⟨q, hq, h1⟩ := fnd_mem h
      exact ⟨q, List.mem_cons_of_mem _ hq, h1⟩
theorem getP_size {s : ByteArray} {l : List (ByteArray × ByteArray)} {n : Nat} (h : ∀ p ∈ l, p.2.size ≤ n) : (getP s l).1.size ≤ n := by
  unfold getP
  cases hf : fnd s l with
  | none => exact Nat.zero_le _
  | some t =>
    obtain ⟨p, hp, _, rfl⟩ := fnd_mem hf
    exact h p hp
theorem look_nil (s : ByteArray) (w : World) : (Instr.lookup 25 (.map none) (.string s) true).run Tryz.prog w = .ok (.tuple #[vv ⟨#[]⟩, .bool false]) w := by
  simp [Instr.lookup, run_underlying Tryz.underlying25, run_checkKey Tryz.underlying9 (show IsKey .string (.string s) from trivial), run_findKey Tryz.underlying9 (show Instr.findNow .string (.string s) [] 0 = some none from rfl), Tryz.zeroValue62, Result.andThen, vv]
theorem TRep.look (h : TRep w T mo l) (s : ByteArray) : (Instr.lookup 25 (.map mo) (.string s) true).run Tryz.prog w = .ok (.tuple #[vv (getP s l).1, .bool (getP s l).2]) w := by
  have h2 := h.2
  cases mo with
  | none =>
    have h2 : l = [] := h2
    subst h2
    exact look_nil s w
  | some M =>
    have h2 : MapStr w M (vvL l) := h2
    have := h2.look (P := Tryz.prog) Tryz.underlying25 Tryz.underlying9 s Tryz.zeroValue62
    rw [this, fnd_vv]
    unfold getP
    cases fnd s l <;> rfl
end
set_option maxRecDepth 100000 in
set_option maxHeartbeats 1000000 in
theorem get_calls {w : World} {T : Nat} {mo : Option Nat} {l : List (ByteArray × ByteArray)} (h : TRep w T mo l) (s : ByteArray) :
    Calls Tryz.prog 10 #[.pointer (some ⟨T, 0, none⟩), .string s] w fun e w' => e = .returned (.tuple #[.string (getP s l).1, .bool (getP s l).2]) ∧ Below w.heap.size w w' := by
  have hc : w.cell? ⟨T, 0, none⟩ = some (.map mo) := h.1.cell 0 rfl
  have hl := h.look s
  generalize (getP s l).1 = t at hl ⊢
  generalize (getP s l).2 = b at hl ⊢
  unfold vv at hl
  clear h
  go_enter Tryz.func10, Tryz.ntmps10
  go_wp2
  go_ret2
  exact ⟨rfl, (Below.refl _ _).alloc (Nat.le_refl _) _⟩
theorem meaning_alloc (w : World) (t : ByteArray) : Below w.heap.size w (w.alloc (.cells #[.string t] 62)) := (Below.refl _ _).alloc (Nat.le_refl _) _
set_option maxRecDepth 100000 in
set_option maxHeartbeats 1000000 in
theorem drop_calls {w : World} {T : Nat} {mo : Option Nat} {l : List (ByteArray × ByteArray)} (h : TRep w T mo l) (s : ByteArray) :
    Calls Tryz.prog 17 #[.pointer (some ⟨T, 0, none⟩), .string s] w fun e w' => e = .returned (.bool (getP s l).2) ∧ TRep w' T mo (drop_ s l) ∧ Only (fun k => mo = some k) w w' := by
  have hc : w.cell? ⟨T, 0, none⟩ = some (.map mo) := h.1.cell 0 rfl
  have hl := h.look s
  have hb1 := meaning_alloc w (getP s l).1
  have H1 := Hd.mk (h.below hb1)
  have HB1 := Hd.mk hb1
  have HT := Hd.mk h.1.lt
  have hc1 := H1.out.1.cell 0 rfl
  have hn : mo = none → l = [] := fun e => by subst e; exact h.2
  generalize (getP s l).1 = t at hl hb1 H1 HB1 hc1 ⊢
  generalize (getP s l).2 = b at hl ⊢
  unfold vv at hl
  clear h hb1
  cases mo with
  | none =>
    have hd := fun ty w => Go.ChangeMaps.run_delete_nil (P := Tryz.prog) (w := w) (ty := ty) Tryz.underlying25 Tryz.underlying9 s
    have HN : Hd (l = []) := ⟨hn rfl⟩
    clear hn
    go_enter Tryz.func17, Tryz.ntmps17
    go_wp2
    go_ret
    exact ⟨rfl, by have h1 := H1.out; rw [HN.out] at h1 ⊢; exact h1, Only.of_below HB1.out⟩
  | some M =>
    have HM : Hd (MapStr (w.alloc (.cells #[.string t] 62)) M (vvL l)) := ⟨H1.out.2⟩
    clear hn
    go_enter Tryz.func17, Tryz.ntmps17
    go_wp2_with (with_reducible refine wpList_delete_str HM.out rfl (.tmp 19) (.tmp 20) rfl Tryz.underlying25 Tryz.underlying9 s rfl rfl ?_; intro w2 hm2 hg2; have HM2 := Hd.mk hm2; have HG2 := Hd.mk hg2; clear hm2 hg2)
    rw [drop_vv] at HM2
    have HO : Hd (Only (fun k => some M = some k) w w2) := ⟨(Only.of_below HB1.out).grown HG2.out (fun g e => .inl (by cases e; rfl))⟩
    have HT2 : Hd (TRep w2 T (some M) (drop_ s l)) := ⟨⟨H1.out.1.to (HG2.out.block T H1.out.1.lt (fun e => by cases e; exact (MapStr.ne_blk HM.out H1.out.1) rfl)), HM2.out⟩⟩
    go_wp2
    go_ret
    exact ⟨rfl, HT2.out, HO.out⟩
def setP (s to_ : ByteArray) (l : List (ByteArray × ByteArray)) : Int × List (ByteArray × ByteArray) :=
  if namedS s = false then (80, l) else if 100 < (plainS to_).size then (30, l) else if (getP s l).2 = false ∧ 16 ≤ l.length then (81, l) else (0, put s (plainS to_) l)
def SetPost (w : World) (T : Nat) (mo : Option Nat) (r : Int × List (ByteArray × ByteArray)) (e : Ending) (w' : World) : Prop :=
  e = .returned (.int .i64 r.1) ∧ (∃ mo', TRep w' T mo' r.2 ∧ (mo' = mo ∨ ∃ M, mo' = some M ∧ w.heap.size ≤ M)) ∧ Only (fun k => k = T ∨ mo = some k) w w'
theorem TRep.len_fact {w : World} {T : Nat} {mo : Option Nat} {l : List (ByteArray × ByteArray)} (h : TRep w T mo l) (ty : TypeId) : (Builtin.len_ #[25] ty #[.map mo]).run Tryz.prog w = .ok (.int .i64 l.length) w := by
  have h2 := h.2
  cases mo with
  | none =>
    have h2 : l = [] := h2
    subst h2
    exact Go.Maps.len_nil Tryz.underlying25 ty
  | some M =>
    have h2 : MapStr w M (vvL l) := h2
    have := h2.len (P := Tryz.prog) Tryz.underlying25 ty
    rw [vvL_len] at this
    exact this
set_option maxRecDepth 100000 in
set_option maxHeartbeats 2000000 in
theorem set_calls {w : World} {T : Nat} {mo : Option Nat} {l : List (ByteArray × ByteArray)} (h : TRep w T mo l) (hl : l.length ≤ 100) (s to_ : ByteArray) (hs : s.size ≤ 4294967296) (ht : to_.size ≤ 4294967296) (hT : Lib.Utf8Tabs 0 1 w) :
    Calls Tryz.prog 16 #[.pointer (some ⟨T, 0, none⟩), .string s, .string to_] w fun e w' => SetPost w T mo (setP s to_ l) e w' := by
  have XP := Hd.mk (plain_calls to_ (by omega) w hT)
  have HPS : Hd ((⟨(plainL to_.data.toList).toArray⟩ : ByteArray) = plainS to_) := ⟨rfl⟩
  rw [HPS.out] at XP
  have XN := Hd.mk (fun w1 (hb : Below w.heap.size w w1) => named_calls s hs w1 (Utf8Tabs_below hT hb))
  have HR : Hd (setP s to_ l = setP s to_ l) := ⟨rfl⟩
  have HL := Hd.mk hl
  have H0 := Hd.mk h
  have HSP : Hd (setP s to_ l = if namedS s = false then (80, l) else if 100 < (plainS to_).size then (30, l) else if (getP s l).2 = false ∧ 16 ≤ l.length then (81, l) else (0, put s (plainS to_) l)) := ⟨rfl⟩
  have HPZ : Hd ((plainS to_).size ≤ 68719476736) := ⟨by have := plainS_size to_; omega⟩
  generalize plainS to_ = p at XP HSP HPZ
  clear h hT hs ht HPS hl
  go_enter Tryz.func16, Tryz.ntmps16
  go_wp2_with fail
  go_at_call 33
  with_reducible refine (XP.out).mono ?_
  rintro _ w1 ⟨rfl, hb1⟩
  have H1 := Hd.mk (H0.out.below hb1)
  have HB1 := Hd.mk hb1
  have hc : w1.cell? ⟨T, 0, none⟩ = some (.map mo) := H1.out.1.cell 0 rfl
  have hlk := H1.out.look s
  have hbm := meaning_alloc w1 (getP s l).1
  have H2 := Hd.mk (H1.out.below hbm)
  have HB2 := Hd.mk (HB1.out.trans (hbm.mono HB1.out.size))
  have HBN : Hd (mo = none → (getP s l).2 = false) := ⟨fun e => by
    have h2 := H1.out.2
    subst e
    have h2 : l = [] := h2
    rw [h2]
    rfl⟩
  generalize (getP s l).1 = t at hlk hbm H2 HB2
  generalize (getP s l).2 = b at hlk HSP HBN
  unfold vv at hlk
  clear hb1 hbm XP H0
  go_wp2_with fail
  go_at_call 36
  with_reducible refine (XN.out _ HB2.out).mono ?_
  rintro _ w3 ⟨rfl, hb3⟩
  have H3 := Hd.mk (H2.out.below hb3)
  have HB3 := Hd.mk (HB2.out.trans (hb3.mono HB2.out.size))
  clear hc hlk hb3 XN H2 H1 HB2 HB1
  have hc : w3.cell? ⟨T, 0, none⟩ = some (.map mo) := H3.out.1.cell 0 rfl
  cases hn : namedS s with
  | false =>
    have HE : Hd (setP s to_ l = (80, l)) := ⟨by rw [HSP.out, if_pos hn]⟩
    clear hn HSP
    go_wp2
    go_ret
    exact ⟨by rw [HE.out]; rfl, ⟨mo, by rw [HE.out]; exact H3.out, .inl rfl⟩, Only.of_below HB3.out⟩
  | true =>
    rw [if_neg (by rw [hn]; decide)] at HSP
    clear hn
    by_cases hp : 100 < p.size
    · have hp1 : decide ((100 : Int) < (p.size : Int)) = true := decide_eq_true (by omega)
      have hp2 : decide (100 < p.size) = true := decide_eq_true hp
      have HE : Hd (setP s to_ l = (30, l)) := ⟨by rw [HSP.out, if_pos hp]⟩
      clear hp HSP
      go_wp2
      go_ret
      exact ⟨by rw [HE.out]; rfl, ⟨mo, by rw [HE.out]; exact H3.out, .inl rfl⟩, Only.of_below HB3.out⟩
    · have hp1 : decide ((100 : Int) < (p.size : Int)) = false := decide_eq_false (by omega)
      have hp2 : decide (100 < p.size) = false := decide_eq_false hp
      rw [if_neg hp] at HSP
      have hln := fun ty => H3.out.len_fact ty
      by_cases hful : b = false ∧ 16 ≤ l.length
      · have HE : Hd (setP s to_ l = (81, l)) := ⟨by rw [HSP.out, if_pos hful]⟩
        obtain ⟨rfl, h16⟩ := hful
        have h161 : decide ((16 : Int) ≤ (l.length : Int)) = true := decide_eq_true (by omega)
        have h162 : decide (16 ≤ l.length) = true := decide_eq_true h16
        clear hp HSP h16
        go_wp2
        go_ret
        exact ⟨by rw [HE.out]; rfl, ⟨mo, by rw [HE.out]; exact H3.out, .inl rfl⟩, Only.of_below HB3.out⟩
      · rw [if_neg hful] at HSP
        have HFU := Hd.mk hful
        clear hp hful
        cases mo with
        | none =>
          have HN : Hd (l = []) := ⟨H3.out.2⟩
          have hmm := @run_makeMap Tryz.prog
          have hnil := fun w => run_eql_map_nil (P := Tryz.prog) w 25 9 62 none Tryz.underlying25
          obtain rfl := HBN.out rfl
          have h161 : decide ((16 : Int) ≤ (l.length : Int)) = false := decide_eq_false (by rw [HN.out]; simp)
          have h162 : decide (16 ≤ l.length) = false := decide_eq_false (by rw [HN.out]; simp)
          have hf := H3.out.1.frozen 0
          have hlt := H3.out.1.lt
          have HM : Hd (MapStr ((w3.setCell ⟨T, 0, none⟩ (.map (some w3.heap.size))).alloc (.map #[] 0)) w3.heap.size (vvL [])) := ⟨by
            have := MapStr.new (w3.setCell ⟨T, 0, none⟩ (.map (some w3.heap.size)))
            have hz : (w3.setCell ⟨T, 0, none⟩ (.map (some w3.heap.size))).heap.size = w3.heap.size := by simp [World.setCell]
            rw [hz] at this
            exact this⟩
          have HT2 : Hd (Blk ((w3.setCell ⟨T, 0, none⟩ (.map (some w3.heap.size))).alloc (.map #[] 0)) T 27 #[.map (some w3.heap.size)]) := ⟨by
            have := (H3.out.1.set_ 0 (.map (some w3.heap.size))).alloc (.map #[] 0)
            simpa using this⟩
          have HO2 : Hd (Only (fun k => k = T ∨ (none : Option Nat) = some k) w ((w3.setCell ⟨T, 0, none⟩ (.map (some w3.heap.size))).alloc (.map #[] 0))) := ⟨((Only.of_below HB3.out).setCell (.inl (.inl rfl)) _).alloc _⟩
          clear HBN
          go_wp2_with (with_reducible refine wpList_mapUpdate_str HM.out rfl (.tmp 51) (.tmp 52) (.tmp 54) rfl Tryz.underlying25 Tryz.underlying9 s (vv p) rfl rfl rfl ?_; intro w4 hm4 hg4; have HM4 := Hd.mk hm4; have HG4 := Hd.mk hg4; clear hm4 hg4)
          rw [put_vv] at HM4
          have HE : Hd (setP s to_ l = (0, put s p [])) := ⟨by rw [HSP.out, HN.out]⟩
          have HT4 : Hd (TRep w4 T (some w3.heap.size) (put s p [])) := ⟨⟨HT2.out.to (HG4.out.block T HT2.out.lt (fun e => by cases e; exact (MapStr.ne_blk HM.out HT2.out) rfl)), HM4.out⟩⟩
          have HO4 : Hd (Only (fun k => k = T ∨ (none : Option Nat) = some k) w w4) := ⟨HO2.out.grown HG4.out (fun g e => .inr (by cases e; exact HB3.out.size))⟩
          clear hmm hnil
          go_wp2
          go_ret
          exact ⟨by rw [HE.out]; rfl, ⟨some w3.heap.size, by rw [HE.out]; exact HT4.out, .inr ⟨_, rfl, HB3.out.size⟩⟩, HO4.out⟩
        | some M =>
          have HE : Hd (setP s to_ l = (0, put s p l)) := HSP
          have HM : Hd (MapStr w3 M (vvL l)) := ⟨H3.out.2⟩
          have hl1 : (l.length : Int) ≤ 100 := by have := HL.out; omega
          have hnil := fun w => run_eql_map_nil (P := Tryz.prog) w 25 9 62 (some M) Tryz.underlying25
          clear HBN HSP
          cases b with
          | true =>
            go_wp2_with (with_reducible refine wpList_mapUpdate_str HM.out rfl (.tmp 51) (.tmp 52) (.tmp 54) rfl Tryz.underlying25 Tryz.underlying9 s (vv p) rfl rfl rfl ?_; intro w4 hm4 hg4; have HM4 := Hd.mk hm4; have HG4 := Hd.mk hg4; clear hm4 hg4)
            rw [put_vv] at HM4
            have HT4 : Hd (TRep w4 T (some M) (put s p l)) := ⟨⟨H3.out.1.to (HG4.out.block T H3.out.1.lt (fun e => by cases e; exact (MapStr.ne_blk HM.out H3.out.1) rfl)), HM4.out⟩⟩
            have HO4 : Hd (Only (fun k => k = T ∨ some M = some k) w w4) := ⟨(Only.of_below HB3.out).grown HG4.out (fun g e => .inl (.inr e))⟩
            clear hnil
            go_wp2
            go_ret
            exact ⟨by rw [HE.out]; rfl, ⟨some M, by rw [HE.out]; exact HT4.out, .inl rfl⟩, HO4.out⟩
          | false =>
            have h161 : decide ((16 : Int) ≤ (l.length : Int)) = false := decide_eq_false (by have := HFU.out; simp at this; omega)
            have h162 : decide (16 ≤ l.length) = false := decide_eq_false (by have := HFU.out; simp at this; omega)
            go_wp2_with (with_reducible refine wpList_mapUpdate_str HM.out rfl (.tmp 51) (.tmp 52) (.tmp 54) rfl Tryz.underlying25 Tryz.underlying9 s (vv p) rfl rfl rfl ?_; intro w4 hm4 hg4; have HM4 := Hd.mk hm4; have HG4 := Hd.mk hg4; clear hm4 hg4)
            rw [put_vv] at HM4
            have HT4 : Hd (TRep w4 T (some M) (put s p l)) := ⟨⟨H3.out.1.to (HG4.out.block T H3.out.1.lt (fun e => by cases e; exact (MapStr.ne_blk HM.out H3.out.1) rfl)), HM4.out⟩⟩
            have HO4 : Hd (Only (fun k => k = T ∨ some M = some k) w w4) := ⟨(Only.of_below HB3.out).grown HG4.out (fun g e => .inl (.inr e))⟩
            clear hnil
            go_wp2
            go_ret
            exact ⟨by rw [HE.out]; rfl, ⟨some M, by rw [HE.out]; exact HT4.out, .inl rfl⟩, HO4.out⟩
end Go.Proofs.YtbhiljaipikklaaGreatDoorL

