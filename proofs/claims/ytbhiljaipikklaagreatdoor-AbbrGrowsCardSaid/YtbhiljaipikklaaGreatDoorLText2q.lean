/- Parts of the proof of the law that the last file states; declarations that nothing mentions are left out by a program. No conditions. -/
import Derived.Deep.RegionHeld3
import Derived.Below
import Derived.Test.YtbhiljaipikklaaGreatDoorLTextq
set_option linter.unusedVariables false
set_option linter.unusedSimpArgs false
section
namespace Go.Proofs.YtbhiljaipikklaaGreatDoorL
open Go Go.RowKit Go.Proofs.YtbhiljaipikklaaGreatDoorW.PrintWords
theorem backG_bd (at_ : Int) (h0 : 0 ≤ at_) : ∀ (l : List Nat) (o : Nat), (o : Int) ≤ at_ → (backG at_ l o : Int) ≤ at_
  | [], o, h => h
  | x :: l, o, h => by
    unfold backG
    refine backG_bd at_ h0 l _ ?_
    split
    · assumption
    · exact h
theorem backL_bd (s : ByteArray) (at_ : Int) (h0 : 0 ≤ at_) : (backL s at_ : Int) ≤ at_ := backG_bd at_ h0 _ 0 (by simpa using h0)
theorem makeS_six (s : ByteArray) : (makeS s).size ≤ 600 := by
  unfold makeS
  split
  · rw [cutS_size _ _ (backL_le _ _)]
    have := backL_bd (plainS s) 600 (by decide)
    omega
  · omega
theorem makeS_600 (s : ByteArray) : (makeS s).size ≤ 4294967296 := Nat.le_trans (makeS_six s) (by decide)
def putIn (m : ByteArray) (a : Nat) (p : ByteArray) : ByteArray := m.extract 0 a ++ p ++ m.extract a m.size
def insP (m : ByteArray) (a : Nat) (p : ByteArray) : (ByteArray × Nat) × Int := if 600 < m.size + p.size then ((m, a), 30) else ((putIn m a p, onL (putIn m a p) ((a : Int) + (p.size : Int))), 0)
def insV (m : ByteArray) (a : Nat) (p : ByteArray) : Value := .tuple #[.agg (bufV (insP m a p).1.1 (insP m a p).1.2), .int .i64 (insP m a p).2]
theorem insV_no {m : ByteArray} {a : Nat} {p : ByteArray} (h : 600 < m.size + p.size) : insV m a p = .tuple #[.agg (bufV m a), .int .i64 30] := by unfold insV insP; rw [if_pos h]
theorem insV_yes {m : ByteArray} {a : Nat} {p : ByteArray} (h : ¬ 600 < m.size + p.size) : insV m a p = .tuple #[.agg (bufV (putIn m a p) (onL (putIn m a p) ((a : Int) + (p.size : Int)))), .int .i64 0] := by unfold insV insP; rw [if_neg h]
theorem putIn_size (m : ByteArray) (a : Nat) (p : ByteArray) (h : a ≤ m.size) : (putIn m a p).size = m.size + p.size := by
  unfold putIn
  rw [ByteArray.size_append, ByteArray.size_append, ByteArray.size_extract, ByteArray.size_extract]
  omega
theorem Blk.two {w : World} {g : Nat} {t : TypeId} {a b : Value} (h : Blk w g t #[a, b]) : w.cell? ⟨g, 0, none⟩ = some a ∧ w.cell? ⟨g, 1, none⟩ = some b ∧ w.frozen? ⟨g, 0, none⟩ = false ∧ w.frozen? ⟨g, 1, none⟩ = false :=
  ⟨h.cell 0 rfl, h.cell 1 rfl, h.frozen 0, h.frozen 1⟩
set_option maxRecDepth 100000 in
set_option maxHeartbeats 2000000 in
theorem insert_calls (S t : ByteArray) (hS : S.size ≤ 4294967296) (ht : t.size ≤ 4294967296) (at_ : Int) (w : World) (hT : Lib.Utf8Tabs 0 1 w) :
    Calls Tryz.prog 25 #[.agg #[.string S, .int .i64 at_], .string t] w fun e w' =>
      e = .returned (insV (makeS S) (backL (makeS S) at_) (plainS t)) ∧ Below w.heap.size w w' := by
  have XM := Hd.mk (fun w1 (hb : Below w.heap.size w w1) => make_calls S hS at_ w1 (Utf8Tabs_below hT hb))
  have XP := Hd.mk (fun w1 (hb : Below w.heap.size w w1) => plain_calls t (by omega) w1 (Utf8Tabs_below hT hb))
  have HPS : Hd ((⟨(plainL t.data.toList).toArray⟩ : ByteArray) = plainS t) := ⟨rfl⟩
  have HM : Hd ((makeS S).size ≤ 68719476736) := ⟨by have h1 := makeS_size S; have h2 := plainS_size S; omega⟩
  have HP : Hd ((plainS t).size ≤ 68719476736) := ⟨by have h2 := plainS_size t; omega⟩
  have HA := Hd.mk (backL_le (makeS S) at_)
  rw [HPS.out] at XP
  generalize makeS S = m at *
  generalize backL m at_ = a at *
  generalize plainS t = p at *
  clear HPS hS ht hT
  go_enter Tryz.func25, Tryz.ntmps25
  go_upto_region 3 with (first
    | ((with_reducible refine gate_dst (N := 2) rfl ?_); refine box_event ?hg (N := 2) ?hd (cs := #[.string S, .int .i64 at_]) (t := 42) ?hr ?_; (case hd => rfl); (case hg => rfl); (case hr => first | (go_simp; done) | (go_simp; rfl)); intro g2 hg wg2 hx hb; have C0 := Hd.mk (show Blk wg2 g2 42 _ from hx); have HG2 : Hd (w.heap.size ≤ g2) := ⟨hg ▸ Nat.le_refl _⟩; have HB2 := Hd.mk hb; clear hx hb hg)
    | ((with_reducible refine gate_dst (N := 4) rfl ?_); refine box_event ?hg (N := 4) ?hd (cs := #[.string ByteArray.empty, .int .i64 0]) (t := 42) ?hr ?_; (case hd => rfl); (case hg => rfl); (case hr => first | (go_simp; done) | (go_simp; rfl)); intro g4 hg wg4 hx hb; have B4 := Hd.mk (show Blk wg4 g4 42 _ from hx); have C2 := Hd.mk (Blk.belowW C0.out hb); have HG4 : Hd (w.heap.size ≤ g4 ∧ g2 ≠ g4) := ⟨⟨hg ▸ HB2.out.size, fun e => by have := C0.out.lt; omega⟩⟩; have HB4 := Hd.mk (HB2.out.trans (hb.mono HB2.out.size)); clear HB2 C0; obtain ⟨c0, c1, f0, f1⟩ := Blk.two C2.out; clear hx hb hg)
    | (go_at_call 22; (with_reducible refine (XM.out _ HB4.out).mono ?_); rintro _ w5 ⟨rfl, hb⟩; have B5 := Hd.mk (Blk.belowW B4.out hb); have C5 := Hd.mk (Blk.belowW C2.out hb); have HB5 := Hd.mk (HB4.out.trans (hb.mono HB4.out.size)); clear hb HB4 B4 C2 XM c0 c1 f0 f1)
    | ((with_reducible refine gate_store (t := 42) (p := 2) rfl ?_); refine store_event rfl rfl (g := g2) (cells := bufV m a) (by first | rfl | (go_simp; done) | (go_simp; rfl)) (by first | rfl | (go_simp; done) | (go_simp; rfl)) C5.out infoBuf rfl (by simp [bufV, Value.oneCell']) ?_; intro ws hx hk hz hb; have C6 := Hd.mk (show Blk ws g2 42 #[.string m, .int .i64 (a : Int)] from hx); have B6 := Hd.mk (show Blk ws g4 42 _ from (hk.2 g4 B5.out.lt (fun e => HG4.out.2 e.symm)).trans B5.out); have HB6 := Hd.mk (hb HB5.out HG2.out); clear hx hk hz hb HB5 C5 B5)
    | (go_at_call 33; (with_reducible refine (XP.out _ HB6.out).mono ?_); rintro _ w7 ⟨rfl, hb⟩; have B7 := Hd.mk (Blk.belowW B6.out hb); have C7 := Hd.mk (Blk.belowW C6.out hb); have HB7 := Hd.mk (HB6.out.trans (hb.mono HB6.out.size)); clear hb HB6 B6 C6 XP; obtain ⟨c0, c1, f0, f1⟩ := Blk.two C7.out))
  by_cases h6 : 600 < m.size + p.size
  · have h6b : decide ((600 : Int) < (m.size : Int) + (p.size : Int)) = true := decide_eq_true (by omega)
    have h6n : decide (600 < m.size + p.size) = true := decide_eq_true h6
    have hb1 : (m.size : Int) ≤ 68719476736 := by have := HM.out; omega
    have hb2 : (p.size : Int) ≤ 68719476736 := by have := HP.out; omega
    have H6 := Hd.mk h6
    clear h6
    go_wp2_with (first
      | ((with_reducible refine gate_store (t := 42) (p := 4) rfl ?_); refine store_event rfl rfl (g := g4) (cells := bufV m a) (by first | rfl | (go_simp; done) | (go_simp; rfl)) (by first | rfl | (go_simp; done) | (go_simp; rfl)) B7.out infoBuf rfl (by simp [bufV, Value.oneCell']) ?_; intro ws hx hk hz hb; have B8 := Hd.mk hx; have HB8 := Hd.mk (hb HB7.out HG4.out.1); clear hx hk hz hb HB7 B7))
    exact ret_row_tmp (cs := bufV m a) (v := .int .i64 30) rfl rfl Tryz.underlying42 infoBuf rfl B8.out rfl rfl ⟨by rw [insV_no H6.out], HB8.out⟩
  · have h6b : decide ((600 : Int) < (m.size : Int) + (p.size : Int)) = false := decide_eq_false (by omega)
    have h6n : decide (600 < m.size + p.size) = false := decide_eq_false h6
    have hb1 : (m.size : Int) ≤ 68719476736 := by have := HM.out; omega
    have hb2 : (p.size : Int) ≤ 68719476736 := by have := HP.out; omega
    have H6 := Hd.mk h6
    have ha0 : (0 : Int) ≤ (a : Int) := Int.natCast_nonneg a
    have ha1 : (a : Int) ≤ (m.size : Int) := by have := HA.out; omega
    have han : a ≤ m.size := HA.out
    clear h6
    go_upto_region 5 with (fail)
    go_quiet (fail)
    have B8 := Hd.mk (B7.out.drewN nq)
    have HB8 := Hd.mk (below_drewN HB7.out nq)
    have XO := Hd.mk (fun w' => on_calls (putIn m a p) (by rw [putIn_size m a p HA.out]; omega) ((a : Int) + (p.size : Int)) w')
    have HI := Hd.mk (insV_yes H6.out (a := a))
    generalize onL (putIn m a p) ((a : Int) + (p.size : Int)) = n at XO HI
    unfold putIn at XO HI
    clear B7 HB7 h6b h6n han
    go_wp2_with (first
      | (go_at_call 44; (with_reducible refine (XO.out _).mono ?_); rintro _ w9 ⟨rfl, hb⟩; have B9 := Hd.mk (Blk.belowW B8.out hb); have HB9 := Hd.mk (HB8.out.trans (hb.mono HB8.out.size)); clear hb HB8 B8 XO c0 c1 f0 f1)
      | ((with_reducible refine gate_store (t := 42) (p := 4) rfl ?_); refine store_event rfl rfl (g := g4) (cells := bufV (m.extract 0 a ++ p ++ m.extract a m.size) n) (by first | rfl | (go_simp; done) | (go_simp; rfl)) (by first | rfl | (go_simp; done) | (go_simp; rfl)) B9.out infoBuf rfl (by simp [bufV, Value.oneCell']) ?_; intro ws hx hk hz hb; have BA := Hd.mk hx; have HBA := Hd.mk (hb HB9.out HG4.out.1); clear hx hk hz hb HB9 B9))
    exact ret_row_tmp (cs := bufV _ n) (v := .int .i64 0) rfl rfl Tryz.underlying42 infoBuf rfl BA.out rfl rfl ⟨by rw [HI.out], HBA.out⟩
end Go.Proofs.YtbhiljaipikklaaGreatDoorL
end
section
namespace Go.Proofs.YtbhiljaipikklaaGreatDoorL
open Go Go.RowKit
section
variable {P : Program} {ops : Array Oper} {Q : Exit → Act → World → Prop} {md : Region.Mode} {S : World → Prop}
theorem takeH {i : Nat} {oi : Oper} {v : Value} {fuel : Nat} {listed : Array Bool} {a : Act} {w : World} (hi' : ops.toList[i]? = some oi)
    (hs : Region.noSelect ops = true) (hf : Region.free md ops listed i = true) (hr : (Region.ready md ops listed).contains i = true)
    (hQ : ∀ c a w, Q (.panic c) (a.put oi.dst v) w → Q (.panic c) a w) (hy : YieldsIf P ops S oi v a) (hS : S w)
    (h : wpAnyH P md ops Q S fuel (listed.setIfInBounds i true) (a.put oi.dst v) w) : wpAnyH P md ops Q S (fuel + 1) listed a w :=
  wpAnyH_take (by rw [← Array.getElem?_toList]; exact hi') hs hf hr hQ hy hS h
theorem consH {fuel : Nat} {listed : Array Bool} {a : Act} {w : World} {i : Nat} {o : Oper} {rs : List Nat} (ho' : ops.toList[i]? = some o)
    (h : ∀ K' : Act → World → Prop, Shut (∀ a w, S w → wpAnyH P md ops Q S fuel (listed.setIfInBounds i true) a w → K' a w) → if Region.wanted o (yielded ops a.tmps) = true then Oper.wp P o a w K' Q else K' (a.put o.dst undef) w)
    (hs : AllReadyH P md ops Q S fuel listed a w rs) : AllReadyH P md ops Q S fuel listed a w (i :: rs) :=
  AllReadyH.cons (by rw [← Array.getElem?_toList]; exact ho') (fun K' hK => h K' (fun a w hS hW => hK a w hS (fun _ => hW))) hs
theorem regionH {id : Nat} {a : Act} {w : World} (S : World → Prop) (hm : P.follows .mixedOrders = true) (h : ∀ wd, Below w.heap.size w wd → wpAnyH P .any ops Q S ops.size (Array.replicate ops.size false) a wd) : (Code.region id ops true).wp P Q a w :=
  wp_region_held hm (h _ ((Below.refl _ w).drew))
end
end Go.Proofs.YtbhiljaipikklaaGreatDoorL
end
