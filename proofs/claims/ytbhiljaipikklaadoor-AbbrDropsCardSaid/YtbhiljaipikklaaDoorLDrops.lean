/- Abbreviations: the walk of AbbrDrops. No conditions. -/
import Derived.Test.YtbhiljaipikklaaDoorLAlive
import Derived.Test.YtbhiljaipikklaaDoorLDropsP
namespace Go.Proofs.YtbhiljaipikklaaDoorL
set_option linter.unusedVariables false
set_option linter.unusedSimpArgs false
open Go Go.RowKit Go.MapKept Go.Proofs.YtbhiljaipikklaaDoorW.PrintWords
attribute [local go_sem high] eqBuf

set_option maxRecDepth 100000 in
set_option maxHeartbeats 4000000 in
theorem drops_walk (s t : ByteArray) (hs : s.size ≤ 140737488351232) (ht : t.size ≤ 140737488351232) (w : World) (hT : Lib.Utf8Tabs 0 1 w) :
    Calls Tryd.prog 4 #[.string s, .string t] w fun e w' => e = .returned (.bool true) ∧ Below w.heap.size w w' := by
  have HTT := Hd.mk hT
  have HSS := Hd.mk hs
  have HTS := Hd.mk ht
  clear hT hs ht
  have hs0 : (0 : Int) ≤ (s.size : Int) := Int.natCast_nonneg _
  have ht0 : (0 : Int) ≤ (t.size : Int) := Int.natCast_nonneg _
  go_enter Tryd.func4, Tryd.ntmps4
  go_upto_region 2 with (first
    | ((with_reducible refine gate_dst (N := 5) rfl ?_); refine box_event ?hg (N := 5) ?hd (cs := #[.map none]) (t := 29) ?hr ?_; (case hd => rfl); (case hg => rfl); (case hr => first | (go_simp; done) | (go_simp; rfl)); intro g5 hg wg5 hx hb; have HT := Hd.mk (TS.new (P := fun k => w.heap.size ≤ k) (show Blk wg5 g5 29 #[.map none] from hx) (hg ▸ Nat.le_refl _)); have HB := Hd.mk hb; clear hx hb hg))
  by_cases h1 : 100 < s.size
  · have q1 : decide (100 < (s.size : Int)) = true := decide_eq_true (by omega)
    have q2 : decide (100 < s.size) = true := decide_eq_true h1
    clear h1
    go_wp2_with fail
    go_at_call 7
    have XS := alive_calls _ (Utf8Tabs_below HTT.out HB.out)
    with_reducible refine XS.mono ?_
    rintro _ we ⟨rfl, hb⟩
    have HE := Hd.mk (HB.out.trans (hb.mono HB.out.size))
    clear XS hb
    go_wp2
    go_ret
    exact ⟨rfl, HE.out⟩
  have q1 : decide (100 < (s.size : Int)) = false := decide_eq_false (by omega)
  have q2 : decide (100 < s.size) = false := decide_eq_false h1
  by_cases h2 : 1000 < t.size
  · have q3 : decide (1000 < (t.size : Int)) = true := decide_eq_true (by omega)
    have q4 : decide (1000 < t.size) = true := decide_eq_true h2
    clear h1 h2
    go_wp2_with fail
    go_at_call 7
    have XS := alive_calls _ (Utf8Tabs_below HTT.out HB.out)
    with_reducible refine XS.mono ?_
    rintro _ we ⟨rfl, hb⟩
    have HE := Hd.mk (HB.out.trans (hb.mono HB.out.size))
    clear XS hb
    go_wp2
    go_ret
    exact ⟨rfl, HE.out⟩
  have q3 : decide (1000 < (t.size : Int)) = false := decide_eq_false (by omega)
  have q4 : decide (1000 < t.size) = false := decide_eq_false h2
  have HS1 : Hd (s.size ≤ 4294967296) := ⟨by omega⟩
  have HS2 : Hd (t.size ≤ 4294967296) := ⟨by omega⟩
  clear h1 h2
  have XC := set_ts HT.out (fun k hk => Nat.le_trans HB.out.size hk) s t HS1.out HS2.out (Utf8Tabs_below HTT.out HB.out)
  by_cases h3 : (setP s t []).1 = 0
  · obtain ⟨hn, hp⟩ := set_zero h3
    rw [set_one hn hp] at XC
    clear h3
    have HL := Hd.mk (drops_law hn hp)
    have HM : Hd (makeS s = s) := ⟨makeS_self (named_size hn).2.2 (by have := (named_size hn).2.1; omega)⟩
    have HE := Hd.mk (backL_end s (Int.le_refl _))
    have HP : Hd ((⟨(plainL t.data.toList).toArray⟩ : ByteArray) = plainS t) := ⟨rfl⟩
    have HG1 := Hd.mk (getP_one s (plainS t))
    have HG2 := Hd.mk (drop_one s (plainS t))
    have HG3 := Hd.mk (grow_none s s.size)
    clear hn hp
    go_upto_region 4 with (first
      | (go_at_call 8; (with_reducible refine XC.mono ?_); rintro _ w1 ⟨rfl, ht, ho, _⟩; replace HT := Hd.mk ht; replace HB := Hd.mk (new_below HB.out ho); clear XC ht ho))
    have XK := Hd.mk (fun w1 (hb : Below w.heap.size w w1) => make_calls s HS1.out (s.size : Int) w1 (Utf8Tabs_below HTT.out hb))
    rw [HM.out, HE.out] at XK
    have XG := Hd.mk (fun w1 (hb : Below w.heap.size w w1) (l : List (ByteArray × ByteArray)) (ht : TS (fun k => w.heap.size ≤ k) w1 g5 l) => grow_ts ht s HS1.out (s.size : Int) (Utf8Tabs_below HTT.out hb))
    rw [HM.out, HE.out] at XG
    have XG1 := Hd.mk (fun w1 hb ht => XG.out w1 hb [(s, plainS t)] ht)
    have XG2 := Hd.mk (fun w1 hb ht => XG.out w1 hb [] ht)
    rw [HG3.out] at XG2
    clear XG HG3
    have XP := Hd.mk (fun w1 (hb : Below w.heap.size w w1) => plain_calls t (by have := HS2.out; omega) w1 (Utf8Tabs_below HTT.out hb))
    rw [HP.out] at XP
    generalize plainS t = p at *
    generalize growP s s.size [(s, p)] = c at *
    obtain ⟨⟨cs, ca⟩, is⟩ := c
    clear HP HM HE
    go_upto_region 5 with (first
      | (go_at_call 9; (with_reducible refine (XK.out _ HB.out).mono ?_); rintro _ w2 ⟨rfl, hb⟩; replace HT := Hd.mk (HT.out.below hb); replace HB := Hd.mk (HB.out.trans (hb.mono HB.out.size)); clear hb XK)
      | ((with_reducible refine gate_dst (N := 6) rfl ?_); refine box_event ?hg (N := 6) ?hd (cs := #[.string ByteArray.empty, .int .i64 0]) (t := 34) ?hr ?_; (case hd => rfl); (case hg => rfl); (case hr => first | (go_simp; done) | (go_simp; rfl)); intro g6 hg wg6 hx hb; have C1 := Hd.mk (show Blk wg6 g6 34 _ from hx); have HG6 : Hd (w.heap.size ≤ g6 ∧ g5 ≠ g6) := ⟨hg ▸ HB.out.size, fun e => by have := HT.out.lt; omega⟩; replace HT := Hd.mk (HT.out.below hb); replace HB := Hd.mk (HB.out.trans (hb.mono HB.out.size)); clear hx hb hg)
      | ((with_reducible refine gate_store (t := 34) (p := 6) rfl ?_); refine store_event rfl rfl (g := g6) (cells := bufV s s.size) (by first | rfl | (go_simp; done) | (go_simp; rfl)) (by first | rfl | (go_simp; done) | (go_simp; rfl)) C1.out infoBuf rfl (by simp [bufV, Value.oneCell']) ?_; intro ws hx hk hz hb; replace HT := Hd.mk (HT.out.store C1.out HG6.out.2 hk); have Bg6 := Hd.mk (show Blk ws g6 34 (bufV s s.size) from hx); replace HB := Hd.mk (hb HB.out HG6.out.1); clear hx hk hz hb C1))
    obtain ⟨c0, c1, f0, f1⟩ := Blk.two Bg6.out
    go_upto_region 6 with (first
      | (go_at_call 10; have XS := XG1.out _ HB.out HT.out; unfold growV at XS; dsimp only at XS; (with_reducible refine XS.mono ?_); rintro _ w3 ⟨rfl, ht, hb⟩; replace Bg6 := Hd.mk (Blk.belowW Bg6.out hb); replace HT := Hd.mk ht; replace HB := Hd.mk (HB.out.trans (hb.mono HB.out.size)); clear XS ht hb c0 c1 f0 f1)
      | ((with_reducible refine gate_dst (N := 7) rfl ?_); refine box_event ?hg (N := 7) ?hd (cs := #[.string ByteArray.empty, .int .i64 0]) (t := 34) ?hr ?_; (case hd => rfl); (case hg => rfl); (case hr => first | (go_simp; done) | (go_simp; rfl)); intro g7 hg wg7 hx hb; have C2 := Hd.mk (show Blk wg7 g7 34 _ from hx); have HG7 : Hd (w.heap.size ≤ g7 ∧ g5 ≠ g7) := ⟨hg ▸ HB.out.size, fun e => by have := HT.out.lt; omega⟩; have Ng62 : Hd (g6 ≠ g7) := ⟨fun e => by have := Bg6.out.lt; omega⟩; replace Bg6 := Hd.mk (Blk.belowW Bg6.out hb); replace HT := Hd.mk (HT.out.below hb); replace HB := Hd.mk (HB.out.trans (hb.mono HB.out.size)); clear hx hb hg)
      | ((with_reducible refine gate_store (t := 34) (p := 7) rfl ?_); refine store_event rfl rfl (g := g7) (cells := bufV cs ca) (by first | rfl | (go_simp; done) | (go_simp; rfl)) (by first | rfl | (go_simp; done) | (go_simp; rfl)) C2.out infoBuf rfl (by simp [bufV, Value.oneCell']) ?_; intro ws hx hk hz hb; replace Bg6 := Hd.mk (show Blk ws g6 34 _ from (hk.2 g6 Bg6.out.lt Ng62.out).trans Bg6.out); replace HT := Hd.mk (HT.out.store C2.out HG7.out.2 hk); have Bg7 := Hd.mk (show Blk ws g7 34 (bufV cs ca) from hx); replace HB := Hd.mk (hb HB.out HG7.out.1); clear hx hk hz hb C2))
    go_upto_region 7 with (first
      | (go_at_call 11; have XS := drop_ts HT.out s; rw [HG1.out, HG2.out] at XS; (with_reducible refine XS.mono ?_); rintro _ w4 ⟨rfl, ht, ho, hk⟩; replace HT := Hd.mk ht; replace Bg6 := Hd.mk (hk _ _ _ Bg6.out HG6.out.2); replace Bg7 := Hd.mk (hk _ _ _ Bg7.out HG7.out.2); replace HB := Hd.mk (new_below HB.out ho); clear XS ht ho hk))
    obtain ⟨c0, c1, f0, f1⟩ := Blk.two Bg6.out
    go_upto_region 8 with (first
      | (go_at_call 10; have XS := XG2.out _ HB.out HT.out; unfold growV at XS; (with_reducible refine XS.mono ?_); rintro _ w5 ⟨rfl, ht, hb⟩; replace Bg6 := Hd.mk (Blk.belowW Bg6.out hb); replace Bg7 := Hd.mk (Blk.belowW Bg7.out hb); replace HT := Hd.mk ht; replace HB := Hd.mk (HB.out.trans (hb.mono HB.out.size)); clear XS ht hb c0 c1 f0 f1)
      | ((with_reducible refine gate_dst (N := 10) rfl ?_); refine box_event ?hg (N := 10) ?hd (cs := #[.string ByteArray.empty, .int .i64 0]) (t := 34) ?hr ?_; (case hd => rfl); (case hg => rfl); (case hr => first | (go_simp; done) | (go_simp; rfl)); intro g10 hg wg10 hx hb; have C3 := Hd.mk (show Blk wg10 g10 34 _ from hx); have HG10 : Hd (w.heap.size ≤ g10 ∧ g5 ≠ g10) := ⟨hg ▸ HB.out.size, fun e => by have := HT.out.lt; omega⟩; have Ng63 : Hd (g6 ≠ g10) := ⟨fun e => by have := Bg6.out.lt; omega⟩; replace Bg6 := Hd.mk (Blk.belowW Bg6.out hb); have Ng73 : Hd (g7 ≠ g10) := ⟨fun e => by have := Bg7.out.lt; omega⟩; replace Bg7 := Hd.mk (Blk.belowW Bg7.out hb); replace HT := Hd.mk (HT.out.below hb); replace HB := Hd.mk (HB.out.trans (hb.mono HB.out.size)); clear hx hb hg)
      | ((with_reducible refine gate_store (t := 34) (p := 10) rfl ?_); refine store_event rfl rfl (g := g10) (cells := bufV s s.size) (by first | rfl | (go_simp; done) | (go_simp; rfl)) (by first | rfl | (go_simp; done) | (go_simp; rfl)) C3.out infoBuf rfl (by simp [bufV, Value.oneCell']) ?_; intro ws hx hk hz hb; replace Bg6 := Hd.mk (show Blk ws g6 34 _ from (hk.2 g6 Bg6.out.lt Ng63.out).trans Bg6.out); replace Bg7 := Hd.mk (show Blk ws g7 34 _ from (hk.2 g7 Bg7.out.lt Ng73.out).trans Bg7.out); replace HT := Hd.mk (HT.out.store C3.out HG10.out.2 hk); have Bg10 := Hd.mk (show Blk ws g10 34 (bufV s s.size) from hx); replace HB := Hd.mk (hb HB.out HG10.out.1); clear hx hk hz hb C3))
    cases is with
    | true =>
      obtain rfl : cs = p := HL.out.1 rfl
      rename_i KQ hKQ
      refine regionH (fun w' : World => (w'.cell? ⟨g10, 0, none⟩ = some (.string s) ∧ w'.cell? ⟨g10, 1, none⟩ = some (.int .i64 (s.size : Int))) ∧ (w'.cell? ⟨g6, 0, none⟩ = some (.string s) ∧ w'.cell? ⟨g6, 1, none⟩ = some (.int .i64 (s.size : Int))) ∧ w'.cell? ⟨g7, 0, none⟩ = some (.string cs)) (by kernel_rfl) (fun wd hb => ?_)
      replace Bg6 := Hd.mk (Blk.belowW Bg6.out hb)
      replace Bg7 := Hd.mk (Blk.belowW Bg7.out hb)
      replace Bg10 := Hd.mk (Blk.belowW Bg10.out hb)
      replace HB := Hd.mk (HB.out.trans (hb.mono HB.out.size))
      clear hb
      have hHd : (fun w' : World => (w'.cell? ⟨g10, 0, none⟩ = some (.string s) ∧ w'.cell? ⟨g10, 1, none⟩ = some (.int .i64 (s.size : Int))) ∧ (w'.cell? ⟨g6, 0, none⟩ = some (.string s) ∧ w'.cell? ⟨g6, 1, none⟩ = some (.int .i64 (s.size : Int))) ∧ w'.cell? ⟨g7, 0, none⟩ = some (.string cs)) wd := ⟨⟨Bg10.out.cell 0 rfl, Bg10.out.cell 1 rfl⟩, ⟨Bg6.out.cell 0 rfl, Bg6.out.cell 1 rfl⟩, Bg7.out.cell 0 rfl⟩
      refine wpAnyH_ready (rs := [0]) (by kernel_rfl) (by simp) ?_
      refine consH rfl (fun K hK => ?_) AllReadyH.nil
      rw [if_pos (by first | rfl | (go_simp; done) | (go_simp; rfl))]
      go_simp
      go_at_call 7
      have XS := alive_calls _ (Utf8Tabs_below HTT.out HB.out)
      with_reducible refine XS.mono ?_
      rintro _ wq0 ⟨rfl, hb⟩
      replace Bg6 := Hd.mk (Blk.belowW Bg6.out hb)
      replace Bg7 := Hd.mk (Blk.belowW Bg7.out hb)
      replace Bg10 := Hd.mk (Blk.belowW Bg10.out hb)
      replace HB := Hd.mk (HB.out.trans (hb.mono HB.out.size))
      clear hb hHd XS
      have hHd : (fun w' : World => (w'.cell? ⟨g10, 0, none⟩ = some (.string s) ∧ w'.cell? ⟨g10, 1, none⟩ = some (.int .i64 (s.size : Int))) ∧ (w'.cell? ⟨g6, 0, none⟩ = some (.string s) ∧ w'.cell? ⟨g6, 1, none⟩ = some (.int .i64 (s.size : Int))) ∧ w'.cell? ⟨g7, 0, none⟩ = some (.string cs)) wq0 := ⟨⟨Bg10.out.cell 0 rfl, Bg10.out.cell 1 rfl⟩, ⟨Bg6.out.cell 0 rfl, Bg6.out.cell 1 rfl⟩, Bg7.out.cell 0 rfl⟩
      go_simp
      refine hK.out _ _ hHd ?_
      clear hK K
      try simp only [Act.put, List.setIfInBounds_toArray, List.set_cons_zero, List.set_cons_succ]
      refine takeH (i := 1) (v := ?v1) rfl (by kernel_rfl) (by kernel_rfl) (by kernel_rfl) (fun _ _ _ h => h) (Or.inl ⟨by rfl, ?hy1⟩) (by assumption) ?rest1
      case hy1 => (intro w hSw; (try dsimp only at hSw); go_simp; try (with_reducible rfl))
      case rest1 =>
      try simp only [Act.put, List.setIfInBounds_toArray, List.set_cons_zero, List.set_cons_succ]
      refine takeH (i := 2) (v := ?v2) rfl (by kernel_rfl) (by kernel_rfl) (by kernel_rfl) (fun _ _ _ h => h) (Or.inl ⟨by rfl, ?hy2⟩) (by assumption) ?rest2
      case hy2 => (intro w hSw; (try dsimp only at hSw); go_simp; try (with_reducible rfl))
      case rest2 =>
      try simp only [Act.put, List.setIfInBounds_toArray, List.set_cons_zero, List.set_cons_succ]
      refine takeH (i := 3) (v := ?v3) rfl (by kernel_rfl) (by kernel_rfl) (by kernel_rfl) (fun _ _ _ h => h) (Or.inl ⟨by rfl, ?hy3⟩) (by assumption) ?rest3
      case hy3 => (intro w hSw; (try dsimp only at hSw); go_simp; try (with_reducible rfl))
      case rest3 =>
      try simp only [Act.put, List.setIfInBounds_toArray, List.set_cons_zero, List.set_cons_succ]
      refine takeH (i := 4) (v := ?v4) rfl (by kernel_rfl) (by kernel_rfl) (by kernel_rfl) (fun _ _ _ h => h) (Or.inl ⟨by rfl, ?hy4⟩) (by assumption) ?rest4
      case hy4 => (intro w hSw; (try dsimp only at hSw); go_simp; try (with_reducible rfl))
      case rest4 =>
      try simp only [Act.put, List.setIfInBounds_toArray, List.set_cons_zero, List.set_cons_succ]
      refine takeH (i := 5) (v := ?v5) rfl (by kernel_rfl) (by kernel_rfl) (by kernel_rfl) (fun _ _ _ h => h) (Or.inl ⟨by rfl, ?hy5⟩) (by assumption) ?rest5
      case hy5 => (intro w hSw; (try dsimp only at hSw); go_simp; try (with_reducible rfl))
      case rest5 =>
      try simp only [Act.put, List.setIfInBounds_toArray, List.set_cons_zero, List.set_cons_succ]
      refine takeH (i := 6) (v := ?v6) rfl (by kernel_rfl) (by kernel_rfl) (by kernel_rfl) (fun _ _ _ h => h) (Or.inl ⟨by rfl, ?hy6⟩) (by assumption) ?rest6
      case hy6 => (intro w hSw; (try dsimp only at hSw); go_simp; try (with_reducible rfl))
      case rest6 =>
      try simp only [Act.put, List.setIfInBounds_toArray, List.set_cons_zero, List.set_cons_succ]
      refine takeH (i := 7) (v := ?v7) rfl (by kernel_rfl) (by kernel_rfl) (by kernel_rfl) (fun _ _ _ h => h) (Or.inl ⟨by rfl, ?hy7⟩) (by assumption) ?rest7
      case hy7 => (intro w hSw; (try dsimp only at hSw); go_simp; try (with_reducible rfl))
      case rest7 =>
      try simp only [Act.put, List.setIfInBounds_toArray, List.set_cons_zero, List.set_cons_succ]
      refine takeH (i := 8) (v := ?v8) rfl (by kernel_rfl) (by kernel_rfl) (by kernel_rfl) (fun _ _ _ h => h) (Or.inl ⟨by rfl, ?hy8⟩) (by assumption) ?rest8
      case hy8 => (intro w hSw; (try dsimp only at hSw); go_simp; try (with_reducible rfl))
      case rest8 =>
      try simp only [Act.put, List.setIfInBounds_toArray, List.set_cons_zero, List.set_cons_succ]
      refine takeH (i := 9) (v := ?v9) rfl (by kernel_rfl) (by kernel_rfl) (by kernel_rfl) (fun _ _ _ h => h) (Or.inl ⟨by rfl, ?hy9⟩) (by assumption) ?rest9
      case hy9 => (intro w hSw; (try dsimp only at hSw); go_simp; try (with_reducible rfl))
      case rest9 =>
      try simp only [Act.put, List.setIfInBounds_toArray, List.set_cons_zero, List.set_cons_succ]
      refine takeH (i := 10) (v := ?v10) rfl (by kernel_rfl) (by kernel_rfl) (by kernel_rfl) (fun _ _ _ h => h) (Or.inl ⟨by rfl, ?hy10⟩) (by assumption) ?rest10
      case hy10 => (intro w hSw; (try dsimp only at hSw); go_simp; try (with_reducible rfl))
      case rest10 =>
      try simp only [Act.put, List.setIfInBounds_toArray, List.set_cons_zero, List.set_cons_succ]
      refine takeH (i := 11) (v := ?v11) rfl (by kernel_rfl) (by kernel_rfl) (by kernel_rfl) (fun _ _ _ h => h) (Or.inl ⟨by rfl, ?hy11⟩) (by assumption) ?rest11
      case hy11 => (intro w hSw; (try dsimp only at hSw); go_simp; try (with_reducible rfl))
      case rest11 =>
      try simp only [Act.put, List.setIfInBounds_toArray, List.set_cons_zero, List.set_cons_succ]
      refine takeH (i := 12) (v := ?v12) rfl (by kernel_rfl) (by kernel_rfl) (by kernel_rfl) (fun _ _ _ h => h) (Or.inl ⟨by rfl, ?hy12⟩) (by assumption) ?rest12
      case hy12 => (intro w hSw; (try dsimp only at hSw); go_simp; try (with_reducible rfl))
      case rest12 =>
      try simp only [Act.put, List.setIfInBounds_toArray, List.set_cons_zero, List.set_cons_succ]
      refine takeH (i := 13) (v := ?v13) rfl (by kernel_rfl) (by kernel_rfl) (by kernel_rfl) (fun _ _ _ h => h) (Or.inl ⟨by rfl, ?hy13⟩) (by assumption) ?rest13
      case hy13 => (intro w hSw; (try dsimp only at hSw); go_simp; try (with_reducible rfl))
      case rest13 =>
      try simp only [Act.put, List.setIfInBounds_toArray, List.set_cons_zero, List.set_cons_succ]
      refine takeH (i := 14) (v := ?v14) rfl (by kernel_rfl) (by kernel_rfl) (by kernel_rfl) (fun _ _ _ h => h) (Or.inl ⟨by rfl, ?hy14⟩) (by assumption) ?rest14
      case hy14 => (intro w hSw; (try dsimp only at hSw); go_simp; try (with_reducible rfl))
      case rest14 =>
      try simp only [Act.put, List.setIfInBounds_toArray, List.set_cons_zero, List.set_cons_succ]
      refine takeH (i := 15) (v := ?v15) rfl (by kernel_rfl) (by kernel_rfl) (by kernel_rfl) (fun _ _ _ h => h) (Or.inl ⟨by rfl, ?hy15⟩) (by assumption) ?rest15
      case hy15 => (intro w hSw; (try dsimp only at hSw); go_simp; try (with_reducible rfl))
      case rest15 =>
      try simp only [Act.put, List.setIfInBounds_toArray, List.set_cons_zero, List.set_cons_succ]
      refine takeH (i := 16) (v := ?v16) rfl (by kernel_rfl) (by kernel_rfl) (by kernel_rfl) (fun _ _ _ h => h) (Or.inl ⟨by rfl, ?hy16⟩) (by assumption) ?rest16
      case hy16 => (intro w hSw; (try dsimp only at hSw); go_simp; try (with_reducible rfl))
      case rest16 =>
      try simp only [Act.put, List.setIfInBounds_toArray, List.set_cons_zero, List.set_cons_succ]
      refine takeH (i := 17) (v := ?v17) rfl (by kernel_rfl) (by kernel_rfl) (by kernel_rfl) (fun _ _ _ h => h) (Or.inl ⟨by rfl, ?hy17⟩) (by assumption) ?rest17
      case hy17 => (intro w hSw; (try dsimp only at hSw); go_simp; try (with_reducible rfl))
      case rest17 =>
      try simp only [Act.put, List.setIfInBounds_toArray, List.set_cons_zero, List.set_cons_succ]
      refine takeH (i := 18) (v := ?v18) rfl (by kernel_rfl) (by kernel_rfl) (by kernel_rfl) (fun _ _ _ h => h) (Or.inl ⟨by rfl, ?hy18⟩) (by assumption) ?rest18
      case hy18 => (intro w hSw; (try dsimp only at hSw); go_simp; try (with_reducible rfl))
      case rest18 =>
      try simp only [Act.put, List.setIfInBounds_toArray, List.set_cons_zero, List.set_cons_succ]
      refine wpAnyH_ready (rs := [19]) (by kernel_rfl) (by simp) ?_
      refine consH rfl (fun K hK => ?_) AllReadyH.nil
      rw [if_pos (by first | rfl | (go_simp; done) | (go_simp; rfl))]
      go_simp
      go_at_call 12
      have XS := XP.out _ HB.out
      with_reducible refine XS.mono ?_
      rintro _ wq19 ⟨rfl, hb⟩
      replace Bg6 := Hd.mk (Blk.belowW Bg6.out hb)
      replace Bg7 := Hd.mk (Blk.belowW Bg7.out hb)
      replace Bg10 := Hd.mk (Blk.belowW Bg10.out hb)
      replace HB := Hd.mk (HB.out.trans (hb.mono HB.out.size))
      clear hb hHd XS
      have hHd : (fun w' : World => (w'.cell? ⟨g10, 0, none⟩ = some (.string s) ∧ w'.cell? ⟨g10, 1, none⟩ = some (.int .i64 (s.size : Int))) ∧ (w'.cell? ⟨g6, 0, none⟩ = some (.string s) ∧ w'.cell? ⟨g6, 1, none⟩ = some (.int .i64 (s.size : Int))) ∧ w'.cell? ⟨g7, 0, none⟩ = some (.string cs)) wq19 := ⟨⟨Bg10.out.cell 0 rfl, Bg10.out.cell 1 rfl⟩, ⟨Bg6.out.cell 0 rfl, Bg6.out.cell 1 rfl⟩, Bg7.out.cell 0 rfl⟩
      go_simp
      refine hK.out _ _ hHd ?_
      clear hK K
      try simp only [Act.put, List.setIfInBounds_toArray, List.set_cons_zero, List.set_cons_succ]
      refine takeH (i := 20) (v := ?v19) rfl (by kernel_rfl) (by kernel_rfl) (by kernel_rfl) (fun _ _ _ h => h) (Or.inl ⟨by rfl, ?hy19⟩) (by assumption) ?rest19
      case hy19 => (intro w hSw; (try dsimp only at hSw); go_simp; try (with_reducible rfl))
      case rest19 =>
      try simp only [Act.put, List.setIfInBounds_toArray, List.set_cons_zero, List.set_cons_succ]
      refine takeH (i := 21) (v := ?v20) rfl (by kernel_rfl) (by kernel_rfl) (by kernel_rfl) (fun _ _ _ h => h) (Or.inl ⟨by rfl, ?hy20⟩) (by assumption) ?rest20
      case hy20 => (intro w hSw; (try dsimp only at hSw); go_simp; try (with_reducible rfl))
      case rest20 =>
      try simp only [Act.put, List.setIfInBounds_toArray, List.set_cons_zero, List.set_cons_succ]
      refine takeH (i := 22) (v := ?v21) rfl (by kernel_rfl) (by kernel_rfl) (by kernel_rfl) (fun _ _ _ h => h) (Or.inl ⟨by rfl, ?hy21⟩) (by assumption) ?rest21
      case hy21 => (intro w hSw; (try dsimp only at hSw); go_simp; try (with_reducible rfl))
      case rest21 =>
      try simp only [Act.put, List.setIfInBounds_toArray, List.set_cons_zero, List.set_cons_succ]
      refine takeH (i := 23) (v := undef) rfl (by kernel_rfl) (by kernel_rfl) (by kernel_rfl) (fun _ _ _ h => h) (Or.inr ⟨by rfl, rfl⟩) (by assumption) ?rest22
      case rest22 =>
      try simp only [Act.put, List.setIfInBounds_toArray, List.set_cons_zero, List.set_cons_succ]
      refine takeH (i := 24) (v := undef) rfl (by kernel_rfl) (by kernel_rfl) (by kernel_rfl) (fun _ _ _ h => h) (Or.inr ⟨by rfl, rfl⟩) (by assumption) ?rest23
      case rest23 =>
      try simp only [Act.put, List.setIfInBounds_toArray, List.set_cons_zero, List.set_cons_succ]
      refine takeH (i := 25) (v := undef) rfl (by kernel_rfl) (by kernel_rfl) (by kernel_rfl) (fun _ _ _ h => h) (Or.inr ⟨by rfl, rfl⟩) (by assumption) ?rest24
      case rest24 =>
      try simp only [Act.put, List.setIfInBounds_toArray, List.set_cons_zero, List.set_cons_succ]
      refine takeH (i := 26) (v := undef) rfl (by kernel_rfl) (by kernel_rfl) (by kernel_rfl) (fun _ _ _ h => h) (Or.inr ⟨by rfl, rfl⟩) (by assumption) ?rest25
      case rest25 =>
      try simp only [Act.put, List.setIfInBounds_toArray, List.set_cons_zero, List.set_cons_succ]
      refine takeH (i := 27) (v := undef) rfl (by kernel_rfl) (by kernel_rfl) (by kernel_rfl) (fun _ _ _ h => h) (Or.inr ⟨by rfl, rfl⟩) (by assumption) ?rest26
      case rest26 =>
      try simp only [Act.put, List.setIfInBounds_toArray, List.set_cons_zero, List.set_cons_succ]
      refine takeH (i := 28) (v := undef) rfl (by kernel_rfl) (by kernel_rfl) (by kernel_rfl) (fun _ _ _ h => h) (Or.inr ⟨by rfl, rfl⟩) (by assumption) ?rest27
      case rest27 =>
      try simp only [Act.put, List.setIfInBounds_toArray, List.set_cons_zero, List.set_cons_succ]
      refine takeH (i := 29) (v := undef) rfl (by kernel_rfl) (by kernel_rfl) (by kernel_rfl) (fun _ _ _ h => h) (Or.inr ⟨by rfl, rfl⟩) (by assumption) ?rest28
      case rest28 =>
      try simp only [Act.put, List.setIfInBounds_toArray, List.set_cons_zero, List.set_cons_succ]
      refine takeH (i := 30) (v := undef) rfl (by kernel_rfl) (by kernel_rfl) (by kernel_rfl) (fun _ _ _ h => h) (Or.inr ⟨by rfl, rfl⟩) (by assumption) ?rest29
      case rest29 =>
      try simp only [Act.put, List.setIfInBounds_toArray, List.set_cons_zero, List.set_cons_succ]
      refine takeH (i := 31) (v := ?v30) rfl (by kernel_rfl) (by kernel_rfl) (by kernel_rfl) (fun _ _ _ h => h) (Or.inl ⟨by rfl, ?hy30⟩) (by assumption) ?rest30
      case hy30 => (intro w hSw; (try dsimp only at hSw); go_simp; try (with_reducible rfl))
      case rest30 =>
      try simp only [Act.put, List.setIfInBounds_toArray, List.set_cons_zero, List.set_cons_succ]
      refine takeH (i := 32) (v := ?v31) rfl (by kernel_rfl) (by kernel_rfl) (by kernel_rfl) (fun _ _ _ h => h) (Or.inl ⟨by rfl, ?hy31⟩) (by assumption) ?rest31
      case hy31 => (intro w hSw; (try dsimp only at hSw); go_simp; try (with_reducible rfl))
      case rest31 =>
      try simp only [Act.put, List.setIfInBounds_toArray, List.set_cons_zero, List.set_cons_succ]
      refine takeH (i := 33) (v := ?v32) rfl (by kernel_rfl) (by kernel_rfl) (by kernel_rfl) (fun _ _ _ h => h) (Or.inl ⟨by rfl, ?hy32⟩) (by assumption) ?rest32
      case hy32 => (intro w hSw; (try dsimp only at hSw); go_simp; try (with_reducible rfl))
      case rest32 =>
      try simp only [Act.put, List.setIfInBounds_toArray, List.set_cons_zero, List.set_cons_succ]
      refine wpAnyH_done (by kernel_rfl) ?_ _
      refine hKQ _ _ ?_
      clear hHd
      go_wp2
      go_ret
      exact ⟨rfl, HB.out⟩
    | false =>
      obtain rfl : s = p := (HL.out.2 rfl).symm
      rename_i KQ hKQ
      refine regionH (fun w' : World => (w'.cell? ⟨g10, 0, none⟩ = some (.string s) ∧ w'.cell? ⟨g10, 1, none⟩ = some (.int .i64 (s.size : Int))) ∧ (w'.cell? ⟨g6, 0, none⟩ = some (.string s) ∧ w'.cell? ⟨g6, 1, none⟩ = some (.int .i64 (s.size : Int))) ∧ w'.cell? ⟨g7, 0, none⟩ = some (.string cs)) (by kernel_rfl) (fun wd hb => ?_)
      replace Bg6 := Hd.mk (Blk.belowW Bg6.out hb)
      replace Bg7 := Hd.mk (Blk.belowW Bg7.out hb)
      replace Bg10 := Hd.mk (Blk.belowW Bg10.out hb)
      replace HB := Hd.mk (HB.out.trans (hb.mono HB.out.size))
      clear hb
      have hHd : (fun w' : World => (w'.cell? ⟨g10, 0, none⟩ = some (.string s) ∧ w'.cell? ⟨g10, 1, none⟩ = some (.int .i64 (s.size : Int))) ∧ (w'.cell? ⟨g6, 0, none⟩ = some (.string s) ∧ w'.cell? ⟨g6, 1, none⟩ = some (.int .i64 (s.size : Int))) ∧ w'.cell? ⟨g7, 0, none⟩ = some (.string cs)) wd := ⟨⟨Bg10.out.cell 0 rfl, Bg10.out.cell 1 rfl⟩, ⟨Bg6.out.cell 0 rfl, Bg6.out.cell 1 rfl⟩, Bg7.out.cell 0 rfl⟩
      refine wpAnyH_ready (rs := [0]) (by kernel_rfl) (by simp) ?_
      refine consH rfl (fun K hK => ?_) AllReadyH.nil
      rw [if_pos (by first | rfl | (go_simp; done) | (go_simp; rfl))]
      go_simp
      go_at_call 7
      have XS := alive_calls _ (Utf8Tabs_below HTT.out HB.out)
      with_reducible refine XS.mono ?_
      rintro _ wq0 ⟨rfl, hb⟩
      replace Bg6 := Hd.mk (Blk.belowW Bg6.out hb)
      replace Bg7 := Hd.mk (Blk.belowW Bg7.out hb)
      replace Bg10 := Hd.mk (Blk.belowW Bg10.out hb)
      replace HB := Hd.mk (HB.out.trans (hb.mono HB.out.size))
      clear hb hHd XS
      have hHd : (fun w' : World => (w'.cell? ⟨g10, 0, none⟩ = some (.string s) ∧ w'.cell? ⟨g10, 1, none⟩ = some (.int .i64 (s.size : Int))) ∧ (w'.cell? ⟨g6, 0, none⟩ = some (.string s) ∧ w'.cell? ⟨g6, 1, none⟩ = some (.int .i64 (s.size : Int))) ∧ w'.cell? ⟨g7, 0, none⟩ = some (.string cs)) wq0 := ⟨⟨Bg10.out.cell 0 rfl, Bg10.out.cell 1 rfl⟩, ⟨Bg6.out.cell 0 rfl, Bg6.out.cell 1 rfl⟩, Bg7.out.cell 0 rfl⟩
      go_simp
      refine hK.out _ _ hHd ?_
      clear hK K
      try simp only [Act.put, List.setIfInBounds_toArray, List.set_cons_zero, List.set_cons_succ]
      refine takeH (i := 1) (v := ?v33) rfl (by kernel_rfl) (by kernel_rfl) (by kernel_rfl) (fun _ _ _ h => h) (Or.inl ⟨by rfl, ?hy33⟩) (by assumption) ?rest33
      case hy33 => (intro w hSw; (try dsimp only at hSw); go_simp; try (with_reducible rfl))
      case rest33 =>
      try simp only [Act.put, List.setIfInBounds_toArray, List.set_cons_zero, List.set_cons_succ]
      refine takeH (i := 2) (v := ?v34) rfl (by kernel_rfl) (by kernel_rfl) (by kernel_rfl) (fun _ _ _ h => h) (Or.inl ⟨by rfl, ?hy34⟩) (by assumption) ?rest34
      case hy34 => (intro w hSw; (try dsimp only at hSw); go_simp; try (with_reducible rfl))
      case rest34 =>
      try simp only [Act.put, List.setIfInBounds_toArray, List.set_cons_zero, List.set_cons_succ]
      refine takeH (i := 3) (v := ?v35) rfl (by kernel_rfl) (by kernel_rfl) (by kernel_rfl) (fun _ _ _ h => h) (Or.inl ⟨by rfl, ?hy35⟩) (by assumption) ?rest35
      case hy35 => (intro w hSw; (try dsimp only at hSw); go_simp; try (with_reducible rfl))
      case rest35 =>
      try simp only [Act.put, List.setIfInBounds_toArray, List.set_cons_zero, List.set_cons_succ]
      refine takeH (i := 4) (v := ?v36) rfl (by kernel_rfl) (by kernel_rfl) (by kernel_rfl) (fun _ _ _ h => h) (Or.inl ⟨by rfl, ?hy36⟩) (by assumption) ?rest36
      case hy36 => (intro w hSw; (try dsimp only at hSw); go_simp; try (with_reducible rfl))
      case rest36 =>
      try simp only [Act.put, List.setIfInBounds_toArray, List.set_cons_zero, List.set_cons_succ]
      refine takeH (i := 5) (v := ?v37) rfl (by kernel_rfl) (by kernel_rfl) (by kernel_rfl) (fun _ _ _ h => h) (Or.inl ⟨by rfl, ?hy37⟩) (by assumption) ?rest37
      case hy37 => (intro w hSw; (try dsimp only at hSw); go_simp; try (with_reducible rfl))
      case rest37 =>
      try simp only [Act.put, List.setIfInBounds_toArray, List.set_cons_zero, List.set_cons_succ]
      refine takeH (i := 6) (v := ?v38) rfl (by kernel_rfl) (by kernel_rfl) (by kernel_rfl) (fun _ _ _ h => h) (Or.inl ⟨by rfl, ?hy38⟩) (by assumption) ?rest38
      case hy38 => (intro w hSw; (try dsimp only at hSw); go_simp; try (with_reducible rfl))
      case rest38 =>
      try simp only [Act.put, List.setIfInBounds_toArray, List.set_cons_zero, List.set_cons_succ]
      refine takeH (i := 7) (v := ?v39) rfl (by kernel_rfl) (by kernel_rfl) (by kernel_rfl) (fun _ _ _ h => h) (Or.inl ⟨by rfl, ?hy39⟩) (by assumption) ?rest39
      case hy39 => (intro w hSw; (try dsimp only at hSw); go_simp; try (with_reducible rfl))
      case rest39 =>
      try simp only [Act.put, List.setIfInBounds_toArray, List.set_cons_zero, List.set_cons_succ]
      refine takeH (i := 8) (v := ?v40) rfl (by kernel_rfl) (by kernel_rfl) (by kernel_rfl) (fun _ _ _ h => h) (Or.inl ⟨by rfl, ?hy40⟩) (by assumption) ?rest40
      case hy40 => (intro w hSw; (try dsimp only at hSw); go_simp; try (with_reducible rfl))
      case rest40 =>
      try simp only [Act.put, List.setIfInBounds_toArray, List.set_cons_zero, List.set_cons_succ]
      refine takeH (i := 9) (v := ?v41) rfl (by kernel_rfl) (by kernel_rfl) (by kernel_rfl) (fun _ _ _ h => h) (Or.inl ⟨by rfl, ?hy41⟩) (by assumption) ?rest41
      case hy41 => (intro w hSw; (try dsimp only at hSw); go_simp; try (with_reducible rfl))
      case rest41 =>
      try simp only [Act.put, List.setIfInBounds_toArray, List.set_cons_zero, List.set_cons_succ]
      refine takeH (i := 10) (v := ?v42) rfl (by kernel_rfl) (by kernel_rfl) (by kernel_rfl) (fun _ _ _ h => h) (Or.inl ⟨by rfl, ?hy42⟩) (by assumption) ?rest42
      case hy42 => (intro w hSw; (try dsimp only at hSw); go_simp; try (with_reducible rfl))
      case rest42 =>
      try simp only [Act.put, List.setIfInBounds_toArray, List.set_cons_zero, List.set_cons_succ]
      refine takeH (i := 11) (v := ?v43) rfl (by kernel_rfl) (by kernel_rfl) (by kernel_rfl) (fun _ _ _ h => h) (Or.inl ⟨by rfl, ?hy43⟩) (by assumption) ?rest43
      case hy43 => (intro w hSw; (try dsimp only at hSw); go_simp; try (with_reducible rfl))
      case rest43 =>
      try simp only [Act.put, List.setIfInBounds_toArray, List.set_cons_zero, List.set_cons_succ]
      refine takeH (i := 12) (v := ?v44) rfl (by kernel_rfl) (by kernel_rfl) (by kernel_rfl) (fun _ _ _ h => h) (Or.inl ⟨by rfl, ?hy44⟩) (by assumption) ?rest44
      case hy44 => (intro w hSw; (try dsimp only at hSw); go_simp; try (with_reducible rfl))
      case rest44 =>
      try simp only [Act.put, List.setIfInBounds_toArray, List.set_cons_zero, List.set_cons_succ]
      refine takeH (i := 13) (v := ?v45) rfl (by kernel_rfl) (by kernel_rfl) (by kernel_rfl) (fun _ _ _ h => h) (Or.inl ⟨by rfl, ?hy45⟩) (by assumption) ?rest45
      case hy45 => (intro w hSw; (try dsimp only at hSw); go_simp; try (with_reducible rfl))
      case rest45 =>
      try simp only [Act.put, List.setIfInBounds_toArray, List.set_cons_zero, List.set_cons_succ]
      refine takeH (i := 14) (v := ?v46) rfl (by kernel_rfl) (by kernel_rfl) (by kernel_rfl) (fun _ _ _ h => h) (Or.inl ⟨by rfl, ?hy46⟩) (by assumption) ?rest46
      case hy46 => (intro w hSw; (try dsimp only at hSw); go_simp; try (with_reducible rfl))
      case rest46 =>
      try simp only [Act.put, List.setIfInBounds_toArray, List.set_cons_zero, List.set_cons_succ]
      refine takeH (i := 15) (v := ?v47) rfl (by kernel_rfl) (by kernel_rfl) (by kernel_rfl) (fun _ _ _ h => h) (Or.inl ⟨by rfl, ?hy47⟩) (by assumption) ?rest47
      case hy47 => (intro w hSw; (try dsimp only at hSw); go_simp; try (with_reducible rfl))
      case rest47 =>
      try simp only [Act.put, List.setIfInBounds_toArray, List.set_cons_zero, List.set_cons_succ]
      refine takeH (i := 16) (v := undef) rfl (by kernel_rfl) (by kernel_rfl) (by kernel_rfl) (fun _ _ _ h => h) (Or.inr ⟨by rfl, rfl⟩) (by assumption) ?rest48
      case rest48 =>
      try simp only [Act.put, List.setIfInBounds_toArray, List.set_cons_zero, List.set_cons_succ]
      refine takeH (i := 17) (v := undef) rfl (by kernel_rfl) (by kernel_rfl) (by kernel_rfl) (fun _ _ _ h => h) (Or.inr ⟨by rfl, rfl⟩) (by assumption) ?rest49
      case rest49 =>
      try simp only [Act.put, List.setIfInBounds_toArray, List.set_cons_zero, List.set_cons_succ]
      refine takeH (i := 18) (v := undef) rfl (by kernel_rfl) (by kernel_rfl) (by kernel_rfl) (fun _ _ _ h => h) (Or.inr ⟨by rfl, rfl⟩) (by assumption) ?rest50
      case rest50 =>
      try simp only [Act.put, List.setIfInBounds_toArray, List.set_cons_zero, List.set_cons_succ]
      refine takeH (i := 19) (v := undef) rfl (by kernel_rfl) (by kernel_rfl) (by kernel_rfl) (fun _ _ _ h => h) (Or.inr ⟨by rfl, rfl⟩) (by assumption) ?rest51
      case rest51 =>
      try simp only [Act.put, List.setIfInBounds_toArray, List.set_cons_zero, List.set_cons_succ]
      refine takeH (i := 20) (v := undef) rfl (by kernel_rfl) (by kernel_rfl) (by kernel_rfl) (fun _ _ _ h => h) (Or.inr ⟨by rfl, rfl⟩) (by assumption) ?rest52
      case rest52 =>
      try simp only [Act.put, List.setIfInBounds_toArray, List.set_cons_zero, List.set_cons_succ]
      refine takeH (i := 21) (v := ?v53) rfl (by kernel_rfl) (by kernel_rfl) (by kernel_rfl) (fun _ _ _ h => h) (Or.inl ⟨by rfl, ?hy53⟩) (by assumption) ?rest53
      case hy53 => (intro w hSw; (try dsimp only at hSw); go_simp; try (with_reducible rfl))
      case rest53 =>
      try simp only [Act.put, List.setIfInBounds_toArray, List.set_cons_zero, List.set_cons_succ]
      refine takeH (i := 22) (v := ?v54) rfl (by kernel_rfl) (by kernel_rfl) (by kernel_rfl) (fun _ _ _ h => h) (Or.inl ⟨by rfl, ?hy54⟩) (by assumption) ?rest54
      case hy54 => (intro w hSw; (try dsimp only at hSw); go_simp; try (with_reducible rfl))
      case rest54 =>
      try simp only [Act.put, List.setIfInBounds_toArray, List.set_cons_zero, List.set_cons_succ]
      refine takeH (i := 23) (v := ?v55) rfl (by kernel_rfl) (by kernel_rfl) (by kernel_rfl) (fun _ _ _ h => h) (Or.inl ⟨by rfl, ?hy55⟩) (by assumption) ?rest55
      case hy55 => (intro w hSw; (try dsimp only at hSw); go_simp; try (with_reducible rfl))
      case rest55 =>
      try simp only [Act.put, List.setIfInBounds_toArray, List.set_cons_zero, List.set_cons_succ]
      refine takeH (i := 24) (v := ?v56) rfl (by kernel_rfl) (by kernel_rfl) (by kernel_rfl) (fun _ _ _ h => h) (Or.inl ⟨by rfl, ?hy56⟩) (by assumption) ?rest56
      case hy56 => (intro w hSw; (try dsimp only at hSw); go_simp; try (with_reducible rfl))
      case rest56 =>
      try simp only [Act.put, List.setIfInBounds_toArray, List.set_cons_zero, List.set_cons_succ]
      refine takeH (i := 25) (v := ?v57) rfl (by kernel_rfl) (by kernel_rfl) (by kernel_rfl) (fun _ _ _ h => h) (Or.inl ⟨by rfl, ?hy57⟩) (by assumption) ?rest57
      case hy57 => (intro w hSw; (try dsimp only at hSw); go_simp; try (with_reducible rfl))
      case rest57 =>
      try simp only [Act.put, List.setIfInBounds_toArray, List.set_cons_zero, List.set_cons_succ]
      refine takeH (i := 26) (v := ?v58) rfl (by kernel_rfl) (by kernel_rfl) (by kernel_rfl) (fun _ _ _ h => h) (Or.inl ⟨by rfl, ?hy58⟩) (by assumption) ?rest58
      case hy58 => (intro w hSw; (try dsimp only at hSw); go_simp; try (with_reducible rfl))
      case rest58 =>
      try simp only [Act.put, List.setIfInBounds_toArray, List.set_cons_zero, List.set_cons_succ]
      refine takeH (i := 28) (v := ?v59) rfl (by kernel_rfl) (by kernel_rfl) (by kernel_rfl) (fun _ _ _ h => h) (Or.inl ⟨by rfl, ?hy59⟩) (by assumption) ?rest59
      case hy59 => (intro w hSw; (try dsimp only at hSw); go_simp; try (with_reducible rfl))
      case rest59 =>
      try simp only [Act.put, List.setIfInBounds_toArray, List.set_cons_zero, List.set_cons_succ]
      refine wpAnyH_ready (rs := [27]) (by kernel_rfl) (by simp) ?_
      refine consH rfl (fun K hK => ?_) AllReadyH.nil
      rw [if_pos (by first | rfl | (go_simp; done) | (go_simp; rfl))]
      go_simp
      go_at_call 12
      have XS := XP.out _ HB.out
      with_reducible refine XS.mono ?_
      rintro _ wq27 ⟨rfl, hb⟩
      replace Bg6 := Hd.mk (Blk.belowW Bg6.out hb)
      replace Bg7 := Hd.mk (Blk.belowW Bg7.out hb)
      replace Bg10 := Hd.mk (Blk.belowW Bg10.out hb)
      replace HB := Hd.mk (HB.out.trans (hb.mono HB.out.size))
      clear hb hHd XS
      have hHd : (fun w' : World => (w'.cell? ⟨g10, 0, none⟩ = some (.string s) ∧ w'.cell? ⟨g10, 1, none⟩ = some (.int .i64 (s.size : Int))) ∧ (w'.cell? ⟨g6, 0, none⟩ = some (.string s) ∧ w'.cell? ⟨g6, 1, none⟩ = some (.int .i64 (s.size : Int))) ∧ w'.cell? ⟨g7, 0, none⟩ = some (.string cs)) wq27 := ⟨⟨Bg10.out.cell 0 rfl, Bg10.out.cell 1 rfl⟩, ⟨Bg6.out.cell 0 rfl, Bg6.out.cell 1 rfl⟩, Bg7.out.cell 0 rfl⟩
      go_simp
      refine hK.out _ _ hHd ?_
      clear hK K
      try simp only [Act.put, List.setIfInBounds_toArray, List.set_cons_zero, List.set_cons_succ]
      refine takeH (i := 29) (v := ?v60) rfl (by kernel_rfl) (by kernel_rfl) (by kernel_rfl) (fun _ _ _ h => h) (Or.inl ⟨by rfl, ?hy60⟩) (by assumption) ?rest60
      case hy60 => (intro w hSw; (try dsimp only at hSw); go_simp; try (with_reducible rfl))
      case rest60 =>
      try simp only [Act.put, List.setIfInBounds_toArray, List.set_cons_zero, List.set_cons_succ]
      refine takeH (i := 30) (v := ?v61) rfl (by kernel_rfl) (by kernel_rfl) (by kernel_rfl) (fun _ _ _ h => h) (Or.inl ⟨by rfl, ?hy61⟩) (by assumption) ?rest61
      case hy61 => (intro w hSw; (try dsimp only at hSw); go_simp; try (with_reducible rfl))
      case rest61 =>
      try simp only [Act.put, List.setIfInBounds_toArray, List.set_cons_zero, List.set_cons_succ]
      refine takeH (i := 31) (v := ?v62) rfl (by kernel_rfl) (by kernel_rfl) (by kernel_rfl) (fun _ _ _ h => h) (Or.inl ⟨by rfl, ?hy62⟩) (by assumption) ?rest62
      case hy62 => (intro w hSw; (try dsimp only at hSw); go_simp; try (with_reducible rfl))
      case rest62 =>
      try simp only [Act.put, List.setIfInBounds_toArray, List.set_cons_zero, List.set_cons_succ]
      refine takeH (i := 32) (v := ?v63) rfl (by kernel_rfl) (by kernel_rfl) (by kernel_rfl) (fun _ _ _ h => h) (Or.inl ⟨by rfl, ?hy63⟩) (by assumption) ?rest63
      case hy63 => (intro w hSw; (try dsimp only at hSw); go_simp; try (with_reducible rfl))
      case rest63 =>
      try simp only [Act.put, List.setIfInBounds_toArray, List.set_cons_zero, List.set_cons_succ]
      refine takeH (i := 33) (v := ?v64) rfl (by kernel_rfl) (by kernel_rfl) (by kernel_rfl) (fun _ _ _ h => h) (Or.inl ⟨by rfl, ?hy64⟩) (by assumption) ?rest64
      case hy64 => (intro w hSw; (try dsimp only at hSw); go_simp; try (with_reducible rfl))
      case rest64 =>
      try simp only [Act.put, List.setIfInBounds_toArray, List.set_cons_zero, List.set_cons_succ]
      refine wpAnyH_done (by kernel_rfl) ?_ _
      refine hKQ _ _ ?_
      clear hHd
      go_wp2
      go_ret
      exact ⟨rfl, HB.out⟩
  · have q5 : decide ((setP s t []).1 = 0) = false := decide_eq_false h3
    have HX := Hd.mk h3
    generalize (setP s t []).1 = z at *
    go_wp2_with (first
      | (go_at_call 8; (with_reducible refine XC.mono ?_); rintro _ w1 ⟨rfl, ht, ho, _⟩; have HB2 := Hd.mk (new_below HB.out ho); clear XC ht ho HT)
      | (go_at_call 7; have XS := alive_calls _ (Utf8Tabs_below HTT.out HB2.out); (with_reducible refine XS.mono ?_); rintro _ we ⟨rfl, hb⟩; have HE := Hd.mk (HB2.out.trans (hb.mono HB2.out.size)); clear XS hb))
    go_ret
    exact ⟨rfl, HE.out⟩
end Go.Proofs.YtbhiljaipikklaaDoorL
