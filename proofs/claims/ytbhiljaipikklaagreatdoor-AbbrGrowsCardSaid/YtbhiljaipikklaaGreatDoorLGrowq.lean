/- Parts of the proof of the law that the last file states; declarations that nothing mentions are left out by a program. No conditions. -/
import Derived.Test.YtbhiljaipikklaaGreatDoorLTableq
import Derived.Test.YtbhiljaipikklaaGreatDoorWEqStructq
set_option linter.unusedVariables false
set_option linter.unusedSimpArgs false
namespace Go.Proofs.YtbhiljaipikklaaGreatDoorL
open Go Go.RowKit Go.Proofs.YtbhiljaipikklaaGreatDoorW.PrintWords
theorem eqBuf (d : Nat) (w : World) (x0 y0 : ByteArray) (x1 y1 : Int) :
    (Op.equalIn (d + 2) 42 (.agg #[.string x0, .int .i64 x1]) (.agg #[.string y0, .int .i64 y1])).run Tryz.prog w = .ok ((x0.toList == y0.toList) && (x1 == y1)) w := by
  refine eqA_of Tryz.underlying42 (by kernel_rfl) ?_
  refine eqf_cons (by rfl) (by go_simp; rfl) (by go_simp; rfl) (by go_simp) ?_
  exact eqf_last (by rfl) (by go_simp; rfl) (by go_simp; rfl) (by go_simp)
attribute [local go_sem high] eqBuf
def neB (x y : ByteArray × Nat) : Bool := !((x.1.toList == y.1.toList) && ((x.2 : Int) == (y.2 : Int)))
def cutP (m : ByteArray) (a f t : Nat) : ByteArray × Nat := if t ≤ f then (m, a) else (makeS (withoutS m f t), backL (makeS (withoutS m f t)) (cutAt a f t))
theorem cutV_eq (m : ByteArray) (a f t : Nat) : ∃ r, cutV m a f t = .tuple #[.agg (bufV (cutP m a f t).1 (cutP m a f t).2), .string r] := by
  by_cases h : t ≤ f
  · exact ⟨⟨#[]⟩, by rw [cutV_no h]; unfold cutP; rw [if_pos h]⟩
  · exact ⟨m.extract f t, by rw [cutV_yes h]; unfold cutP; rw [if_neg h]⟩
theorem cutP_600 (m : ByteArray) (a f t : Nat) (h : m.size ≤ 600) : (cutP m a f t).1.size ≤ 600 := by
  unfold cutP
  split
  · exact h
  · exact makeS_six _
theorem insP_code (m : ByteArray) (a : Nat) (p : ByteArray) : (insP m a p).2 = 0 ∨ (insP m a p).2 = 30 := by
  unfold insP
  split
  · exact .inr rfl
  · exact .inl rfl
def nameOf (m : ByteArray) (a : Nat) : ByteArray := ⟨(Lib.trimLeftB (m.extract 0 a).data.toList 32).toArray⟩
theorem nameOf_size (m : ByteArray) (a : Nat) (h : a ≤ m.size) : (nameOf m a).size ≤ a := by
  show (Lib.trimLeftB (m.extract 0 a).data.toList 32).toArray.size ≤ a
  rw [List.size_toArray]
  unfold Lib.trimLeftB
  have h1 : ((m.extract 0 a).data.toList.dropWhile (· == 32)).length ≤ (m.extract 0 a).data.toList.length := (List.dropWhile_suffix _).length_le
  rw [← Lib.size_eq, ByteArray.size_extract] at h1
  omega
def stuck (m : ByteArray) (a : Nat) : Bool := decide (a < m.size) && !Lib.hasPrefix (m.extract a m.size).data.toList [32]
def growP (m : ByteArray) (a : Nat) (l : List (ByteArray × ByteArray)) : (ByteArray × Nat) × Bool :=
  if (getP (nameOf m a) l).2 = false ∨ stuck m a = true then ((m, a), false)
  else
    let c := cutP (makeS m) (backL (makeS m) a) (backL (makeS m) ((a : Int) - ((nameOf m a).size : Int))) (backL (makeS m) a)
    let i := insP (makeS c.1) (backL (makeS c.1) c.2) (plainS (getP (nameOf m a) l).1)
    if i.2 = 0 then (i.1, neB i.1 (m, a)) else ((m, a), false)
def growV (r : (ByteArray × Nat) × Bool) : Value := .tuple #[.agg (bufV r.1.1 r.1.2), .bool r.2]
theorem growP_no {m : ByteArray} {a : Nat} {l : List (ByteArray × ByteArray)} (h : (getP (nameOf m a) l).2 = false ∨ stuck m a = true) : growP m a l = ((m, a), false) := by unfold growP; rw [if_pos h]
theorem makeS_le (s : ByteArray) : (makeS s).size ≤ 600 := makeS_six s
set_option maxRecDepth 100000 in
set_option maxHeartbeats 4000000 in
theorem grow_calls {w : World} {T : Nat} {mo : Option Nat} {l : List (ByteArray × ByteArray)} (h : TRep w T mo l) (S : ByteArray) (hS : S.size ≤ 4294967296) (at_ : Int) (hto : ∀ p ∈ l, p.2.size ≤ 4294967296) (hT : Lib.Utf8Tabs 0 1 w) :
    Calls Tryz.prog 11 #[.pointer (some ⟨T, 0, none⟩), .agg #[.string S, .int .i64 at_]] w fun e w' =>
      e = .returned (growV (growP (makeS S) (backL (makeS S) at_) l)) ∧ Below w.heap.size w w' := by
  have XM := Hd.mk (fun w1 (hb : Below w.heap.size w w1) => make_calls S hS at_ w1 (Utf8Tabs_below hT hb))
  have HA := Hd.mk (backL_le (makeS S) at_)
  have H6 := Hd.mk (makeS_le S)
  have HTT := Hd.mk hT
  have HTO := Hd.mk hto
  generalize backL (makeS S) at_ = a at *
  generalize makeS S = m at *
  have HTR := Hd.mk (fun w1 (hb : Below w.heap.size w w1) => h.below hb)
  clear hS hT h hto
  obtain ⟨res, hres⟩ : ∃ r, r = growP m a l := ⟨_, rfl⟩
  rw [← hres]
  have HRES := Hd.mk hres
  clear hres
  go_enter Tryz.func11, Tryz.ntmps11
  go_upto_region 2 with (first
    | ((with_reducible refine gate_dst (N := 3) rfl ?_); refine box_event ?hg (N := 3) ?hd (cs := #[.string S, .int .i64 at_]) (t := 42) ?hr ?_; (case hd => rfl); (case hg => rfl); (case hr => first | (go_simp; done) | (go_simp; rfl)); intro g3 hg wg3 hx hb; have C0 := Hd.mk (show Blk wg3 g3 42 _ from hx); have HG3 : Hd (w.heap.size ≤ g3) := ⟨hg ▸ Nat.le_refl _⟩; have HB3 := Hd.mk hb; clear hx hb hg)
    | ((with_reducible refine gate_dst (N := 4) rfl ?_); refine box_event ?hg (N := 4) ?hd (cs := #[.string ByteArray.empty, .int .i64 0]) (t := 42) ?hr ?_; (case hd => rfl); (case hg => rfl); (case hr => first | (go_simp; done) | (go_simp; rfl)); intro g4 hg wg4 hx hb; have B4 := Hd.mk (show Blk wg4 g4 42 _ from hx); have C3 := Hd.mk (Blk.belowW C0.out hb); have HG4 : Hd (w.heap.size ≤ g4 ∧ g3 ≠ g4) := ⟨⟨hg ▸ HB3.out.size, fun e => by have := C0.out.lt; omega⟩⟩; have HB4 := Hd.mk (HB3.out.trans (hb.mono HB3.out.size)); clear HB3 C0; obtain ⟨c0, c1, f0, f1⟩ := Blk.two C3.out; clear hx hb hg)
    | (go_at_call 22; (with_reducible refine (XM.out _ HB4.out).mono ?_); rintro _ w5 ⟨rfl, hb⟩; have B5 := Hd.mk (Blk.belowW B4.out hb); have C5 := Hd.mk (Blk.belowW C3.out hb); have HB5 := Hd.mk (HB4.out.trans (hb.mono HB4.out.size)); clear hb HB4 B4 C3 XM c0 c1 f0 f1)
    | ((with_reducible refine gate_store (t := 42) (p := 3) rfl ?_); refine store_event rfl rfl (g := g3) (cells := bufV m a) (by first | rfl | (go_simp; done) | (go_simp; rfl)) (by first | rfl | (go_simp; done) | (go_simp; rfl)) C5.out infoBuf rfl (by simp [bufV, Value.oneCell']) ?_; intro ws hx hk hz hb; have C6 := Hd.mk (show Blk ws g3 42 #[.string m, .int .i64 (a : Int)] from hx); have B6 := Hd.mk (show Blk ws g4 42 _ from (hk.2 g4 B5.out.lt (fun e => HG4.out.2 e.symm)).trans B5.out); have HB6 := Hd.mk (hb HB5.out HG3.out); clear hx hk hz hb HB5 C5 B5))
  obtain ⟨c0, c1, f0, f1⟩ := Blk.two C6.out
  have ha0 : (0 : Int) ≤ (a : Int) := Int.natCast_nonneg a
  have ha1 : (a : Int) ≤ (m.size : Int) := by have := HA.out; omega
  have han : a ≤ m.size := HA.out
  have ham : (m.size : Int) ≤ 600 := by have := H6.out; omega
  have XT := Hd.mk (fun w' => Tryz.strings_TrimLeft_one (m.extract 0 a) 32 (by decide) w')
  have HNS := Hd.mk (nameOf_size m a han)
  have HNO : Hd ((⟨(Lib.trimLeftB (m.extract 0 a).data.toList 32).toArray⟩ : ByteArray) = nameOf m a) := ⟨rfl⟩
  rw [HNO.out] at XT
  have HGP : Hd (res = if (getP (nameOf m a) l).2 = false ∨ stuck m a = true then ((m, a), false)
    else
      let c := cutP (makeS m) (backL (makeS m) a) (backL (makeS m) ((a : Int) - ((nameOf m a).size : Int))) (backL (makeS m) a)
      let i := insP (makeS c.1) (backL (makeS c.1) c.2) (plainS (getP (nameOf m a) l).1)
      if i.2 = 0 then (i.1, neB i.1 (m, a)) else ((m, a), false)) := ⟨HRES.out.trans rfl⟩
  clear HRES
  have HTZ : Hd ((getP (nameOf m a) l).1.size ≤ 4294967296) := ⟨getP_size HTO.out⟩
  have HST : Hd (stuck m a = (decide (a < m.size) && !Lib.hasPrefix (m.extract a m.size).data.toList [32])) := ⟨rfl⟩
  have XG := Hd.mk (fun w1 (hb : Below w.heap.size w w1) => get_calls (HTR.out w1 hb) (nameOf m a))
  generalize nameOf m a = nm at XT HNS HGP XG HTZ
  generalize (getP nm l).1 = to_ at XG HGP HTZ
  generalize (getP nm l).2 = is at XG HGP
  clear HNO
  go_wp2_with fail
  go_at_call 12
  with_reducible refine (XT.out _).mono ?_
  rintro _ w7 ⟨rfl, rfl⟩
  go_wp2_with fail
  go_at_call 10
  with_reducible refine (XG.out _ HB6.out).mono ?_
  rintro _ w8 ⟨rfl, hb⟩
  have B8 := Hd.mk (Blk.belowW B6.out hb)
  have C8 := Hd.mk (Blk.belowW C6.out hb)
  have HB8 := Hd.mk (HB6.out.trans (hb.mono HB6.out.size))
  clear hb HB6 B6 C6 XT XG c0 c1 f0 f1
  obtain ⟨c0, c1, f0, f1⟩ := Blk.two C8.out
  have XC := Hd.mk (fun w1 (hb : Below w.heap.size w w1) => cut_calls m (by have := H6.out; omega) (a : Int) ((a : Int) - (nm.size : Int)) (a : Int) w1 (Utf8Tabs_below HTT.out hb))
  obtain ⟨hrr, hre⟩ := cutV_eq (makeS m) (backL (makeS m) a) (backL (makeS m) ((a : Int) - (nm.size : Int))) (backL (makeS m) a)
  rw [hre] at XC
  clear hre
  have HC6 := Hd.mk (cutP_600 (makeS m) (backL (makeS m) a) (backL (makeS m) ((a : Int) - (nm.size : Int))) (backL (makeS m) a) (makeS_le m))
  generalize cutP (makeS m) (backL (makeS m) a) (backL (makeS m) ((a : Int) - (nm.size : Int))) (backL (makeS m) a) = c at XC HC6 HGP
  have XI := Hd.mk (fun w1 (hb : Below w.heap.size w w1) => insert_calls c.1 to_ (by have := HC6.out; omega) HTZ.out (c.2 : Int) w1 (Utf8Tabs_below HTT.out hb))
  unfold insV at XI
  have HIC := Hd.mk (insP_code (makeS c.1) (backL (makeS c.1) c.2) (plainS to_))
  try dsimp only at HGP
  generalize insP (makeS c.1) (backL (makeS c.1) c.2) (plainS to_) = i at XI HIC HGP
  have hnm0 : (0 : Int) ≤ (nm.size : Int) := Int.natCast_nonneg _
  have hnm1 : (nm.size : Int) ≤ (a : Int) := by have := HNS.out; omega
  clear HNS HTZ
  cases is with
  | false =>
    have HI : Hd (res = ((m, a), false)) := ⟨by rw [HGP.out]; exact if_pos (Or.inl rfl)⟩
    clear HGP XI XC
    go_wp2_with (first | ((with_reducible refine gate_store (t := 42) (p := 4) rfl ?_); refine store_event rfl rfl (g := g4) (cells := bufV m a) (by first | rfl | (go_simp; done) | (go_simp; rfl)) (by first | rfl | (go_simp; done) | (go_simp; rfl)) B8.out infoBuf rfl (by simp [bufV, Value.oneCell']) ?_; intro ws hx hk hz hb; have BA := Hd.mk hx; have HBA := Hd.mk (hb HB8.out HG4.out.1); clear hx hk hz hb HB8 B8))
    exact ret_row_tmp (cs := bufV m a) (v := .bool false) rfl rfl Tryz.underlying42 infoBuf rfl BA.out rfl rfl ⟨by rw [HI.out]; rfl, HBA.out⟩
  | true =>
    by_cases hlt : a < m.size
    · have hb1 : decide ((a : Int) < (m.size : Int)) = true := decide_eq_true (by omega)
      have hb2 : decide (a < m.size) = true := decide_eq_true hlt
      have XP := Hd.mk (fun w' => Tryz.strings_HasPrefix (m.extract a m.size) ⟨#[32]⟩ w')
      have HP2 : Hd (stuck m a = !Lib.hasPrefix (m.extract a m.size).data.toList [32]) := ⟨by rw [HST.out, hb2]; rfl⟩
      have hpe : Lib.hasPrefix (m.extract a m.size).data.toList (⟨#[32]⟩ : ByteArray).data.toList = Lib.hasPrefix (m.extract a m.size).data.toList [32] := rfl
      rw [hpe] at XP
      clear hlt hpe
      generalize Lib.hasPrefix (m.extract a m.size).data.toList [32] = hp at XP HP2
      skip
      cases hp with
      | false =>
        have HI : Hd (res = ((m, a), false)) := ⟨by rw [HGP.out]; exact if_pos (Or.inr HP2.out)⟩
        clear HGP XI XC
        go_wp2_with fail
        go_at_call 23
        with_reducible refine (XP.out _).mono ?_
        rintro _ wp ⟨rfl, rfl⟩
        go_wp2_with (first | ((with_reducible refine gate_store (t := 42) (p := 4) rfl ?_); refine store_event rfl rfl (g := g4) (cells := bufV m a) (by first | rfl | (go_simp; done) | (go_simp; rfl)) (by first | rfl | (go_simp; done) | (go_simp; rfl)) B8.out infoBuf rfl (by simp [bufV, Value.oneCell']) ?_; intro ws hx hk hz hb; have BA := Hd.mk hx; have HBA := Hd.mk (hb HB8.out HG4.out.1); clear hx hk hz hb HB8 B8))
        exact ret_row_tmp (cs := bufV m a) (v := .bool false) rfl rfl Tryz.underlying42 infoBuf rfl BA.out rfl rfl ⟨by rw [HI.out]; rfl, HBA.out⟩
      | true =>
        have HS : Hd (stuck m a = false) := ⟨HP2.out⟩
        go_wp2_with fail
        go_at_call 23
        with_reducible refine (XP.out _).mono ?_
        rintro _ wp ⟨rfl, rfl⟩
        have HN : Hd (res = if i.2 = 0 then (i.1, neB i.1 (m, a)) else ((m, a), false)) := ⟨by rw [HGP.out]; exact if_neg (by simp [HS.out])⟩
        clear HGP HS
        go_upto_region 7 with (first
          | (go_at_call 24; (with_reducible refine (XC.out _ HB8.out).mono ?_); rintro _ wc ⟨rfl, hb⟩; replace B8 := Hd.mk (Blk.belowW B8.out hb); replace C8 := Hd.mk (Blk.belowW C8.out hb); replace HB8 := Hd.mk (HB8.out.trans (hb.mono HB8.out.size)); clear hb XC c0 c1 f0 f1)
          | ((with_reducible refine gate_dst (N := 9) rfl ?_); refine box_event ?hg (N := 9) ?hd (cs := #[.string ByteArray.empty, .int .i64 0]) (t := 42) ?hr ?_; (case hd => rfl); (case hg => rfl); (case hr => first | (go_simp; done) | (go_simp; rfl)); intro g9 hg wg9 hx hb; have D8 := Hd.mk (show Blk wg9 g9 42 _ from hx); have N9 : Hd (g3 ≠ g9 ∧ g4 ≠ g9 ∧ w.heap.size ≤ g9) := ⟨(fun e => by have := C8.out.lt; omega), (fun e => by have := B8.out.lt; omega), hg ▸ HB8.out.size⟩; replace B8 := Hd.mk (Blk.belowW B8.out hb); replace C8 := Hd.mk (Blk.belowW C8.out hb); replace HB8 := Hd.mk (HB8.out.trans (hb.mono HB8.out.size)); clear hx hb hg)
          | ((with_reducible refine gate_store (t := 42) (p := 9) rfl ?_); refine store_event rfl rfl (g := g9) (cells := bufV c.1 c.2) (by first | rfl | (go_simp; done) | (go_simp; rfl)) (by first | rfl | (go_simp; done) | (go_simp; rfl)) D8.out infoBuf rfl (by simp [bufV, Value.oneCell']) ?_; intro ws hx hk hz hb; replace D8 := Hd.mk (show Blk ws g9 42 #[.string c.1, .int .i64 (c.2 : Int)] from hx); replace B8 := Hd.mk (show Blk ws g4 42 _ from (hk.2 g4 B8.out.lt N9.out.2.1).trans B8.out); replace C8 := Hd.mk (show Blk ws g3 42 _ from (hk.2 g3 C8.out.lt N9.out.1).trans C8.out); replace HB8 := Hd.mk (hb HB8.out N9.out.2.2); clear hx hk hz hb ))
        obtain ⟨d0, d1, e0, e1⟩ := Blk.two D8.out
        go_upto_region 8 with (first
          | (go_at_call 25; (with_reducible refine (XI.out _ HB8.out).mono ?_); rintro _ wc ⟨rfl, hb⟩; replace B8 := Hd.mk (Blk.belowW B8.out hb); replace C8 := Hd.mk (Blk.belowW C8.out hb); replace HB8 := Hd.mk (HB8.out.trans (hb.mono HB8.out.size)); clear hb XI D8 d0 d1 e0 e1)
          | ((with_reducible refine gate_dst (N := 11) rfl ?_); refine box_event ?hg (N := 11) ?hd (cs := #[.string ByteArray.empty, .int .i64 0]) (t := 42) ?hr ?_; (case hd => rfl); (case hg => rfl); (case hr => first | (go_simp; done) | (go_simp; rfl)); intro g11 hg wg11 hx hb; have D8 := Hd.mk (show Blk wg11 g11 42 _ from hx); have N11 : Hd (g3 ≠ g11 ∧ g4 ≠ g11 ∧ w.heap.size ≤ g11) := ⟨(fun e => by have := C8.out.lt; omega), (fun e => by have := B8.out.lt; omega), hg ▸ HB8.out.size⟩; replace B8 := Hd.mk (Blk.belowW B8.out hb); replace C8 := Hd.mk (Blk.belowW C8.out hb); replace HB8 := Hd.mk (HB8.out.trans (hb.mono HB8.out.size)); clear hx hb hg)
          | ((with_reducible refine gate_store (t := 42) (p := 11) rfl ?_); refine store_event rfl rfl (g := g11) (cells := bufV i.1.1 i.1.2) (by first | rfl | (go_simp; done) | (go_simp; rfl)) (by first | rfl | (go_simp; done) | (go_simp; rfl)) D8.out infoBuf rfl (by simp [bufV, Value.oneCell']) ?_; intro ws hx hk hz hb; replace D8 := Hd.mk (show Blk ws g11 42 #[.string i.1.1, .int .i64 (i.1.2 : Int)] from hx); replace B8 := Hd.mk (show Blk ws g4 42 _ from (hk.2 g4 B8.out.lt N11.out.2.1).trans B8.out); replace C8 := Hd.mk (show Blk ws g3 42 _ from (hk.2 g3 C8.out.lt N11.out.1).trans C8.out); replace HB8 := Hd.mk (hb HB8.out N11.out.2.2); clear hx hk hz hb ))
        rcases HIC.out with hi | hi
        · have HI : Hd (res = (i.1, neB i.1 (m, a))) := ⟨by rw [HN.out, if_pos hi]⟩
          clear HN
          rw [hi]
          go_upto_region 10 with fail
          rename_i KQ hKQ
          refine regionH (fun w' : World => (w'.cell? ⟨g11, 0, none⟩ = some (.string i.1.1) ∧ w'.cell? ⟨g11, 1, none⟩ = some (.int .i64 (i.1.2 : Int))) ∧ w'.cell? ⟨g3, 0, none⟩ = some (.string m) ∧ w'.cell? ⟨g3, 1, none⟩ = some (.int .i64 (a : Int))) (by kernel_rfl) (fun wd hb => ?_)
          replace B8 := Hd.mk (Blk.belowW B8.out hb)
          replace C8 := Hd.mk (Blk.belowW C8.out hb)
          replace D8 := Hd.mk (Blk.belowW D8.out hb)
          replace HB8 := Hd.mk (HB8.out.trans (hb.mono HB8.out.size))
          clear hb
          have hHd : (fun w' : World => (w'.cell? ⟨g11, 0, none⟩ = some (.string i.1.1) ∧ w'.cell? ⟨g11, 1, none⟩ = some (.int .i64 (i.1.2 : Int))) ∧ w'.cell? ⟨g3, 0, none⟩ = some (.string m) ∧ w'.cell? ⟨g3, 1, none⟩ = some (.int .i64 (a : Int))) wd := ⟨⟨D8.out.cell 0 rfl, D8.out.cell 1 rfl⟩, C8.out.cell 0 rfl, C8.out.cell 1 rfl⟩
          refine takeH (i := 0) (v := ?v1) rfl (by kernel_rfl) (by kernel_rfl) (by kernel_rfl) (fun _ _ _ h => h) (Or.inl ⟨by rfl, ?hy1⟩) (by assumption) ?rest1
          case hy1 => (intro w hSw; (try dsimp only at hSw); go_simp; try (with_reducible rfl))
          case rest1 =>
          try simp only [Act.put, List.setIfInBounds_toArray, List.set_cons_zero, List.set_cons_succ]
          refine takeH (i := 1) (v := ?v2) rfl (by kernel_rfl) (by kernel_rfl) (by kernel_rfl) (fun _ _ _ h => h) (Or.inl ⟨by rfl, ?hy2⟩) (by assumption) ?rest2
          case hy2 => (intro w hSw; (try dsimp only at hSw); go_simp; try (with_reducible rfl))
          case rest2 =>
          try simp only [Act.put, List.setIfInBounds_toArray, List.set_cons_zero, List.set_cons_succ]
          refine takeH (i := 2) (v := ?v3) rfl (by kernel_rfl) (by kernel_rfl) (by kernel_rfl) (fun _ _ _ h => h) (Or.inl ⟨by rfl, ?hy3⟩) (by assumption) ?rest3
          case hy3 => (intro w hSw; (try dsimp only at hSw); go_simp; try (with_reducible rfl))
          case rest3 =>
          try simp only [Act.put, List.setIfInBounds_toArray, List.set_cons_zero, List.set_cons_succ]
          refine takeH (i := 3) (v := ?v4) rfl (by kernel_rfl) (by kernel_rfl) (by kernel_rfl) (fun _ _ _ h => h) (Or.inl ⟨by rfl, ?hy4⟩) (by assumption) ?rest4
          case hy4 => (intro w hSw; (try dsimp only at hSw); go_simp; try (with_reducible rfl))
          case rest4 =>
          try simp only [Act.put, List.setIfInBounds_toArray, List.set_cons_zero, List.set_cons_succ]
          refine wpAnyH_ready (rs := [4]) (by kernel_rfl) (by simp) ?_
          refine consH rfl (fun K hK => ?_) AllReadyH.nil
          rw [if_pos (by first | rfl | (go_simp; done) | (go_simp; rfl))]
          refine store_step (ops := #[]) rfl rfl (g := g4) (cells := bufV i.1.1 i.1.2) (by first | rfl | (go_simp; done) | (go_simp; rfl)) (by first | rfl | (go_simp; done) | (go_simp; rfl)) B8.out infoBuf rfl (by simp [bufV, Value.oneCell']) ?_
          intro ws hx hk hz hb
          have BA := Hd.mk hx
          have CA := Hd.mk (show Blk ws g3 42 _ from (hk.2 g3 C8.out.lt HG4.out.2).trans C8.out)
          have DA := Hd.mk (show Blk ws g11 42 _ from (hk.2 g11 D8.out.lt (fun e => N11.out.2.1 e.symm)).trans D8.out)
          have HBA := Hd.mk (hb HB8.out HG4.out.1)
          clear hx hk hz hb hHd
          have hHd : (fun w' : World => (w'.cell? ⟨g11, 0, none⟩ = some (.string i.1.1) ∧ w'.cell? ⟨g11, 1, none⟩ = some (.int .i64 (i.1.2 : Int))) ∧ w'.cell? ⟨g3, 0, none⟩ = some (.string m) ∧ w'.cell? ⟨g3, 1, none⟩ = some (.int .i64 (a : Int))) ws := ⟨⟨DA.out.cell 0 rfl, DA.out.cell 1 rfl⟩, CA.out.cell 0 rfl, CA.out.cell 1 rfl⟩
          refine hK.out _ _ hHd ?_
          clear hK K
          try simp only [Act.put, List.setIfInBounds_toArray, List.set_cons_zero, List.set_cons_succ]
          refine takeH (i := 5) (v := ?v5) rfl (by kernel_rfl) (by kernel_rfl) (by kernel_rfl) (fun _ _ _ h => h) (Or.inl ⟨by rfl, ?hy5⟩) (by assumption) ?rest5
          case hy5 => (intro w hSw; (try dsimp only at hSw); go_simp; try (with_reducible rfl))
          case rest5 =>
          try simp only [Act.put, List.setIfInBounds_toArray, List.set_cons_zero, List.set_cons_succ]
          refine wpAnyH_done (by kernel_rfl) ?_ _
          refine hKQ _ _ ?_
          clear hHd
          go_wp2
          exact ret_row_tmp (cs := bufV i.1.1 i.1.2) (v := .bool (neB i.1 (m, a))) rfl rfl Tryz.underlying42 infoBuf rfl BA.out (by first | rfl | (go_simp; rfl) | (unfold neB; go_simp; trace_state; done)) rfl ⟨by rw [HI.out]; rfl, HBA.out⟩
        · have HI : Hd (res = ((m, a), false)) := ⟨by rw [HN.out, if_neg (by omega)]⟩
          clear HN
          rw [hi]
          obtain ⟨c0, c1, f0, f1⟩ := Blk.two C8.out
          go_wp2_with (first | ((with_reducible refine gate_store (t := 42) (p := 4) rfl ?_); refine store_event rfl rfl (g := g4) (cells := bufV m a) (by first | rfl | (go_simp; done) | (go_simp; rfl)) (by first | rfl | (go_simp; done) | (go_simp; rfl)) B8.out infoBuf rfl (by simp [bufV, Value.oneCell']) ?_; intro ws hx hk hz hb; have BA := Hd.mk hx; have HBA := Hd.mk (hb HB8.out HG4.out.1); clear hx hk hz hb HB8 B8))
          exact ret_row_tmp (cs := bufV m a) (v := .bool false) rfl rfl Tryz.underlying42 infoBuf rfl BA.out rfl rfl ⟨by rw [HI.out]; rfl, HBA.out⟩
    · have hb1 : decide ((a : Int) < (m.size : Int)) = false := decide_eq_false (by omega)
      have hb2 : decide (a < m.size) = false := decide_eq_false hlt
      have HS : Hd (stuck m a = false) := ⟨by rw [HST.out, hb2]; rfl⟩
      clear hlt
      have HN : Hd (res = if i.2 = 0 then (i.1, neB i.1 (m, a)) else ((m, a), false)) := ⟨by rw [HGP.out]; exact if_neg (by simp [HS.out])⟩
      clear HGP HS
      go_upto_region 7 with (first
        | (go_at_call 24; (with_reducible refine (XC.out _ HB8.out).mono ?_); rintro _ wc ⟨rfl, hb⟩; replace B8 := Hd.mk (Blk.belowW B8.out hb); replace C8 := Hd.mk (Blk.belowW C8.out hb); replace HB8 := Hd.mk (HB8.out.trans (hb.mono HB8.out.size)); clear hb XC c0 c1 f0 f1)
        | ((with_reducible refine gate_dst (N := 9) rfl ?_); refine box_event ?hg (N := 9) ?hd (cs := #[.string ByteArray.empty, .int .i64 0]) (t := 42) ?hr ?_; (case hd => rfl); (case hg => rfl); (case hr => first | (go_simp; done) | (go_simp; rfl)); intro g9 hg wg9 hx hb; have D8 := Hd.mk (show Blk wg9 g9 42 _ from hx); have N9 : Hd (g3 ≠ g9 ∧ g4 ≠ g9 ∧ w.heap.size ≤ g9) := ⟨(fun e => by have := C8.out.lt; omega), (fun e => by have := B8.out.lt; omega), hg ▸ HB8.out.size⟩; replace B8 := Hd.mk (Blk.belowW B8.out hb); replace C8 := Hd.mk (Blk.belowW C8.out hb); replace HB8 := Hd.mk (HB8.out.trans (hb.mono HB8.out.size)); clear hx hb hg)
        | ((with_reducible refine gate_store (t := 42) (p := 9) rfl ?_); refine store_event rfl rfl (g := g9) (cells := bufV c.1 c.2) (by first | rfl | (go_simp; done) | (go_simp; rfl)) (by first | rfl | (go_simp; done) | (go_simp; rfl)) D8.out infoBuf rfl (by simp [bufV, Value.oneCell']) ?_; intro ws hx hk hz hb; replace D8 := Hd.mk (show Blk ws g9 42 #[.string c.1, .int .i64 (c.2 : Int)] from hx); replace B8 := Hd.mk (show Blk ws g4 42 _ from (hk.2 g4 B8.out.lt N9.out.2.1).trans B8.out); replace C8 := Hd.mk (show Blk ws g3 42 _ from (hk.2 g3 C8.out.lt N9.out.1).trans C8.out); replace HB8 := Hd.mk (hb HB8.out N9.out.2.2); clear hx hk hz hb ))
      obtain ⟨d0, d1, e0, e1⟩ := Blk.two D8.out
      go_upto_region 8 with (first
        | (go_at_call 25; (with_reducible refine (XI.out _ HB8.out).mono ?_); rintro _ wc ⟨rfl, hb⟩; replace B8 := Hd.mk (Blk.belowW B8.out hb); replace C8 := Hd.mk (Blk.belowW C8.out hb); replace HB8 := Hd.mk (HB8.out.trans (hb.mono HB8.out.size)); clear hb XI D8 d0 d1 e0 e1)
        | ((with_reducible refine gate_dst (N := 11) rfl ?_); refine box_event ?hg (N := 11) ?hd (cs := #[.string ByteArray.empty, .int .i64 0]) (t := 42) ?hr ?_; (case hd => rfl); (case hg => rfl); (case hr => first | (go_simp; done) | (go_simp; rfl)); intro g11 hg wg11 hx hb; have D8 := Hd.mk (show Blk wg11 g11 42 _ from hx); have N11 : Hd (g3 ≠ g11 ∧ g4 ≠ g11 ∧ w.heap.size ≤ g11) := ⟨(fun e => by have := C8.out.lt; omega), (fun e => by have := B8.out.lt; omega), hg ▸ HB8.out.size⟩; replace B8 := Hd.mk (Blk.belowW B8.out hb); replace C8 := Hd.mk (Blk.belowW C8.out hb); replace HB8 := Hd.mk (HB8.out.trans (hb.mono HB8.out.size)); clear hx hb hg)
        | ((with_reducible refine gate_store (t := 42) (p := 11) rfl ?_); refine store_event rfl rfl (g := g11) (cells := bufV i.1.1 i.1.2) (by first | rfl | (go_simp; done) | (go_simp; rfl)) (by first | rfl | (go_simp; done) | (go_simp; rfl)) D8.out infoBuf rfl (by simp [bufV, Value.oneCell']) ?_; intro ws hx hk hz hb; replace D8 := Hd.mk (show Blk ws g11 42 #[.string i.1.1, .int .i64 (i.1.2 : Int)] from hx); replace B8 := Hd.mk (show Blk ws g4 42 _ from (hk.2 g4 B8.out.lt N11.out.2.1).trans B8.out); replace C8 := Hd.mk (show Blk ws g3 42 _ from (hk.2 g3 C8.out.lt N11.out.1).trans C8.out); replace HB8 := Hd.mk (hb HB8.out N11.out.2.2); clear hx hk hz hb ))
      rcases HIC.out with hi | hi
      · have HI : Hd (res = (i.1, neB i.1 (m, a))) := ⟨by rw [HN.out, if_pos hi]⟩
        clear HN
        rw [hi]
        go_upto_region 10 with fail
        rename_i KQ hKQ
        refine regionH (fun w' : World => (w'.cell? ⟨g11, 0, none⟩ = some (.string i.1.1) ∧ w'.cell? ⟨g11, 1, none⟩ = some (.int .i64 (i.1.2 : Int))) ∧ w'.cell? ⟨g3, 0, none⟩ = some (.string m) ∧ w'.cell? ⟨g3, 1, none⟩ = some (.int .i64 (a : Int))) (by kernel_rfl) (fun wd hb => ?_)
        replace B8 := Hd.mk (Blk.belowW B8.out hb)
        replace C8 := Hd.mk (Blk.belowW C8.out hb)
        replace D8 := Hd.mk (Blk.belowW D8.out hb)
        replace HB8 := Hd.mk (HB8.out.trans (hb.mono HB8.out.size))
        clear hb
        have hHd : (fun w' : World => (w'.cell? ⟨g11, 0, none⟩ = some (.string i.1.1) ∧ w'.cell? ⟨g11, 1, none⟩ = some (.int .i64 (i.1.2 : Int))) ∧ w'.cell? ⟨g3, 0, none⟩ = some (.string m) ∧ w'.cell? ⟨g3, 1, none⟩ = some (.int .i64 (a : Int))) wd := ⟨⟨D8.out.cell 0 rfl, D8.out.cell 1 rfl⟩, C8.out.cell 0 rfl, C8.out.cell 1 rfl⟩
        refine takeH (i := 0) (v := ?v1) rfl (by kernel_rfl) (by kernel_rfl) (by kernel_rfl) (fun _ _ _ h => h) (Or.inl ⟨by rfl, ?hy1⟩) (by assumption) ?rest1
        case hy1 => (intro w hSw; (try dsimp only at hSw); go_simp; try (with_reducible rfl))
        case rest1 =>
        try simp only [Act.put, List.setIfInBounds_toArray, List.set_cons_zero, List.set_cons_succ]
        refine takeH (i := 1) (v := ?v2) rfl (by kernel_rfl) (by kernel_rfl) (by kernel_rfl) (fun _ _ _ h => h) (Or.inl ⟨by rfl, ?hy2⟩) (by assumption) ?rest2
        case hy2 => (intro w hSw; (try dsimp only at hSw); go_simp; try (with_reducible rfl))
        case rest2 =>
        try simp only [Act.put, List.setIfInBounds_toArray, List.set_cons_zero, List.set_cons_succ]
        refine takeH (i := 2) (v := ?v3) rfl (by kernel_rfl) (by kernel_rfl) (by kernel_rfl) (fun _ _ _ h => h) (Or.inl ⟨by rfl, ?hy3⟩) (by assumption) ?rest3
        case hy3 => (intro w hSw; (try dsimp only at hSw); go_simp; try (with_reducible rfl))
        case rest3 =>
        try simp only [Act.put, List.setIfInBounds_toArray, List.set_cons_zero, List.set_cons_succ]
        refine takeH (i := 3) (v := ?v4) rfl (by kernel_rfl) (by kernel_rfl) (by kernel_rfl) (fun _ _ _ h => h) (Or.inl ⟨by rfl, ?hy4⟩) (by assumption) ?rest4
        case hy4 => (intro w hSw; (try dsimp only at hSw); go_simp; try (with_reducible rfl))
        case rest4 =>
        try simp only [Act.put, List.setIfInBounds_toArray, List.set_cons_zero, List.set_cons_succ]
        refine wpAnyH_ready (rs := [4]) (by kernel_rfl) (by simp) ?_
        refine consH rfl (fun K hK => ?_) AllReadyH.nil
        rw [if_pos (by first | rfl | (go_simp; done) | (go_simp; rfl))]
        refine store_step (ops := #[]) rfl rfl (g := g4) (cells := bufV i.1.1 i.1.2) (by first | rfl | (go_simp; done) | (go_simp; rfl)) (by first | rfl | (go_simp; done) | (go_simp; rfl)) B8.out infoBuf rfl (by simp [bufV, Value.oneCell']) ?_
        intro ws hx hk hz hb
        have BA := Hd.mk hx
        have CA := Hd.mk (show Blk ws g3 42 _ from (hk.2 g3 C8.out.lt HG4.out.2).trans C8.out)
        have DA := Hd.mk (show Blk ws g11 42 _ from (hk.2 g11 D8.out.lt (fun e => N11.out.2.1 e.symm)).trans D8.out)
        have HBA := Hd.mk (hb HB8.out HG4.out.1)
        clear hx hk hz hb hHd
        have hHd : (fun w' : World => (w'.cell? ⟨g11, 0, none⟩ = some (.string i.1.1) ∧ w'.cell? ⟨g11, 1, none⟩ = some (.int .i64 (i.1.2 : Int))) ∧ w'.cell? ⟨g3, 0, none⟩ = some (.string m) ∧ w'.cell? ⟨g3, 1, none⟩ = some (.int .i64 (a : Int))) ws := ⟨⟨DA.out.cell 0 rfl, DA.out.cell 1 rfl⟩, CA.out.cell 0 rfl, CA.out.cell 1 rfl⟩
        refine hK.out _ _ hHd ?_
        clear hK K
        try simp only [Act.put, List.setIfInBounds_toArray, List.set_cons_zero, List.set_cons_succ]
        refine takeH (i := 5) (v := ?v5) rfl (by kernel_rfl) (by kernel_rfl) (by kernel_rfl) (fun _ _ _ h => h) (Or.inl ⟨by rfl, ?hy5⟩) (by assumption) ?rest5
        case hy5 => (intro w hSw; (try dsimp only at hSw); go_simp; try (with_reducible rfl))
        case rest5 =>
        try simp only [Act.put, List.setIfInBounds_toArray, List.set_cons_zero, List.set_cons_succ]
        refine wpAnyH_done (by kernel_rfl) ?_ _
        refine hKQ _ _ ?_
        clear hHd
        go_wp2
        exact ret_row_tmp (cs := bufV i.1.1 i.1.2) (v := .bool (neB i.1 (m, a))) rfl rfl Tryz.underlying42 infoBuf rfl BA.out (by first | rfl | (go_simp; rfl) | (unfold neB; go_simp; trace_state; done)) rfl ⟨by rw [HI.out]; rfl, HBA.out⟩
      · have HI : Hd (res = ((m, a), false)) := ⟨by rw [HN.out, if_neg (by omega)]⟩
        clear HN
        rw [hi]
        obtain ⟨c0, c1, f0, f1⟩ := Blk.two C8.out
        go_wp2_with (first | ((with_reducible refine gate_store (t := 42) (p := 4) rfl ?_); refine store_event rfl rfl (g := g4) (cells := bufV m a) (by first | rfl | (go_simp; done) | (go_simp; rfl)) (by first | rfl | (go_simp; done) | (go_simp; rfl)) B8.out infoBuf rfl (by simp [bufV, Value.oneCell']) ?_; intro ws hx hk hz hb; have BA := Hd.mk hx; have HBA := Hd.mk (hb HB8.out HG4.out.1); clear hx hk hz hb HB8 B8))
        exact ret_row_tmp (cs := bufV m a) (v := .bool false) rfl rfl Tryz.underlying42 infoBuf rfl BA.out rfl rfl ⟨by rw [HI.out]; rfl, HBA.out⟩
end Go.Proofs.YtbhiljaipikklaaGreatDoorL

