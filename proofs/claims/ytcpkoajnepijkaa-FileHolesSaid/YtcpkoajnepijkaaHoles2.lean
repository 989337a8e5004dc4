/- FileHoles, its walk. No conditions. -/
import Derived.Test.YtcpkoajnepijkaaGrow
import Derived.Test.YtcpkoajnepijkaaHoles1
import Derived.Test.YtcpkoajnepijkaaQx0
import Derived.Test.YtcpkoajnepijkaaWZeros
import Derived.Test.YtcpkoajnepijkaaKeep
namespace Go.Proofs.Ytcpkoajnepijkaa
set_option linter.unusedVariables false
set_option linter.unusedSimpArgs false
open Go.RowKit Go.Proofs.YtcpkoajnepijkaaL Go.Proofs.YtcpkoajnepijkaaW.PrintWords

/-- The blocks of two slices of the call's own. -/
def OwnL2 (v u : Value) : Nat → Prop := fun g => OwnL v g ∨ OwnL u g
/-- What holds at the head of a round: want (v), all (u); i writes were done, j of them stand in want, m in all. -/
structure GHead (W : World) (F : Nat) (l : List (List Int)) (keep : List Bool) (i j m : Nat) (v u : Value) (w : World) (fp : Nat → Prop) (S : PS) : Prop where
  fs : FSat W.heap.size (OwnL2 v u) w F fp S i
  inv : HInv l i S
  want : Own w W.heap.size v (hwant keep 0 0 [] (l.take j))
  all : Own w W.heap.size u (l.take m).flatten
  apart : ∀ g, OwnL v g → ¬ OwnL u g
  bel : Below W.heap.size W w

theorem len_flatten {l : List (List Int)} {k : Nat} (hk : k < l.length) : (l.take k).flatten.length + l[k].length ≤ l.flatten.length := by
  have e2 : l.flatten = (l.take (k + 1)).flatten ++ (l.drop (k + 1)).flatten := by rw [← List.flatten_append, List.take_append_drop]
  rw [List.take_succ_eq_append_getElem hk, List.flatten_append] at e2
  rw [e2]
  simp only [List.flatten_cons, List.flatten_nil, List.append_nil, List.length_append]
  omega
section
variable {W w w' : World} {F : Nat} {l : List (List Int)} {keep : List Bool} {k : Nat} {v u : Value} {fp : Nat → Prop} {S : PS}
theorem holes_write (h : GHead W F l keep k k k v u w fp S) (hk : k < l.length) (h60 : l.length ≤ 60) (hl : l.flatten.length ≤ 3000) {A : Option Addr} {cc : Nat} (hr : RB W.heap.size AllL W (.slice A l[k].length cc) l[k]) :
    Calls Try.prog 23 #[ptr F, .string nA, .slice A l[k].length cc] w fun e w' => e = .returned (.int .i64 0) ∧ ∃ fp' S', GHead W F l keep (k + 1) k k v u w' fp' S' := by
  obtain ⟨s1, s2⟩ := hinv_step h.inv hk hl
  have hlk : l[k].length ≤ 3000 := by
    have := len_flatten hk
    omega
  refine (h.fs.write (by omega) nA (b := l[k]) (hr.any.below h.bel) (by omega)).mono ?_
  rintro e w' ⟨rfl, ⟨fp', hf, _⟩, ho⟩
  rw [s1]
  exact ⟨rfl, fp', _, ⟨hf, s2, own_write_keep h.fs h.want ho, own_write_keep h.fs h.all ho, h.apart, bo h.bel ho (fun g hg => (h.fs.mut g hg).1) h.fs.base_le⟩⟩
theorem holes_skip (h : GHead W F l keep (k + 1) k k v u w fp S) (hk : k < l.length) (hn : ¬ (keptAt keep k = true ∧ 0 < l[k].length)) : GHead W F l keep (k + 1) (k + 1) k v u w fp S := by
  refine ⟨h.fs, h.inv, ?_, h.all, h.apart, h.bel⟩
  have e := hwant_snoc keep l[k] (l.take k) 0 0 []
  rw [← List.take_succ_eq_append_getElem hk, Nat.zero_add, Nat.zero_add, show (l.take k).length = k from by rw [List.length_take]; omega] at e
  rw [e, hstep, if_neg hn]
  exact h.want
theorem holes_kept (h : GHead W F l keep (k + 1) k k v u w fp S) (hk : k < l.length) (hn : keptAt keep k = true ∧ 0 < l[k].length) {v' : Value} (hb : Below w.heap.size w w')
    (ho : Own w' w.heap.size v' ((hwant keep 0 0 [] (l.take k) ++ List.replicate ((l.take k).flatten.length - (hwant keep 0 0 [] (l.take k)).length) 0) ++ l[k])) : GHead W F l keep (k + 1) (k + 1) k v' u w' fp S := by
  have hnew := ownL_base ho
  have hold := ownL_lt h.all
  refine ⟨h.fs.free hb (fun g hg => ?_), h.inv, ?_, own_only h.all (Only.of_below (F := fun _ => False) hb) (fun _ _ h => h), fun g h1 h2 => ?_, h.bel.trans (hb.mono h.fs.base_le)⟩
  · rcases hg with hg | hg
    · exact ⟨.inr (hnew g hg), ownL_lt ho g hg⟩
    · exact ⟨.inl (.inr hg), Nat.lt_of_lt_of_le (hold g hg) hb.size⟩
  · have e := hwant_snoc keep l[k] (l.take k) 0 0 []
    rw [← List.take_succ_eq_append_getElem hk, Nat.zero_add, Nat.zero_add, show (l.take k).length = k from by rw [List.length_take]; omega] at e
    rw [e, hstep, if_pos hn]
    exact Kd.R_lower ho h.fs.base_le
  · have := hnew g h1
    have := hold g h2
    omega
theorem holes_kept2 (h : GHead W F l keep (k + 1) k k v u w fp S) (hk : k < l.length) (hn : keptAt keep k = true ∧ 0 < l[k].length) {wt b : List Int} {n9 n10 : Nat} (hwt : hwant keep 0 0 [] (l.take k) = wt) (hb : b = l[k]) (h10 : n10 = (l.take k).flatten.length) (h9 : wt.length = n9)
    {v' : Value} (hbw : Below w.heap.size w w') (ho : Own w' w.heap.size v' ((wt ++ List.replicate ((n10 : Int) - (n9 : Int)).toNat 0) ++ b)) : GHead W F l keep (k + 1) (k + 1) k v' u w' fp S := by
  subst hwt hb h10 h9
  refine holes_kept h hk hn hbw ?_
  have e : (((l.take k).flatten.length : Int) - ((hwant keep 0 0 [] (l.take k)).length : Int)).toNat = (l.take k).flatten.length - (hwant keep 0 0 [] (l.take k)).length := by omega
  rw [← e]
  exact ho
theorem holes_all (h : GHead W F l keep (k + 1) (k + 1) k v u w fp S) (hk : k < l.length) {u' : Value} (ho : Own w' W.heap.size u' ((l.take k).flatten ++ l[k])) (hg : w.grownBy w' u.ownBlock) (hv : u'.ownBlock = u.ownBlock ∨ ∃ g, u'.ownBlock = some g ∧ w.heap.size ≤ g) :
    GHead W F l keep (k + 1) (k + 1) (k + 1) v u' w' fp S := by
  have hon := grown_onlyL hg
  have hml : MutL W.heap.size (OwnL2 v u) w (OwnL u) := fun g hgl => ⟨ownL_base h.all g hgl, fun _ => .inr hgl⟩
  have hwl := ownL_lt h.want
  have hcase : ∀ g, OwnL u' g → OwnL u g ∨ w.heap.size ≤ g := fun g hgl => by
    rcases hv with e | ⟨g', e, hge⟩
    · left; unfold OwnL at hgl ⊢; rw [← e]; exact hgl
    · right
      unfold OwnL at hgl
      rw [e] at hgl
      injection hgl with hgl
      omega
  refine ⟨h.fs.grow hon hml (h.fs.apart h.all) (fun g hgl => ?_), h.inv, own_only h.want hon h.apart, ?_, fun g h1 h2 => ?_, bo h.bel hon (ownL_base h.all) h.fs.base_le⟩
  · rcases hgl with hgl | hgl
    · exact ⟨.inl (.inl hgl), Nat.lt_of_lt_of_le (hwl g hgl) hon.size⟩
    · exact ⟨(hcase g hgl).imp .inr id, ownL_lt ho g hgl⟩
  · rw [List.take_succ_eq_append_getElem hk, List.flatten_append]
    simp only [List.flatten_cons, List.flatten_nil, List.append_nil]
    exact ho
  · rcases hcase g h2 with h3 | h3
    · exact h.apart g h1 h3
    · have := hwl g h1; omega
theorem own_C {B : Nat} {A : Option Addr} {n c : Nat} {xs : List Int} (h : Own w B (.slice A n c) xs) : (Kd.int .u8).C w A xs.length xs ∧ n = xs.length := by
  obtain ⟨a, b, d⟩ := Kd.R_reads' h
  exact ⟨d, a⟩
end

set_option maxRecDepth 100000 in
set_option maxHeartbeats 8000000 in
theorem holes_walk {W : World} {A0 A1 : Option Addr} {c0 c1 : Nat} {l : List (List Int)} {keep : List Bool} (hl : Kd.C (Kd.slice 5 (Kd.int .u8)) W A0 l.length l) (hk : Kd.bool.C W A1 keep.length keep) (hsz : ∀ x ∈ l, x.length ≤ 140737488351232) :
    Calls Try.prog 5 #[.slice A0 l.length c0, .slice A1 keep.length c1] W fun e w' => e = .returned (.bool true) ∧ Below W.heap.size W w' := by
  have HL := Aside0.mk hl
  have HKP := Aside0.mk hk
  have HSZ := Aside0.mk hsz
  have hlm := Kd.C_max hl
  clear hl hk hsz
  go_enter Try.func5, Try.ntmps5
  go_wp2_with fail
  go_loopg [5, 17] l.length (fun kq v5 v17 w' => ∃ (j : Nat) (x : Int), j + kq = l.length ∧ v17 = .int .i64 j ∧ v5 = .int .i64 x ∧ Aside0 (l.length ≤ 60 → x = ((l.take j).flatten.length : Int)) ∧ Aside0 (Below W.heap.size W w'))
  case atStart => exact ⟨0, 0, by omega, rfl, rfl, ⟨fun _ => by simp⟩, ⟨Below.refl _ _⟩⟩
  case round =>
    obtain ⟨j, x, hj, rfl, rfl, HX, HB⟩ := hrel
    cases gk with
    | succ d =>
      have hlt : decide ((j : Int) < (l.length : Int)) = true := decide_eq_true (by omega)
      have hjl : j < l.length := by omega
      obtain ⟨ad, A3, c3, e0, x0, l3, r3⟩ := Q.at_L3 HL.out (j : Int) (by omega) (by omega)
      have hrd : Q.rd_L3 l (j : Int) = l[j] := by unfold Q.rd_L3; simp [hjl]
      rw [hrd] at x0 l3 r3
      rw [Int.toNat_natCast] at x0
      subst e0
      replace x0 := (HB.out.cell (World.block_lt_of_cell? W _ x0)).trans x0
      have hxs := HSZ.out _ (List.getElem_mem hjl)
      have HN : Aside0 (l.length ≤ 60 → wrap64 (x + (l[j].length : Int)) = ((l.take (j + 1)).flatten.length : Int)) := ⟨fun h60 => by
        rw [HX.out h60, List.take_succ_eq_append_getElem hjl]
        have hs : ((l.take j).flatten.length : Int) ≤ 60 * 140737488351232 := by
          have h1 : ∀ (m : Nat), m ≤ l.length → ((l.take m).flatten.length : Int) ≤ m * 140737488351232 := by
            intro m
            induction m with
            | zero => intro _; simp
            | succ m ih =>
              intro hm
              rw [List.take_succ_eq_append_getElem (by omega)]
              have := ih (by omega)
              have := HSZ.out _ (List.getElem_mem (show m < l.length by omega))
              simp only [List.flatten_append, List.length_append, List.flatten_cons, List.flatten_nil, List.append_nil]
              omega
          have := h1 j (by omega)
          omega
        simp only [List.flatten_append, List.length_append, List.flatten_cons, List.flatten_nil, List.append_nil]
        rw [show wrap64 (((l.take j).flatten.length : Int) + (l[j].length : Int)) = ((l.take j).flatten.length : Int) + (l[j].length : Int) from by unfold wrap64; omega]
        omega⟩
      clear r3 hrd HX hxs
      generalize l[j] = b at x0 HN l3
      go_wp2_with fail
      go_roundg d
      case measure => omega
      case rel => exact ⟨j + 1, _, by omega, by go_num, rfl, HN, HB⟩
    | zero =>
      obtain rfl : j = l.length := by omega
      rw [List.take_length] at HX
      have hlt : decide ((l.length : Int) < (l.length : Int)) = false := decide_eq_false (by omega)
      have XN := Aside0.mk (fsat_new (base := W.heap.size) (Lz := NoL) (w := wr) HB.out.size (fun _ h => h.elim))
      clear hj
      by_cases hin : x ≤ 3000 ∧ l.length ≤ 60 ∧ keep.length ≤ 60
      · obtain ⟨hx, h60, hk60⟩ := hin
        have hfl : l.flatten.length ≤ 3000 := by have := HX.out h60; omega
        clear HX
        go_wp2_with fail
        go_at_call 12
        with_reducible refine (XN.out).mono ?_
        rintro e w1 ⟨F, fp, rfl, hf1, hfp, hb1⟩
        have H0 : Aside0 (GHead W F l keep 0 0 0 (.slice none 0 0) (.slice none 0 0) w1 fp newP) := ⟨⟨hf1.loose (fun g hg => by simp [OwnL2, OwnL, Value.ownBlock] at hg), .inl ⟨rfl, rfl⟩, Kd.R_nil _ _ _ _ _, Kd.R_nil _ _ _ _ _, (fun g hg => by simp [OwnL, Value.ownBlock] at hg), HB.out.trans (hb1.mono HB.out.size)⟩⟩
        clear hf1 hfp hb1 XN HB
        go_wp2_with fail
        generalize wr = wrr at *
        go_loopg [9, 10, 50] l.length (fun kq v9 v10 v50 w' => ∃ k : Nat, k + kq = l.length ∧ v50 = .int .i64 k ∧ ∃ fp S, Aside0 (GHead W F l keep k k k v9 v10 w' fp S))
        case atStart => exact ⟨0, by omega, rfl, fp, _, H0⟩
        case round =>
          clear H0
          obtain ⟨k, hkk, rfl, fpk, S, H⟩ := hrel
          cases gk with
          | zero =>
            obtain rfl : k = l.length := by omega
            have hlt : decide ((l.length : Int) < (l.length : Int)) = false := decide_eq_false (by omega)
            have hend := hinv_end H.out.inv keep
            have hwant := H.out.want
            rw [List.take_length] at hwant
            obtain ⟨Gk, ok, hA, hkc, hGl⟩ : ∃ Gk ok, (0 < keep.length → A1 = some ⟨Gk, ok, none⟩) ∧ (∀ i (hi : i < keep.length), wr.cell? ⟨Gk, ok + i, none⟩ = some (.bool keep[i])) ∧ (0 < keep.length → Gk < W.heap.size) := by
              by_cases hkp : 0 < keep.length
              · obtain ⟨Gk, ok, eA, hGl, hkc⟩ := keep_cells HKP.out hkp
                exact ⟨Gk, ok, fun _ => eA, fun i hi => (H.out.bel.cell (p := ⟨Gk, ok + i, none⟩) hGl).trans (hkc i hi), fun _ => hGl⟩
              · exact ⟨0, 0, fun h => absurd h hkp, fun i hi => absurd hi (by omega), fun h => absurd h hkp⟩
            have XC := Aside0.mk (H.out.fs.crash (by omega) (keep := keep) (ck := c1) hA hkc (fun h hf => by have := (H.out.fs.mut Gk hf).1; have := hGl h; omega) (by omega))
            have HEN := Aside0.mk hend
            have HWN := Aside0.mk hwant
            clear hend hwant hA hkc hGl hkk
            go_wp2_with fail
            go_at_call 20
            with_reducible refine (XC.out).mono ?_
            rintro e w3 ⟨rfl, hf3, ho3⟩
            have HF3 := Aside0.mk hf3
            have HW3 := Aside0.mk (own_write_keep H.out.fs HWN.out ho3)
            have HB3 : Aside0 (Below W.heap.size W w3) := ⟨bo H.out.bel ho3 (fun g hg => (H.out.fs.mut g hg).1) H.out.fs.base_le⟩
            clear hf3 ho3 XC
            have XR := Aside0.mk (HF3.out.read (by omega) nA)
            rw [HEN.out] at XR
            by_cases hl0 : 0 < l.length
            · rw [if_pos hl0] at XR
              have hlz : (0 : Int) < (l.length : Int) := by omega
              have HL0 := Aside0.mk hl0
              clear hl0
              go_wp2_with fail
              go_at_call 18
              refine (XR.out).mono ?_
              rintro e w4 ⟨v4, rfl, ho4, hb4⟩
              have HO4 := Aside0.mk ho4
              have HB4 := Aside0.mk hb4
              clear ho4 hb4 XR
              go_wp2_with fail
              have XL := Aside0.mk (alive_walk w4)
              go_at_call 11
              with_reducible refine (XL.out).mono ?_
              rintro e w5 ⟨rfl, hb5⟩
              have HB5 := Aside0.mk hb5
              have HB45 : Aside0 (Below w3.heap.size w3 w5) := ⟨HB4.out.trans (hb5.mono HB4.out.size)⟩
              clear hb5 XL
              obtain ⟨A9, c9, hv9, _⟩ := own_slice (Kd.own_of_R (enc := Value.int .u8) HW3.out)
              have XE := Aside0.mk (equal_calls ((RB.of_R (base := W.heap.size) (Lz := NoL) HO4.out (fun _ _ h => h)).below HB5.out) ((RB.of_R (base := W.heap.size) (Lz := NoL) HW3.out (fun _ _ h => h)).below HB45.out) rfl)
              clear hv9
              go_wp2_with fail
              go_at_call 21
              with_reducible refine (XE.out).mono ?_
              rintro e w6 ⟨rfl, hb6⟩
              have HEND : Aside0 (Below W.heap.size W w6) := ⟨HB3.out.trans ((HB45.out.trans (hb6.mono HB45.out.size)).mono HF3.out.base_le)⟩
              clear hb6 XE
              go_wp2
              go_ret
              refine ⟨?_, HEND.out⟩
              first
                | (simp [hlz]; exact HL0.out)
                | (simp [hlz]; exact List.eq_nil_of_length_eq_zero (by have := HL0.out; omega))
            · rw [if_neg hl0] at XR
              have hlz : ¬ (0 : Int) < (l.length : Int) := by omega
              have HL0 := Aside0.mk hl0
              clear hl0
              go_wp2_with fail
              go_at_call 18
              refine (XR.out).mono ?_
              rintro e w4 ⟨v4, rfl, ho4, hb4⟩
              have HO4 := Aside0.mk ho4
              have HB4 := Aside0.mk hb4
              clear ho4 hb4 XR
              go_wp2_with fail
              have XL := Aside0.mk (alive_walk w4)
              go_at_call 11
              with_reducible refine (XL.out).mono ?_
              rintro e w5 ⟨rfl, hb5⟩
              have HB5 := Aside0.mk hb5
              have HB45 : Aside0 (Below w3.heap.size w3 w5) := ⟨HB4.out.trans (hb5.mono HB4.out.size)⟩
              clear hb5 XL
              obtain ⟨A9, c9, hv9, _⟩ := own_slice (Kd.own_of_R (enc := Value.int .u8) HW3.out)
              have XE := Aside0.mk (equal_calls ((RB.of_R (base := W.heap.size) (Lz := NoL) HO4.out (fun _ _ h => h)).below HB5.out) ((RB.of_R (base := W.heap.size) (Lz := NoL) HW3.out (fun _ _ h => h)).below HB45.out) rfl)
              clear hv9
              go_wp2_with fail
              go_at_call 21
              with_reducible refine (XE.out).mono ?_
              rintro e w6 ⟨rfl, hb6⟩
              have HEND : Aside0 (Below W.heap.size W w6) := ⟨HB3.out.trans ((HB45.out.trans (hb6.mono HB45.out.size)).mono HF3.out.base_le)⟩
              clear hb6 XE
              go_wp2
              go_ret
              refine ⟨?_, HEND.out⟩
              first
                | (simp [hlz]; exact HL0.out)
                | (simp [hlz]; exact List.eq_nil_of_length_eq_zero (by have := HL0.out; omega))
          | succ d =>
            have hlt : decide ((k : Int) < (l.length : Int)) = true := decide_eq_true (by omega)
            have hjl : k < l.length := by omega
            obtain ⟨ad, A3, c3, e0, x0, l3, r3⟩ := Q.at_L3 HL.out (k : Int) (by omega) (by omega)
            have hrd : Q.rd_L3 l (k : Int) = l[k] := by unfold Q.rd_L3; simp [hjl]
            rw [hrd] at x0 l3 r3
            rw [Int.toNat_natCast] at x0
            subst e0
            replace x0 := (H.out.bel.cell (World.block_lt_of_cell? W _ x0)).trans x0
            have HR3 := Aside0.mk r3
            have XW := Aside0.mk (holes_write H.out hjl h60 hfl (RB.arg l3 r3))
            clear r3 hrd H
            obtain ⟨b, hb⟩ : ∃ b, b = l[k] := ⟨_, rfl⟩
            rw [← hb] at x0 XW HR3 l3
            have HBE := Aside0.mk hb
            have HKK := Aside0.mk hkk
            clear hb hkk
            go_wp2_with fail
            go_at_call 23
            refine (XW.out).mono ?_
            rintro e w3 ⟨rfl, fp3, S3, h3⟩
            have H3 := Aside0.mk h3
            clear h3 XW
            obtain ⟨A9, c9, hv9, hc9⟩ := own_slice (Kd.own_of_R (enc := Value.int .u8) H3.out.want)
            obtain ⟨A10, c10, hv10, hc10⟩ := own_slice (Kd.own_of_R (enc := Value.int .u8) H3.out.all)
            obtain ⟨n9, hn9⟩ : ∃ n, n = (hwant keep 0 0 [] (l.take k)).length := ⟨_, rfl⟩
            obtain ⟨n10, hn10⟩ : ∃ n, n = (l.take k).flatten.length := ⟨_, rfl⟩
            rw [← hn9] at hv9
            rw [← hn10] at hv10
            have HN9 := Aside0.mk hn9
            have HN10 := Aside0.mk hn10
            clear hn9 hn10 hc9 hc10
            subst hv9 hv10
            by_cases hkp : 0 < keep.length
            · obtain ⟨Gk, ok, eA, hGl, hkc⟩ := keep_cells HKP.out hkp
              subst eA
              have hml := Nat.mod_lt k hkp
              have hkz : (0 : Int) < (keep.length : Int) := by omega
              have hmod : ((k : Int).tmod (keep.length : Int)) = ((k % keep.length : Nat) : Int) := rfl
              obtain ⟨m, hm⟩ : ∃ m, m = k % keep.length := ⟨_, rfl⟩
              rw [← hm] at hmod
              have hml' : m < keep.length := by omega
              have kc : w3.cell? ⟨Gk, ok + m, none⟩ = some (.bool keep[m]) := (H3.out.bel.cell (p := ⟨Gk, ok + m, none⟩) hGl).trans (hkc m hml')
              have HKA : Aside0 (keptAt keep k = keep[m]) := ⟨by
                unfold keptAt
                rw [← hm, List.getD_eq_getElem?_getD, List.getElem?_eq_getElem hml']
                simp [hkp]⟩
              have hmi : (m : Int) < (keep.length : Int) := by omega
              clear hm hml hkc hGl
              generalize keep[m] = km at kc HKA
              cases km with
              | false =>
                have H4 := Aside0.mk (holes_skip H3.out hjl (by rw [HKA.out]; simp))
                clear H3
                have HRX := Aside0.mk (Kd.C_below HR3.out H4.out.bel)
                have hall : (l.take k).flatten.length ≤ 3000 ∧ b.length ≤ 3000 := by
                  have := len_flatten hjl
                  rw [HBE.out]
                  omega
                obtain ⟨hall, hbl⟩ := hall
                clear x0 l3
                go_wp2_with (at_builtin; have tok := H4.out.bel; clear tok; refine Kd.R_append_rows (Kd.int .u8) (w0 := W) W.heap.size rfl (.tmp 88) (.tmp 89) 31 5 (.int .u8 0) 1 rfl Try.underlying31 info5 rfl (by decide) (by decide) (.slice A10 n10 c10) ((l.take k).flatten) b A3 b.length c3 (fun _ => True) (fun _ => False) rfl rfl H4.out.all HRX.out (fun x cs h => h) (fun _ h => h.elim) (fun _ _ => trivial) H4.out.bel H4.out.fs.base_le (by omega) ?_; intro v8 w8 ho8 hb8 hg8 hv8; have tok8 : True := trivial)
                have H8 := Aside0.mk (holes_all H4.out hjl (by rw [← HBE.out]; exact ho8) hg8 hv8)
                clear ho8 hb8 hg8 hv8 hall hbl
                go_roundg d
                case measure => omega
                case rel => exact ⟨k + 1, by have := HKK.out; omega, by go_num, _, _, H8⟩
              | true =>
                by_cases hb0 : 0 < b.length
                · have hbz : (0 : Int) < (b.length : Int) := by omega
                  have HCW := Aside0.mk (own_C H3.out.want).1
                  have hwl : n9 ≤ n10 := by
                    rw [HN9.out, HN10.out]
                    have := hwant_le (keep := keep) (l.take k) 0 0 [] (by simp)
                    omega
                  have hall3 : n10 ≤ 3000 ∧ b.length ≤ 3000 := by
                    have := len_flatten hjl
                    have := HN10.out
                    rw [HBE.out]
                    omega
                  obtain ⟨hall3, hbl3⟩ := hall3
                  have hbb : keptAt keep k = true ∧ 0 < l[k].length := ⟨HKA.out, by rw [← HBE.out]; exact hb0⟩
                  have HBB := Aside0.mk hbb
                  clear hbb
                  have HCB := Aside0.mk (Kd.C_below HR3.out H3.out.bel)
                  have HWS := Aside0.mk (show (hwant keep 0 0 [] (l.take k)).length = n9 from HN9.out.symm)
                  have HCW' : Aside0 ((Kd.int .u8).C w3 A9 n9 (hwant keep 0 0 [] (l.take k))) := ⟨by have := HCW.out; rw [HWS.out] at this; exact this⟩
                  clear HCW
                  generalize hwt : hwant keep 0 0 [] (l.take k) = wt at HCW' HWS
                  have HWT := Aside0.mk hwt
                  clear hwt
                  have hwl3 : wt.length ≤ 3000 := by have := HWS.out; omega
                  go_wp2_with (first
                    | (at_builtin; refine Kd.R_append_rows (Kd.int .u8) (w0 := w3) w3.heap.size rfl (.tmp 76) (.tmp 77) 31 5 (.int .u8 0) 1 rfl Try.underlying31 info5 rfl (by decide) (by decide) (.slice (some ⟨w3.heap.size, 0, none⟩) 0 0) [] wt A9 n9 c9 (fun _ => True) (fun _ => False) rfl rfl (own_lit0 w3 _ (Nat.le_refl _)) (Kd.C_alloc HCW'.out _) (fun x cs h => h) (fun _ h => h.elim) (fun _ _ => trivial) (below_alloc (Below.refl _ _) _) (by simp) (by simp; omega) ?_; intro v5 w5 ho5 hb5 _ _; have HO5 : Aside0 (Own w5 w3.heap.size v5 wt) := ⟨ho5⟩; have HB5 := Aside0.mk hb5; clear ho5 hb5)
                    | (at_builtin; have tok := HB5.out; clear tok; refine Kd.R_append_zeros (Kd.int .u8) (w0 := w3) w3.heap.size rfl (.tmp 78) (.tmp 83) 31 3 5 (.int .u8 0) 1 rfl Try.underlying31 (k := .i64) Try.underlying3 info5 rfl (by decide) (by decide) v5 wt (0 : Int) ((n10 : Int) - (n9 : Int)) (fun _ => True) rfl rfl rfl (fun _ _ => trivial) HO5.out (by omega) HB5.out HB5.out.size (by omega) ?_; intro v6 w6 ho6 hb6 _ _; have HO6 : Aside0 (Own w6 w3.heap.size v6 (wt ++ List.replicate ((n10 : Int) - (n9 : Int)).toNat 0)) := ⟨ho6⟩; have HB6 := Aside0.mk hb6; clear ho6 hb6)
                    | (at_builtin; have tok := HB6.out; clear tok; refine Kd.R_append_rows (Kd.int .u8) (w0 := w3) w3.heap.size rfl (.tmp 85) (.tmp 86) 31 5 (.int .u8 0) 1 rfl Try.underlying31 info5 rfl (by decide) (by decide) v6 (wt ++ List.replicate ((n10 : Int) - (n9 : Int)).toNat 0) b A3 b.length c3 (fun _ => True) (fun _ => False) rfl rfl HO6.out (Kd.C_below HCB.out HB6.out) (fun x cs h => h) (fun _ h => h.elim) (fun _ _ => trivial) HB6.out HB6.out.size (by simp; omega) ?_; intro v7 w7 ho7 hb7 _ _; have HO7 : Aside0 (Own w7 w3.heap.size v7 ((wt ++ List.replicate ((n10 : Int) - (n9 : Int)).toNat 0) ++ b)) := ⟨ho7⟩; have HB7 := Aside0.mk hb7; clear ho7 hb7)
                    | (at_builtin; have tok := HB7.out; clear tok; have H4 : Aside0 (GHead W F l keep (k + 1) (k + 1) k v7 (.slice A10 n10 c10) w7 fp3 S3) := ⟨holes_kept2 H3.out hjl HBB.out HWT.out HBE.out HN10.out HWS.out HB7.out HO7.out⟩; refine Kd.R_append_rows (Kd.int .u8) (w0 := W) W.heap.size rfl (.tmp 88) (.tmp 89) 31 5 (.int .u8 0) 1 rfl Try.underlying31 info5 rfl (by decide) (by decide) (.slice A10 n10 c10) ((l.take k).flatten) b A3 b.length c3 (fun _ => True) (fun _ => False) rfl rfl H4.out.all (Kd.C_below HCB.out HB7.out) (fun x cs h => h) (fun _ h => h.elim) (fun _ _ => trivial) H4.out.bel H4.out.fs.base_le (by have := HN10.out; omega) ?_; intro v8 w8 ho8 hb8 hg8 hv8; have H8 := Aside0.mk (holes_all H4.out hjl (by rw [← HBE.out]; exact ho8) hg8 hv8); clear ho8 hb8 hg8 hv8))
                  go_roundg d
                  case measure => omega
                  case rel => exact ⟨k + 1, by have := HKK.out; omega, by go_num, _, _, H8⟩
                · have hbz : ¬ (0 : Int) < (b.length : Int) := by omega
                  have H4 := Aside0.mk (holes_skip H3.out hjl (by rw [← HBE.out]; exact fun h => hb0 h.2))
                  clear H3
                  have HRX := Aside0.mk (Kd.C_below HR3.out H4.out.bel)
                  have hall : (l.take k).flatten.length ≤ 3000 ∧ b.length ≤ 3000 := by
                    have := len_flatten hjl
                    rw [HBE.out]
                    omega
                  obtain ⟨hall, hbl⟩ := hall
                  clear x0 l3
                  go_wp2_with (at_builtin; have tok := H4.out.bel; clear tok; refine Kd.R_append_rows (Kd.int .u8) (w0 := W) W.heap.size rfl (.tmp 88) (.tmp 89) 31 5 (.int .u8 0) 1 rfl Try.underlying31 info5 rfl (by decide) (by decide) (.slice A10 n10 c10) ((l.take k).flatten) b A3 b.length c3 (fun _ => True) (fun _ => False) rfl rfl H4.out.all HRX.out (fun x cs h => h) (fun _ h => h.elim) (fun _ _ => trivial) H4.out.bel H4.out.fs.base_le (by omega) ?_; intro v8 w8 ho8 hb8 hg8 hv8; have tok8 : True := trivial)
                  have H8 := Aside0.mk (holes_all H4.out hjl (by rw [← HBE.out]; exact ho8) hg8 hv8)
                  clear ho8 hb8 hg8 hv8 hall hbl
                  go_roundg d
                  case measure => omega
                  case rel => exact ⟨k + 1, by have := HKK.out; omega, by go_num, _, _, H8⟩
            · have hkz : ¬ (0 : Int) < (keep.length : Int) := by omega
              have H4 := Aside0.mk (holes_skip H3.out hjl (by simp [keptAt, hkp]))
              clear H3
              have HRX := Aside0.mk (Kd.C_below HR3.out H4.out.bel)
              have hall : (l.take k).flatten.length ≤ 3000 ∧ b.length ≤ 3000 := by
                have := len_flatten hjl
                rw [HBE.out]
                omega
              obtain ⟨hall, hbl⟩ := hall
              clear x0 l3
              go_wp2_with (at_builtin; have tok := H4.out.bel; clear tok; refine Kd.R_append_rows (Kd.int .u8) (w0 := W) W.heap.size rfl (.tmp 88) (.tmp 89) 31 5 (.int .u8 0) 1 rfl Try.underlying31 info5 rfl (by decide) (by decide) (.slice A10 n10 c10) ((l.take k).flatten) b A3 b.length c3 (fun _ => True) (fun _ => False) rfl rfl H4.out.all HRX.out (fun x cs h => h) (fun _ h => h.elim) (fun _ _ => trivial) H4.out.bel H4.out.fs.base_le (by omega) ?_; intro v8 w8 ho8 hb8 hg8 hv8; have tok8 : True := trivial)
              have H8 := Aside0.mk (holes_all H4.out hjl (by rw [← HBE.out]; exact ho8) hg8 hv8)
              clear ho8 hb8 hg8 hv8 hall hbl
              go_roundg d
              case measure => omega
              case rel => exact ⟨k + 1, by have := HKK.out; omega, by go_num, _, _, H8⟩
      · clear HX
        have hcase : (3000 < x ∨ (x ≤ 3000 ∧ 60 < l.length)) ∨ (x ≤ 3000 ∧ l.length ≤ 60 ∧ 60 < keep.length) := by omega
        rcases hcase with (h1 | ⟨h1, h2⟩) | ⟨h1, h2, h3⟩
        all_goals
          go_wp2_with fail
          go_at_call 12
          with_reducible refine (XN.out).mono ?_
          rintro e w1 ⟨F, fp, rfl, hf1, hfp, hb1⟩
          have HB1 : Aside0 (Below W.heap.size W w1) := ⟨HB.out.trans (hb1.mono HB.out.size)⟩
          clear hf1 hfp hb1
          go_wp2_with fail
          have XL := Aside0.mk (alive_walk w1)
          go_at_call 11
          with_reducible refine (XL.out).mono ?_
          rintro e w2 ⟨rfl, hb2⟩
          have HB2 := Aside0.mk hb2
          clear hb2 XL
          go_wp2
          go_ret
          exact ⟨rfl, HB1.out.trans (HB2.out.mono HB1.out.size)⟩

theorem fileHoles_walk {W : World} {A0 A1 : Option Addr} {c0 c1 : Nat} {l : List (List Int)} {keep : List Bool} {Q : Prop} {Q' : Int → Prop} (hl : Kd.C (Kd.slice 5 (Kd.int .u8)) W A0 l.length l) (hk : Kd.bool.C W A1 keep.length keep) (hs : Q ∧ ∀ x ∈ l, x.length * Try.prog.bytesOf 5 ≤ reachBytes ∧ ∀ y ∈ x, Q' y) :
    Calls Try.prog 5 #[.slice A0 l.length c0, .slice A1 keep.length c1] W fun e w' => e = .returned (.bool true) ∧ Below W.heap.size W w' :=
  holes_walk hl hk (fun x hx => by
    have h1 := (hs.2 x hx).1
    rw [show Try.prog.bytesOf 5 = 1 from by kernel_rfl, Nat.mul_one] at h1
    unfold reachBytes at h1
    omega)

end Go.Proofs.Ytcpkoajnepijkaa
