/- Parts of the proof of the law that the last file states; declarations that nothing mentions are left out by a program. No conditions. -/
import Derived.WalkLawsBesides
import Derived.Test.YtbhiljaipikklaaGreatDoorLRefSetPq
set_option linter.unusedVariables false
set_option linter.unusedSimpArgs false
namespace Go.Proofs.YtbhiljaipikklaaGreatDoorL
open Go Go.RowKit Go.Proofs.YtbhiljaipikklaaGreatDoorW.PrintWords Go.Proofs.YtbhiljaipikklaaGreatDoor.R
theorem info_pair : (Tryz.prog.info? 37).map (fun i => (i.zero, i.size, i.bytes)) = some (some (.agg #[.string ByteArray.empty, .string ByteArray.empty]), 2, 32) := by kernel_rfl
theorem R_new_V {α : Type} {d : Kd α} {e base' N : Nat} {w' : World} {Q : Nat → Prop} {v : Value} {xs : List α} (h : d.R e w' N (fun _ => True) v xs) (hQ : ∀ k, N ≤ k → Q k) : Kd.V d e w' base' Q v xs :=
  Kd.V_mono (Kd.R_V (Kd.R_bound h)) (fun k hk => hQ k hk.2.1)
theorem gt_cases (a b : ByteArray) : (Op.bytesLess a.toList b.toList = true ∧ gtB a b = false) ∨ (Op.bytesLess a.toList b.toList = false ∧ (a.toList == b.toList) = true ∧ gtB a b = false) ∨ (Op.bytesLess a.toList b.toList = false ∧ (a.toList == b.toList) = false ∧ gtB a b = true) := by
  unfold gtB
  cases Op.bytesLess a.toList b.toList <;> cases (a.toList == b.toList) <;> simp
set_option maxRecDepth 100000 in
set_option maxHeartbeats 4000000 in
theorem rset_calls {w : World} {Q : Nat → Prop} {A : Option Addr} {c base base' : Nat} {l : List RP} (h : Kd.V k37 37 w base Q (.slice A l.length c) l) (hl : l.length ≤ 100) (s t : ByteArray) (hs : s.size ≤ 4294967296) (ht : t.size ≤ 4294967296) :
    Calls Tryz.prog 18 #[.slice A l.length c, .string s, .string t] w fun e w' => ∃ v, e = .returned (.tuple #[v, .int .i64 (setR s t l).1]) ∧ Kd.V k37 37 w' base' (fun k => Q k ∨ w.heap.size ≤ k) v (setR s t l).2 ∧ Below w.heap.size w w' := by
  have XP := Hd.mk (rplain_calls t ht w)
  obtain ⟨kn, hkn⟩ := named_tells s hs
  have XN := Hd.mk (fun w1 => souffleurref08_named.calls kn s (namedS s) w1 hkn)
  have XD := Hd.mk (fun (w1 : World) (hv : Kd.V k37 37 w1 base Q (.slice A l.length c) l) => souffleurref08_Drop.calls (l.length + 1) A c l s (dropR s l) w1 (Kd.V_reads' hv).2.2 (Kd.V_reads' hv).2.1 (drop_tells (by omega) s))
  have HV := Hd.mk h
  have HS : Hd (setR s t l = if namedS s = false then (80, l) else if 100 < (plainS t).size then (30, l) else if (dropR s l).length = l.length ∧ 16 ≤ l.length then (81, l) else (0, insR s (plainS t) false (dropR s l))) := ⟨rfl⟩
  have HDL : Hd ((dropR s l).length ≤ l.length) := ⟨List.length_filter_le _ _⟩
  have hps : (plainS t).size ≤ 16 * t.size := plainS_size t
  have HPS : Hd ((plainS t).size ≤ 68719476736) := ⟨by omega⟩
  have HL := Hd.mk hl
  generalize plainS t = p at XP HS HPS hps
  generalize dropR s l = rest at XD HS HDL
  clear h hs ht hps hkn
  go_enter Tryz.func18, Tryz.ntmps18
  go_wp2_with fail
  go_at_call 37
  with_reducible refine (XP.out).mono ?_
  rintro _ w1 ⟨rfl, hb1⟩
  have HB1 := Hd.mk hb1
  clear hb1 XP
  go_wp2_with fail
  go_at_call 38
  with_reducible refine (XN.out _).mono ?_
  rintro _ w2 ⟨rfl, hb2⟩
  have HB2 := Hd.mk (HB1.out.trans (hb2.mono HB1.out.size))
  replace HV := Hd.mk (Kd.V_below HV.out HB2.out)
  clear hb2 XN HB1
  have HVO : Hd (Kd.V k37 37 w2 base' (fun k => Q k ∨ w.heap.size ≤ k) (.slice A l.length c) l) := ⟨Kd.V_map HV.out (fun _ hf => Kd.F_mono hf (fun _ hk => .inl hk))⟩
  cases hn : namedS s with
  | false =>
    have HE : Hd (setR s t l = (80, l)) := ⟨by rw [HS.out, if_pos hn]⟩
    clear hn HS
    go_wp2
    go_ret2
    exact ⟨_, by rw [HE.out]; rfl, by rw [HE.out]; exact HVO.out, HB2.out⟩
  | true =>
    by_cases h1 : 100 < p.size
    · have HE : Hd (setR s t l = (30, l)) := ⟨by rw [HS.out, if_neg (by rw [hn]; decide), if_pos h1]⟩
      have q1 : decide ((100 : Int) < (p.size : Int)) = true := decide_eq_true (by omega)
      have q2 : decide (100 < p.size) = true := decide_eq_true h1
      clear hn HS h1
      go_wp2
      go_ret2
      exact ⟨_, by rw [HE.out]; rfl, by rw [HE.out]; exact HVO.out, HB2.out⟩
    · have q1 : decide ((100 : Int) < (p.size : Int)) = false := decide_eq_false (by omega)
      have q2 : decide (100 < p.size) = false := decide_eq_false h1
      have HS3 : Hd (setR s t l = if rest.length = l.length ∧ 16 ≤ l.length then (81, l) else (0, insR s p false rest)) := ⟨by rw [HS.out, if_neg (by rw [hn]; decide), if_neg h1]⟩
      clear hn HS h1
      go_wp2_with fail
      go_at_call 19
      with_reducible refine (XD.out _ HV.out).mono ?_
      rintro _ w3 ⟨v3, rfl, hr3, hb3⟩
      have HB3 := Hd.mk (HB2.out.trans (hb3.mono HB2.out.size))
      replace HVO := Hd.mk (Kd.V_below HVO.out hb3)
      have HRR := Hd.mk hr3
      obtain ⟨A3, c3, rfl, hc3, hC3⟩ := Kd.R_reads hr3
      have HC3 := Hd.mk hC3
      clear hr3 hb3 XD hc3 hC3 HB2 HV HRR
      by_cases h2 : rest.length = l.length ∧ 16 ≤ l.length
      · have HE : Hd (setR s t l = (81, l)) := ⟨by rw [HS3.out, if_pos h2]⟩
        have r1 : ((rest.length : Int) == (l.length : Int)) = true := by rw [beq_iff_eq]; omega
        have r2 : decide ((rest.length : Int) = (l.length : Int)) = true := decide_eq_true (by omega)
        have r3 : decide ((16 : Int) ≤ (l.length : Int)) = true := decide_eq_true (by omega)
        have r4 : decide (rest.length = l.length) = true := decide_eq_true h2.1
        have r5 : decide (16 ≤ l.length) = true := decide_eq_true h2.2
        clear HS3 h2
        go_wp2
        go_ret2
        exact ⟨_, by rw [HE.out]; rfl, by rw [HE.out]; exact HVO.out, HB3.out⟩
      · have HE : Hd (setR s t l = (0, insR s p false rest)) := ⟨by rw [HS3.out, if_neg h2]⟩
        have h2' : (((rest.length : Int) == (l.length : Int)) = false ∧ decide ((rest.length : Int) = (l.length : Int)) = false ∧ decide (rest.length = l.length) = false) ∨ (((rest.length : Int) == (l.length : Int)) = true ∧ decide ((rest.length : Int) = (l.length : Int)) = true ∧ decide (rest.length = l.length) = true ∧ decide ((16 : Int) ≤ (l.length : Int)) = false ∧ decide (16 ≤ l.length) = false) := by
          by_cases e : rest.length = l.length
          · right
            have h16 : ¬ 16 ≤ l.length := fun x => h2 ⟨e, x⟩
            exact ⟨by rw [beq_iff_eq]; omega, decide_eq_true (by omega), decide_eq_true e, decide_eq_false (by omega), decide_eq_false h16⟩
          · left
            exact ⟨by rw [beq_eq_false_iff_ne]; omega, decide_eq_false (by omega), decide_eq_false e⟩
        clear HS3 h2 HVO
        go_upto_region 7 with fail
        go_cut [34] (fun v34 wx => v34 = .bool false ∧ wx = w3)
        case first =>
          rcases h2' with ⟨r1, r2, r3⟩ | ⟨r1, r2, r3, r4, r5⟩
          all_goals
            go_wp2
            go_meet
            case rel => exact ⟨rfl, rfl⟩
        case rest =>
        obtain ⟨rfl, rfl⟩ := hcut
        clear h2'
        go_wp2
        go_loopg [9, 10, 11] rest.length (fun kq v9 v10 v11 wx => ∃ (o : List RP) (dn : Bool) (j : Nat), v10 = .bool dn ∧ v11 = .int .i64 (j : Int) ∧ j + kq = rest.length ∧ Hd (o ++ insR s p dn (rest.drop j) = insR s p false rest) ∧ Hd (o.length ≤ j + (if dn = true then 1 else 0)) ∧ Hd (Kd.R k37 37 wx wc.heap.size (fun _ => True) v9 o) ∧ Hd (Below wc.heap.size wc wx))
        case atStart => exact ⟨[], false, 0, rfl, rfl, by omega, ⟨by rw [List.drop_zero]; rfl⟩, ⟨Nat.zero_le _⟩, ⟨Kd.R_nil _ _ _ _ _⟩, ⟨Below.refl _ _⟩⟩
        case round =>
          obtain ⟨o, dn, j, rfl, rfl, hj, HI, HOL, HO, HB⟩ := hrel
          have HR1 : Hd (rest.length ≤ 100) := ⟨by have := HDL.out; have := HL.out; omega⟩
          have HOB : Hd (o.length ≤ 102) := ⟨by have h1 := HR1.out; have h2 := HOL.out; cases dn <;> simp at h2 <;> omega⟩
          cases gk with
          | zero =>
            have hlt : decide ((j : Int) < (rest.length : Int)) = false := decide_eq_false (by omega)
            have hlt2 : decide (j < rest.length) = false := decide_eq_false (by omega)
            have hlt3 : ¬ j < rest.length := by omega
            replace HI := HI.out
            rw [List.drop_eq_nil_of_le (by omega)] at HI
            cases dn with
            | true =>
              have HE2 : Hd (setR s t l = (0, o)) := ⟨by rw [HE.out, ← HI]; simp [insR]⟩
              have HBE := Hd.mk (HB3.out.trans (HB.out.mono HB3.out.size))
              clear HI hj HE
              go_wp2
              go_ret2
              exact ⟨_, by rw [HE2.out]; rfl, by rw [HE2.out]; exact R_new_V HO.out (fun k hk => .inr (Nat.le_trans HB3.out.size hk)), HBE.out⟩
            | false =>
              have HE2 : Hd (setR s t l = (0, o ++ [⟨s, p⟩])) := ⟨by rw [HE.out, ← HI]; simp [insR]⟩
              clear HI hj HE
              go_wp2_with ((with_reducible refine gate_builtin (b := .append) (xs := #[.tmp 68, .tmp 72]) rfl ?_); at_builtin; refine Kd.R_append k37 (w0 := wc) wc.heap.size rfl (.tmp 68) (.tmp 72) 28 37 (.agg #[.string ⟨#[]⟩, .string ⟨#[]⟩]) 32 rfl Tryz.underlying28 info_pair rfl (by decide) (by omega) u9 (o) (⟨s, p⟩ : RP) [.string (s), .string (p)] (fun _ => True) (fun _ => False) rfl rfl (k37_mkM _ _ _ (⟨s, p⟩ : RP)) (fun _ hk => hk.elim) (fun _ _ => trivial) HO.out HB.out HB.out.size (by have h2 := HOB.out; (try simp only [List.length_append, List.length_singleton] at h2 ⊢); omega) ?_; intro v1 wz ho_ hb_ hg_ ha_; have HO' := Hd.mk ho_; have HB' := Hd.mk hb_; clear ho_ hb_ hg_ ha_)
              have HBE := Hd.mk (HB3.out.trans (HB'.out.mono HB3.out.size))
              go_wp2
              go_ret2
              exact ⟨_, by rw [HE2.out]; rfl, by rw [HE2.out]; exact R_new_V HO'.out (fun k hk => .inr (Nat.le_trans HB3.out.size hk)), HBE.out⟩
          | succ d =>
            have hlt : decide ((j : Int) < (rest.length : Int)) = true := decide_eq_true (by omega)
            have hjl : j < rest.length := by omega
            have hlt2 : decide (j < rest.length) = true := decide_eq_true hjl
            have hj0 : (0 : Int) ≤ (j : Int) := Int.natCast_nonneg j
            have hjb : (j : Int) ≤ 100 := by have := HR1.out; omega
            obtain ⟨ad, e0, x0, x1⟩ := at_T37 (Kd.C_below HC3.out HB.out) (j : Int) (by omega) (by omega)
            rw [rdP hjl, Int.toNat_natCast] at x0 x1
            subst e0
            replace HI := HI.out
            rw [List.drop_eq_getElem_cons hjl] at HI
            have HJ := Hd.mk hj
            obtain ⟨⟨y0, y1⟩, hy⟩ : ∃ y, rest[j] = y := ⟨_, rfl⟩
            rw [hy] at x0 x1 HI
            have HY := Hd.mk hy
            clear hy
            cases dn with
            | true =>
              have HI2 : Hd ((o ++ [⟨y0, y1⟩]) ++ insR s p true (rest.drop (j + 1)) = insR s p false rest) := ⟨by rw [← HI]; simp [insR]⟩
              clear HI hj
              go_wp2_with ((with_reducible refine gate_builtin (b := .append) (xs := #[.tmp 59, .tmp 64]) rfl ?_); at_builtin; refine Kd.R_append k37 (w0 := wc) wc.heap.size rfl (.tmp 59) (.tmp 64) 28 37 (.agg #[.string ⟨#[]⟩, .string ⟨#[]⟩]) 32 rfl Tryz.underlying28 info_pair rfl (by decide) (by omega) u9 (o) (⟨y0, y1⟩ : RP) [.string (y0), .string (y1)] (fun _ => True) (fun _ => False) rfl rfl (k37_mkM _ _ _ (⟨y0, y1⟩ : RP)) (fun _ hk => hk.elim) (fun _ _ => trivial) HO.out HB.out HB.out.size (by have h2 := HOB.out; (try simp only [List.length_append, List.length_singleton] at h2 ⊢); omega) ?_; intro v1 wz ho_ hb_ hg_ ha_; have HO' := Hd.mk ho_; have HB' := Hd.mk hb_; clear ho_ hb_ hg_ ha_)
              go_wp2
              go_roundg d
              case measure => omega
              case rel => exact ⟨o ++ [⟨y0, y1⟩], true, j + 1, rfl, by go_num, by have := HJ.out; omega, HI2, ⟨by have := HOL.out; rw [List.length_append, List.length_singleton]; simp at this ⊢; omega⟩, HO', HB'⟩
            | false =>
              rcases gt_cases y0 s with ⟨g1, g2⟩ | ⟨g1, g3, g2⟩ | ⟨g1, g3, g2⟩
              · have HI2 : Hd ((o ++ [⟨y0, y1⟩]) ++ insR s p false (rest.drop (j + 1)) = insR s p false rest) := ⟨by rw [← HI]; simp [insR, g2]⟩
                clear HI hj g2
                go_upto_region 17 with fail
                go_wp2_with ((with_reducible refine gate_builtin (b := .append) (xs := #[.tmp 59, .tmp 64]) rfl ?_); at_builtin; refine Kd.R_append k37 (w0 := wc) wc.heap.size rfl (.tmp 59) (.tmp 64) 28 37 (.agg #[.string ⟨#[]⟩, .string ⟨#[]⟩]) 32 rfl Tryz.underlying28 info_pair rfl (by decide) (by omega) u9 (o) (⟨y0, y1⟩ : RP) [.string (y0), .string (y1)] (fun _ => True) (fun _ => False) rfl rfl (k37_mkM _ _ _ (⟨y0, y1⟩ : RP)) (fun _ hk => hk.elim) (fun _ _ => trivial) HO.out HB.out HB.out.size (by have h2 := HOB.out; (try simp only [List.length_append, List.length_singleton] at h2 ⊢); omega) ?_; intro v1 wz ho_ hb_ hg_ ha_; have HO' := Hd.mk ho_; have HB' := Hd.mk hb_; clear ho_ hb_ hg_ ha_)
                go_wp2
                go_roundg d
                case measure => omega
                case rel => exact ⟨o ++ [⟨y0, y1⟩], false, j + 1, rfl, by go_num, by have := HJ.out; omega, HI2, ⟨by have := HOL.out; rw [List.length_append, List.length_singleton]; simp at this ⊢; omega⟩, HO', HB'⟩
              · have HI2 : Hd ((o ++ [⟨y0, y1⟩]) ++ insR s p false (rest.drop (j + 1)) = insR s p false rest) := ⟨by rw [← HI]; simp [insR, g2]⟩
                clear HI hj g2
                go_upto_region 17 with fail
                go_wp2_with ((with_reducible refine gate_builtin (b := .append) (xs := #[.tmp 59, .tmp 64]) rfl ?_); at_builtin; refine Kd.R_append k37 (w0 := wc) wc.heap.size rfl (.tmp 59) (.tmp 64) 28 37 (.agg #[.string ⟨#[]⟩, .string ⟨#[]⟩]) 32 rfl Tryz.underlying28 info_pair rfl (by decide) (by omega) u9 (o) (⟨y0, y1⟩ : RP) [.string (y0), .string (y1)] (fun _ => True) (fun _ => False) rfl rfl (k37_mkM _ _ _ (⟨y0, y1⟩ : RP)) (fun _ hk => hk.elim) (fun _ _ => trivial) HO.out HB.out HB.out.size (by have h2 := HOB.out; (try simp only [List.length_append, List.length_singleton] at h2 ⊢); omega) ?_; intro v1 wz ho_ hb_ hg_ ha_; have HO' := Hd.mk ho_; have HB' := Hd.mk hb_; clear ho_ hb_ hg_ ha_)
                go_wp2
                go_roundg d
                case measure => omega
                case rel => exact ⟨o ++ [⟨y0, y1⟩], false, j + 1, rfl, by go_num, by have := HJ.out; omega, HI2, ⟨by have := HOL.out; rw [List.length_append, List.length_singleton]; simp at this ⊢; omega⟩, HO', HB'⟩
              · have HI2 : Hd (((o ++ [⟨s, p⟩]) ++ [⟨y0, y1⟩]) ++ insR s p true (rest.drop (j + 1)) = insR s p false rest) := ⟨by rw [← HI]; simp [insR, g2, insR_true]⟩
                clear HI hj g2
                go_upto_region 16 with ((with_reducible refine gate_builtin (b := .append) (xs := #[.tmp 53, .tmp 57]) rfl ?_); at_builtin; refine Kd.R_append k37 (w0 := wc) wc.heap.size rfl (.tmp 53) (.tmp 57) 28 37 (.agg #[.string ⟨#[]⟩, .string ⟨#[]⟩]) 32 rfl Tryz.underlying28 info_pair rfl (by decide) (by omega) u9 (o) (⟨s, p⟩ : RP) [.string (s), .string (p)] (fun _ => True) (fun _ => False) rfl rfl (k37_mkM _ _ _ (⟨s, p⟩ : RP)) (fun _ hk => hk.elim) (fun _ _ => trivial) HO.out HB.out HB.out.size (by have h2 := HOB.out; (try simp only [List.length_append, List.length_singleton] at h2 ⊢); omega) ?_; intro v1 wz ho_ hb_ hg_ ha_; have HO' := Hd.mk ho_; have HB' := Hd.mk hb_; clear ho_ hb_ hg_ ha_)
                clear x0 x1
                obtain ⟨ad', e0, x0, x1⟩ := at_T37 (Kd.C_below HC3.out HB'.out) (j : Int) (by omega) (by omega)
                rw [rdP hjl, Int.toNat_natCast, HY.out] at x0 x1
                obtain rfl := Option.some.inj e0
                have HOB2 : Hd ((o ++ [(⟨s, p⟩ : RP)]).length ≤ 103) := ⟨by have := HOB.out; rw [List.length_append, List.length_singleton]; omega⟩
                go_wp2_with ((with_reducible refine gate_builtin (b := .append) (xs := #[.tmp 59, .tmp 64]) rfl ?_); at_builtin; refine Kd.R_append k37 (w0 := wc) wc.heap.size rfl (.tmp 59) (.tmp 64) 28 37 (.agg #[.string ⟨#[]⟩, .string ⟨#[]⟩]) 32 rfl Tryz.underlying28 info_pair rfl (by decide) (by omega) v1 (o ++ [⟨s, p⟩]) (⟨y0, y1⟩ : RP) [.string (y0), .string (y1)] (fun _ => True) (fun _ => False) rfl rfl (k37_mkM _ _ _ (⟨y0, y1⟩ : RP)) (fun _ hk => hk.elim) (fun _ _ => trivial) HO'.out HB'.out HB'.out.size (by have h2 := HOB2.out; (try simp only [List.length_append, List.length_singleton] at h2 ⊢); omega) ?_; intro v2 wz2 ho_ hb_ hg_ ha_; have HO'' := Hd.mk ho_; have HB'' := Hd.mk hb_; clear ho_ hb_ hg_ ha_)
                go_wp2
                go_roundg d
                case measure => omega
                case rel => exact ⟨(o ++ [⟨s, p⟩]) ++ [⟨y0, y1⟩], true, j + 1, rfl, by go_num, by have := HJ.out; omega, HI2, ⟨by have := HOL.out; simp at this ⊢; omega⟩, HO'', HB''⟩
end Go.Proofs.YtbhiljaipikklaaGreatDoorL

