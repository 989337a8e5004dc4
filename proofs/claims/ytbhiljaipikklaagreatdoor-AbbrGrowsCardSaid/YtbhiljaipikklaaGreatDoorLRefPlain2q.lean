/- Parts of the proof of the law that the last file states; declarations that nothing mentions are left out by a program. No conditions. -/
import Derived.Test.YtbhiljaipikklaaGreatDoorLRefPlainq
import Derived.Test.YtbhiljaipikklaaGreatDoorLKeepsPq
set_option linter.unusedVariables false
set_option linter.unusedSimpArgs false
section
namespace Go.Proofs.YtbhiljaipikklaaGreatDoorL
open Go Go.RowKit Go.Lib Go.Proofs.YtbhiljaipikklaaGreatDoorW.PrintWords Go.Proofs.YtbhiljaipikklaaGreatDoor.R
theorem str_nb (s : ByteArray) : strOfNums (nb s.data.toList) = s := by
  unfold strOfNums nb
  rw [List.map_map]
  have : ∀ l : List UInt8, l.map ((fun n : Int => UInt8.ofNat n.toNat) ∘ fun b : UInt8 => (b.toNat : Int)) = l := fun l => by
    induction l with
    | nil => rfl
    | cons b l ih =>
      rw [List.map_cons, ih]
      congr 1
      show UInt8.ofNat ((b.toNat : Int)).toNat = b
      simp
  rw [this]
theorem info_u8 : (Tryz.prog.info? 5).map (fun i => (i.zero, i.size, i.bytes)) = some (some (.int .u8 0), 1, 1) := by kernel_rfl
set_option maxRecDepth 100000 in
set_option maxHeartbeats 4000000 in
theorem rplain_calls (s : ByteArray) (hs : s.size ≤ 4294967296) (w : World) :
    Calls Tryz.prog 37 #[.string s] w fun e w' => e = .returned (.string (plainS s)) ∧ Below w.heap.size w w' := by
  have hz : (nb s.data.toList).length = s.size := by rw [nb_length, ← Lib.size_eq]
  have XR := Hd.mk (souffleurref01_Runes.calls (s.data.toList.length + 13) (fun k => k = w.heap.size) _ _ (nb s.data.toList) _ (Lib.bytesWorld w 5 s) (bytes_V w s (by omega) _) (runes_tells s.data.toList (by rw [← Lib.size_eq]; omega) _ (Nat.le_refl _)))
  rw [hz] at XR
  have HB := Hd.mk (bytesW_below w 5 s)
  go_enter Tryz.func37, Tryz.ntmps37
  have hcv := fun W => Lib.run_convert_string_bytes (P := Tryz.prog) W 9 95 5 s Tryz.underlying9 Tryz.underlying95 Tryz.underlying5
  go_wp2_with fail
  go_at_call 57
  with_reducible refine (XR.out).mono ?_
  rintro _ w2 ⟨v, rfl, hr, hb⟩
  have HB2 := Hd.mk (HB.out.trans (hb.mono HB.out.size))
  obtain ⟨Ar, cr, rfl, hcr, hC⟩ := Kd.R_reads hr
  have HRV := Hd.mk (runesL_valid _ s.data.toList (Nat.le_refl _))
  have hrn := runesL_len s.data.toList
  have HRN : Hd ((runesL s.data.toList).length ≤ 4294967296) := ⟨by rw [← Lib.size_eq] at hrn; omega⟩
  have HPS : Hd (nb (plainS s).data.toList = accP (runesL s.data.toList) (runesL s.data.toList).length) := ⟨by
    unfold accP plainS plainL
    rw [List.take_length, mapD_runes _ _ _ (Nat.le_refl _), cleanL_enc, runesL_enc _ (runesL_valid _ _ (Nat.le_refl _)), mapR_plain]⟩
  have hlm : ((runesL s.data.toList).map fun (r : Nat) => (r : Int)).length = (runesL s.data.toList).length := List.length_map ..
  rw [hlm] at hC ⊢
  have HC := Hd.mk hC
  clear hr hcr hC hb XR HB hcv hrn hlm hz
  generalize runesL s.data.toList = rs at *
  go_wp2
  go_loopg [3, 5] rs.length (fun kq v3 v5 w' => ∃ j : Nat, j + kq = rs.length ∧ v5 = .int .i64 j ∧ Hd (Kd.R (Kd.int .u8) 5 w' w2.heap.size (fun _ => True) v3 (accP rs j)) ∧ Hd (Below w2.heap.size w2 w'))
  case atStart => exact ⟨0, by omega, rfl, ⟨Kd.R_nil _ _ _ _ _⟩, ⟨Below.refl _ _⟩⟩
  case round =>
    obtain ⟨j, hj, rfl, HO, HBl⟩ := hrel
    cases gk with
    | zero =>
      have hlt : decide ((j : Int) < (rs.length : Int)) = false := decide_eq_false (by omega)
      have hlt3 : ¬ j < rs.length := by omega
      obtain rfl : j = rs.length := by omega
      obtain ⟨A3, c3, rfl, hc3, hC3⟩ := Kd.R_reads HO.out
      have hcs := Kd.C_string (P := Tryz.prog) (c := c3) Tryz.underlying95 Tryz.underlying5 Tryz.underlying9 hC3
      have he : strOfNums (accP rs rs.length) = plainS s := by rw [← HPS.out]; exact str_nb _
      rw [he] at hcs
      have HBe := Hd.mk (HB2.out.trans (HBl.out.mono HB2.out.size))
      clear HO hc3 hC3 he hj
      generalize (accP rs rs.length).length = m at *
      go_wp2
      go_ret
      exact ⟨rfl, HBe.out⟩
    | succ d =>
      have hlt : decide ((j : Int) < (rs.length : Int)) = true := decide_eq_true (by omega)
      have hjl : j < rs.length := by omega
      have hCx := Kd.C_below HC.out HBl.out
      obtain ⟨ad, rfl, hcell⟩ := (Kd.reads_of_C (enc := Value.int .i64) (d := (0 : Int)) (h1 := fun _ => rfl) hCx).2.2 (by omega)
      have x0 := hcell j hjl
      have e0 : (rs.map fun (r : Nat) => (r : Int)).getD j 0 = (rs[j] : Int) := by rw [List.getD_eq_getElem?_getD, List.getElem?_map, List.getElem?_eq_getElem hjl]; rfl
      rw [e0] at x0
      have HV := Hd.mk (HRV.out _ (List.getElem_mem hjl))
      have HA := Hd.mk (accP_step rs j hjl)
      clear hCx hcell e0
      generalize rs[j] = r at x0 HV HA
      have HJ := Hd.mk hj
      have HAL := Hd.mk (accP_len rs j (by omega))
      have hj32 : (j : Int) ≤ 4294967296 := by have := HRN.out; omega
      have hn32 : (rs.length : Int) ≤ 4294967296 := by have := HRN.out; omega
      by_cases h9 : r = 9 ∨ r = 10 ∨ r = 13
      · have hp : plainF (r : Int) = 32 := by unfold plainF; rw [if_pos (by omega)]
        rcases h9 with rfl | rfl | rfl
        all_goals
          go_wp2_with fail
          go_at_call 58
          with_reducible refine (souffleurref02_Control.calls 32 false _ (by rw [control_tells 32 (by decide)]; decide)).mono ?_
          rintro _ wc ⟨rfl, nd, rfl⟩
          go_wp2_with fail
          go_at_call 59
          with_reducible refine (souffleurref01_Bytes.calls 1 32 (encodeRuneZ 32) _ (by rw [bytes_eq 1 32 (by decide) (by decide)]; decide +kernel)).mono ?_
          rintro _ wb ⟨vb, rfl, hrb, hbb⟩
          obtain ⟨Ab, cb, rfl, hcb, hCb⟩ := Kd.R_reads hrb
          have HOb := Hd.mk (Kd.R_below (Kd.R_drewN HO.out nd) hbb)
          have HBb := Hd.mk ((pw_below_drewN HBl.out nd).trans (hbb.mono HBl.out.size))
          have hlb := (encodeRuneZ_length 32).2
          clear hbb hrb HO HBl
          go_wp2_with (first | ((with_reducible refine gate_builtin (b := .append) (xs := #[.tmp 33, .tmp 35]) rfl ?_); at_builtin; refine Kd.R_append_rows (Kd.int .u8) (Rr := (Kd.int .u8).K wb) (w0 := w2) w2.heap.size rfl (.tmp 33) (.tmp 35) 95 5 (.int .u8 0) 1 rfl Tryz.underlying95 info_u8 rfl (by decide) (by omega) _ (accP rs j) (encodeRuneZ 32) Ab _ cb (fun _ => True) (fun _ => False) rfl rfl HOb.out hCb (fun x cs h => h) (fun _ h => h.elim) (fun _ _ => trivial) HBb.out HBb.out.size (by have := HAL.out; have := HRN.out; omega) ?_; intro v4 w4 ho4 hb4 _ _; have HO4 := Hd.mk ho4; have HB4 := Hd.mk hb4; clear ho4 hb4))
          go_wp2
          all_goals
            go_roundg d
            case measure => omega
            case rel => exact ⟨j + 1, by have := HJ.out; omega, by go_num, ⟨by rw [HA.out, hp, if_pos (by decide)]; exact HO4.out⟩, HB4⟩
      · have t9 : decide ((r : Int) = 9) = false := decide_eq_false (by omega)
        have t10 : decide ((r : Int) = 10) = false := decide_eq_false (by omega)
        have t13 : decide ((r : Int) = 13) = false := decide_eq_false (by omega)
        have u9 : ((r : Int) == 9) = false := by rw [beq_eq_false_iff_ne]; omega
        have u10 : ((r : Int) == 10) = false := by rw [beq_eq_false_iff_ne]; omega
        have u13 : ((r : Int) == 13) = false := by rw [beq_eq_false_iff_ne]; omega
        cases hc : ctlB (r : Int) with
        | true =>
          go_wp2_with fail
          go_at_call 58
          with_reducible refine (souffleurref02_Control.calls (r : Int) true _ (by rw [control_tells (r : Int) (by omega), hc])).mono ?_
          rintro _ wc ⟨rfl, nd, rfl⟩
          have hp : plainF (r : Int) = -1 := by unfold plainF; rw [if_neg (by omega), if_pos hc]
          have HO4 := Hd.mk (Kd.R_drewN HO.out nd)
          have HB4 := Hd.mk (pw_below_drewN HBl.out nd)
          go_wp2
          all_goals
            go_roundg d
            case measure => omega
            case rel => exact ⟨j + 1, by have := HJ.out; omega, by go_num, ⟨by rw [HA.out, hp, if_neg (by decide)]; exact HO4.out⟩, HB4⟩
        | false =>
          go_wp2_with fail
          go_at_call 58
          with_reducible refine (souffleurref02_Control.calls (r : Int) false _ (by rw [control_tells (r : Int) (by omega), hc])).mono ?_
          rintro _ wc ⟨rfl, nd, rfl⟩
          go_wp2_with fail
          go_at_call 59
          with_reducible refine (souffleurref01_Bytes.calls 1 (r : Int) (encodeRuneZ (r : Int)) _ (by rw [bytes_eq 1 (r : Int) (by decide) (by have := HV.out; unfold validR at this; omega)]; unfold bytesZ; rw [if_neg (by have := HV.out; unfold validR at this; omega)])).mono ?_
          rintro _ wb ⟨vb, rfl, hrb, hbb⟩
          obtain ⟨Ab, cb, rfl, hcb, hCb⟩ := Kd.R_reads hrb
          have HOb := Hd.mk (Kd.R_below (Kd.R_drewN HO.out nd) hbb)
          have HBb := Hd.mk ((pw_below_drewN HBl.out nd).trans (hbb.mono HBl.out.size))
          have hlb := (encodeRuneZ_length (r : Int)).2
          clear hbb hrb HO HBl
          go_wp2_with (first | ((with_reducible refine gate_builtin (b := .append) (xs := #[.tmp 33, .tmp 35]) rfl ?_); at_builtin; refine Kd.R_append_rows (Kd.int .u8) (Rr := (Kd.int .u8).K wb) (w0 := w2) w2.heap.size rfl (.tmp 33) (.tmp 35) 95 5 (.int .u8 0) 1 rfl Tryz.underlying95 info_u8 rfl (by decide) (by omega) _ (accP rs j) (encodeRuneZ (r : Int)) Ab _ cb (fun _ => True) (fun _ => False) rfl rfl HOb.out hCb (fun x cs h => h) (fun _ h => h.elim) (fun _ _ => trivial) HBb.out HBb.out.size (by have := HAL.out; have := HRN.out; omega) ?_; intro v4 w4 ho4 hb4 _ _; have HO4 := Hd.mk ho4; have HB4 := Hd.mk hb4; clear ho4 hb4))
          have hp : plainF (r : Int) = (r : Int) := by unfold plainF; rw [if_neg (by omega), if_neg (by rw [hc]; decide)]
          go_wp2
          all_goals
            go_roundg d
            case measure => omega
            case rel => exact ⟨j + 1, by have := HJ.out; omega, by go_num, ⟨by rw [HA.out, hp, if_pos (by omega)]; exact HO4.out⟩, HB4⟩
end Go.Proofs.YtbhiljaipikklaaGreatDoorL
end
section
namespace Go.Proofs.YtbhiljaipikklaaGreatDoor
open Go Go.RowKit Go.Proofs.YtbhiljaipikklaaGreatDoorL
def souffleurref03_Plain.f (a0 : ByteArray) : Option ByteArray := if a0.size ≤ 4294967296 then some (plainS a0) else none
theorem souffleurref03_Plain.calls (a0 : ByteArray) (r : ByteArray) (w : World) (h : souffleurref03_Plain.f a0 = some r) :
    Calls Tryz.prog 37 #[.string a0] w fun e w' => e = .returned (.string r) ∧ Below w.heap.size w w' := by
  unfold souffleurref03_Plain.f at h
  split at h
  · injection h with h
    subst h
    exact rplain_calls a0 (by assumption) w
  · cases h
end Go.Proofs.YtbhiljaipikklaaGreatDoor
end
