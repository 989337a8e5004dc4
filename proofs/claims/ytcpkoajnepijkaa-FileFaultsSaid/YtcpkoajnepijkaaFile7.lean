/- Write of a file system, where it comes to write. No conditions. -/
import Derived.Test.YtcpkoajnepijkaaFile6
import Derived.Deep.RegionHeld3
import Derived.Deep.AppendLies
import Derived.Deep.RegionLaw
namespace Go.Proofs.Ytcpkoajnepijkaa
set_option linter.unusedVariables false
set_option linter.unusedSimpArgs false
open Go.RowKit Go.Proofs.YtcpkoajnepijkaaL Go.Proofs.YtcpkoajnepijkaaW.PrintWords

theorem Fine.faultS {st : FS} (h : Fine st) : Fine (faultS st) := ⟨h.ops, h.fuse0, h.fuse1, by
  have := h.fault0
  show -1 ≤ (if st.fault - 1 < -1 then -1 else st.fault - 1)
  split <;> omega, by
  have := h.fault1
  show (if st.fault - 1 < -1 then -1 else st.fault - 1) ≤ _
  split <;> omega⟩

theorem named_true {s : ByteArray} {w : World} (hn : namedB s = true) : Calls Try.prog 43 #[.string s] w fun e w' => e = .returned (.bool true) ∧ w' = w :=
  (named_calls s w).mono fun e w' ⟨he, hw⟩ => ⟨by rw [he]; congr 2, hw⟩

set_option maxRecDepth 100000 in
set_option maxHeartbeats 1000000 in
theorem write_full {base : Nat} {Lz : Nat → Prop} {w : World} {F : Nat} {fp : Nat → Prop} {st : FS} (h : FRep base Lz w F fp st) (s : ByteArray) (A : Option Addr) (n c : Nat) (hd : st.down = false) (hn : namedB s = true) (hf : ∀ g, fnd s st.files = some g → st.sz g ≤ 65536) (h8 : fnd s st.files = none → st.files.length < 8) (hl : n ≤ 1000000)
    (hfull : ((fnd s st.files).map st.sz).getD 0 + n > 65536) :
    Calls Try.prog 23 #[ptr F, .string s, .slice A n c] w fun e w' => e = .returned (.int .i64 103) ∧ Below w.heap.size w w' := by
  obtain ⟨M, rv, cells, h⟩ := h
  have XN := Aside0.mk (named_true (w := w) hn)
  have c0 := h.blk.cell 0 rfl
  have c5 := h.blk.cell 5 rfl
  have hlk := h.look s
  have hlen := h.lenM
  rw [hd] at c5
  rcases hlk with ⟨hfn, hlk⟩ | ⟨g, hfg, hg, hlk⟩
  · have h8' : ¬ (8 : Int) ≤ (st.files.length : Int) := by have := h8 hfn; omega
    rw [hfn] at hfull
    have hbig : 65536 < n := by simpa using hfull
    clear hd hn hf h8 hfull hfn h
    go_enter Try.func23, Try.ntmps23
    go_wp2_with (go_at_call 43; (with_reducible refine (XN.out).mono ?_); rintro e w2 ⟨rfl, rfl⟩)
    go_ret
    exact ⟨rfl, below_alloc (Below.refl _ _) _⟩
  · obtain ⟨v0, hi, _⟩ := h.ino g hg
    have k1 : w.cell? ⟨g, 1, none⟩ = some (.int .i64 (st.sz g)) := hi.cell 1 rfl
    have hz := hf g hfg
    rw [hfg] at hfull
    have hbig : (65536 : Int) < (st.sz g : Int) + (n : Int) := by simp at hfull; omega
    clear hd hn hf h8 hfull hfg h hi
    go_enter Try.func23, Try.ntmps23
    go_wp2_with (go_at_call 43; (with_reducible refine (XN.out).mono ?_); rintro e w2 ⟨rfl, rfl⟩)
    go_ret
    exact ⟨rfl, Below.refl _ _⟩

set_option maxRecDepth 100000 in
set_option maxHeartbeats 1000000 in
theorem write_fault {base : Nat} {Lz : Nat → Prop} {w : World} {F : Nat} {fp : Nat → Prop} {st : FS} (h : FRep base Lz w F fp st) (hfi : Fine st) (s : ByteArray) (A : Option Addr) (n c : Nat) (hd : st.down = false) (hn : namedB s = true) (hf : ∀ g, fnd s st.files = some g → st.sz g ≤ 65536) (h8 : fnd s st.files = none → st.files.length < 8) (hl : n ≤ 1000000)
    (hroom : ((fnd s st.files).map st.sz).getD 0 + n ≤ 65536) (hft : (st.fault == 0) = true) :
    Calls Try.prog 23 #[ptr F, .string s, .slice A n c] w fun e w' => e = .returned (.int .i64 (if (st.fuse == 0) = true then 100 else 102)) ∧ FRep base Lz w' F fp (opS (faultS st)) ∧ Only (· = F) w w' := by
  have HR := Aside0.mk h
  have HFI := Aside0.mk hfi
  obtain ⟨M, rv, cells, h⟩ := h
  have XN := Aside0.mk (named_true (w := w) hn)
  have c0 := h.blk.cell 0 rfl
  have c5 := h.blk.cell 5 rfl
  have hlk := h.look s
  have hlen := h.lenM
  rw [hd] at c5
  have XQ : Aside0 (∀ w1, FRep base Lz w1 F fp st → Calls Try.prog 44 #[ptr F] w1 fun e w' => e = .returned (.bool true) ∧ FRep base Lz w' F fp (faultS st) ∧ Only (· = F) w1 w') := ⟨fun w1 h1 => by
    have := faulty_calls h1 hfi
    rw [hft] at this
    exact this⟩
  cases hfu : (st.fuse == 0) with
  | true =>
    have XO : Aside0 (∀ w1, FRep base Lz w1 F fp (faultS st) → Calls Try.prog 45 #[ptr F] w1 fun e w' => e = .returned (.bool false) ∧ FRep base Lz w' F fp (opS (faultS st)) ∧ Only (· = F) w1 w') := ⟨fun w1 h1 => by
      have := op_calls h1 hfi.faultS
      rw [show ((faultS st).fuse == 0) = true from hfu] at this
      exact this⟩
    rcases hlk with ⟨hfn, hlk⟩ | ⟨g, hfg, hg, hlk⟩
    · have h8' : ¬ (8 : Int) ≤ (st.files.length : Int) := by have := h8 hfn; omega
      rw [hfn] at hroom
      have hbig : ¬ 65536 < n := by simp at hroom; omega
      clear hd hn hf h8 hroom hfn h hft hfu hfi
      go_enter Try.func23, Try.ntmps23
      go_wp2_with (first
        | (go_at_call 43; (with_reducible refine (XN.out).mono ?_); rintro e w2 ⟨rfl, rfl⟩)
        | (go_at_call 44; (with_reducible refine (XQ.out _ (HR.out.below (below_alloc (Below.refl _ _) _))).mono ?_); rintro e w3 ⟨rfl, hr3, hb3⟩; have HR3 := Aside0.mk hr3; have HB3 := Aside0.mk hb3; clear hr3 hb3)
        | (go_at_call 45; (with_reducible refine (XO.out _ HR3.out).mono ?_); rintro e w4 ⟨rfl, hr4, hb4⟩; have HR4 := Aside0.mk hr4; have HB4 := Aside0.mk hb4; clear hr4 hb4))
      go_ret
      exact ⟨rfl, HR4.out, (((Only.refl _ _).alloc _).trans HB3.out (fun _ _ h => h)).trans HB4.out (fun _ _ h => h)⟩
    · obtain ⟨v0, hi, _⟩ := h.ino g hg
      have k1 : w.cell? ⟨g, 1, none⟩ = some (.int .i64 (st.sz g)) := hi.cell 1 rfl
      have hz := hf g hfg
      rw [hfg] at hroom
      have hbig : ¬ (65536 : Int) < (st.sz g : Int) + (n : Int) := by simp at hroom; omega
      clear hd hn hf h8 hroom hfg h hi hft hfu hfi
      go_enter Try.func23, Try.ntmps23
      go_wp2_with (first
        | (go_at_call 43; (with_reducible refine (XN.out).mono ?_); rintro e w2 ⟨rfl, rfl⟩)
        | (go_at_call 44; (with_reducible refine (XQ.out _ HR.out).mono ?_); rintro e w3 ⟨rfl, hr3, hb3⟩; have HR3 := Aside0.mk hr3; have HB3 := Aside0.mk hb3; clear hr3 hb3)
        | (go_at_call 45; (with_reducible refine (XO.out _ HR3.out).mono ?_); rintro e w4 ⟨rfl, hr4, hb4⟩; have HR4 := Aside0.mk hr4; have HB4 := Aside0.mk hb4; clear hr4 hb4))
      go_ret
      exact ⟨rfl, HR4.out, HB3.out.trans HB4.out (fun _ _ h => h)⟩
  | false =>
    have XO : Aside0 (∀ w1, FRep base Lz w1 F fp (faultS st) → Calls Try.prog 45 #[ptr F] w1 fun e w' => e = .returned (.bool true) ∧ FRep base Lz w' F fp (opS (faultS st)) ∧ Only (· = F) w1 w') := ⟨fun w1 h1 => by
      have := op_calls h1 hfi.faultS
      rw [show ((faultS st).fuse == 0) = false from hfu] at this
      exact this⟩
    rcases hlk with ⟨hfn, hlk⟩ | ⟨g, hfg, hg, hlk⟩
    · have h8' : ¬ (8 : Int) ≤ (st.files.length : Int) := by have := h8 hfn; omega
      rw [hfn] at hroom
      have hbig : ¬ 65536 < n := by simp at hroom; omega
      clear hd hn hf h8 hroom hfn h hft hfu hfi
      go_enter Try.func23, Try.ntmps23
      go_wp2_with (first
        | (go_at_call 43; (with_reducible refine (XN.out).mono ?_); rintro e w2 ⟨rfl, rfl⟩)
        | (go_at_call 44; (with_reducible refine (XQ.out _ (HR.out.below (below_alloc (Below.refl _ _) _))).mono ?_); rintro e w3 ⟨rfl, hr3, hb3⟩; have HR3 := Aside0.mk hr3; have HB3 := Aside0.mk hb3; clear hr3 hb3)
        | (go_at_call 45; (with_reducible refine (XO.out _ HR3.out).mono ?_); rintro e w4 ⟨rfl, hr4, hb4⟩; have HR4 := Aside0.mk hr4; have HB4 := Aside0.mk hb4; clear hr4 hb4))
      go_ret
      exact ⟨rfl, HR4.out, (((Only.refl _ _).alloc _).trans HB3.out (fun _ _ h => h)).trans HB4.out (fun _ _ h => h)⟩
    · obtain ⟨v0, hi, _⟩ := h.ino g hg
      have k1 : w.cell? ⟨g, 1, none⟩ = some (.int .i64 (st.sz g)) := hi.cell 1 rfl
      have hz := hf g hfg
      rw [hfg] at hroom
      have hbig : ¬ (65536 : Int) < (st.sz g : Int) + (n : Int) := by simp at hroom; omega
      clear hd hn hf h8 hroom hfg h hi hft hfu hfi
      go_enter Try.func23, Try.ntmps23
      go_wp2_with (first
        | (go_at_call 43; (with_reducible refine (XN.out).mono ?_); rintro e w2 ⟨rfl, rfl⟩)
        | (go_at_call 44; (with_reducible refine (XQ.out _ HR.out).mono ?_); rintro e w3 ⟨rfl, hr3, hb3⟩; have HR3 := Aside0.mk hr3; have HB3 := Aside0.mk hb3; clear hr3 hb3)
        | (go_at_call 45; (with_reducible refine (XO.out _ HR3.out).mono ?_); rintro e w4 ⟨rfl, hr4, hb4⟩; have HR4 := Aside0.mk hr4; have HB4 := Aside0.mk hb4; clear hr4 hb4))
      go_ret
      exact ⟨rfl, HR4.out, HB3.out.trans HB4.out (fun _ _ h => h)⟩

end Go.Proofs.Ytcpkoajnepijkaa
