/- Parts of the proof of the law that the last file states; declarations that nothing mentions are left out by a program. No conditions. -/
import Derived.Test.YtgifpkjcggnhgaaGreatDoorLTermW16q
import Derived.Test.YtgifpkjcggnhgaaGreatDoorLTermH4q
set_option linter.unusedVariables false
set_option linter.unusedSimpArgs false
namespace Go.Proofs.YtgifpkjcggnhgaaGreatDoorL
open Go Go.RowKit Go.Proofs.YtgifpkjcggnhgaaGreatDoorW.PrintWords
set_option maxRecDepth 100000 in
set_option maxHeartbeats 4000000 in
theorem plain_esc {P : Nat → Prop} {w : World} {T M : Nat} {s : Tm} (h : TermAt P w T s) (hok : OKT M s) (hM : M ≤ 900000) (hP : ∀ k, w.heap.size ≤ k → P k) (x : Nat) (hx : x < 128) (he : x = 27) :
    Calls Tryz.prog 39 #[.pointer (some ⟨T, 0, none⟩), .int .u8 (x : Int)] w fun e w' => e = .returned (.tuple #[]) ∧ TermAt P w' T (s.plain x) ∧ Only P w w' := by
  subst he
  have HS : Hd (s.plain 27 = { s with inn := 1 }) := ⟨rfl⟩
  rw [HS.out]
  obtain ⟨lv, gv, bv, L, G, h1⟩ := h
  have t8 := h1.all.1.2.2.2.2.2.2.2.2.1
  have tf := h1.all.2
  have H1 := Hd.mk h1
  clear h1 hok hP
  go_enter Tryz.func39, Tryz.ntmps39
  go_wp2_with fail
  go_end0
  exact ⟨rfl, (H1.out.inn_ 1).at_, (Only.refl P w).setCell (p := ⟨T, 8, none⟩) (.inl H1.out.pt) _⟩
set_option maxRecDepth 100000 in
set_option maxHeartbeats 4000000 in
theorem plain_ctl {P : Nat → Prop} {w : World} {T M : Nat} {s : Tm} (h : TermAt P w T s) (hok : OKT M s) (hM : M ≤ 900000) (hP : ∀ k, w.heap.size ≤ k → P k) (x : Nat) (hx : x < 128) (he : x ≠ 27) (hc : x < 32 ∨ x = 127) :
    Calls Tryz.prog 39 #[.pointer (some ⟨T, 0, none⟩), .int .u8 (x : Int)] w fun e w' => e = .returned (.tuple #[]) ∧ TermAt P w' T (s.plain x) ∧ Only P w w' := by
  have HS : Hd (s.plain x = s.control x) := ⟨by unfold Tm.plain; rw [if_neg he, if_pos hc]⟩
  rw [HS.out]
  have X := Hd.mk (ctl_calls h hok (by omega) hP x (by omega))
  have kq27 : ((x : Int) == 27) = false := by simp; omega
  have jq27 : decide ((x : Int) = 27) = false := by simp; omega
  have iq27 : decide (x = 27) = false := by simp; omega
  clear h hok hP
  by_cases h32 : x < 32
  · have jl32 : decide ((x : Int) < 32) = true := by simp; omega
    have il32 : decide (x < 32) = true := by simp; omega
    clear hc he h32
    go_enter Tryz.func39, Tryz.ntmps39
    go_wp2_with fail
    go_at_call 48
    with_reducible refine X.out.mono ?_
    rintro _ w2 ⟨rfl, ht, ho⟩
    have HT := Hd.mk ht
    have HO := Hd.mk ho
    clear ht ho X
    go_wp2_with fail
    go_end0
    exact ⟨rfl, HT.out, HO.out⟩
  · have jl32 : decide ((x : Int) < 32) = false := by simp; omega
    have il32 : decide (x < 32) = false := by simp; omega
    obtain rfl : x = 127 := by omega
    rw [show ((127 : Nat) : Int) = 127 from rfl] at X
    clear hc he h32
    go_enter Tryz.func39, Tryz.ntmps39
    go_wp2_with fail
    go_at_call 48
    with_reducible refine X.out.mono ?_
    rintro _ w2 ⟨rfl, ht, ho⟩
    have HT := Hd.mk ht
    have HO := Hd.mk ho
    clear ht ho X
    go_wp2_with fail
    go_end0
    exact ⟨rfl, HT.out, HO.out⟩
set_option maxRecDepth 100000 in
set_option maxHeartbeats 4000000 in
theorem plain_sign {P : Nat → Prop} {w : World} {T M : Nat} {s : Tm} (h : TermAt P w T s) (hok : OKT M s) (hM : M ≤ 900000) (hP : ∀ k, w.heap.size ≤ k → P k) (x : Nat) (hx : x < 128) (he : x ≠ 27) (hc : ¬ (x < 32 ∨ x = 127)) :
    Calls Tryz.prog 39 #[.pointer (some ⟨T, 0, none⟩), .int .u8 (x : Int)] w fun e w' => e = .returned (.tuple #[]) ∧ TermAt P w' T (s.plain x) ∧ Only P w w' := by
  have HS : Hd (s.plain x = s.sign (x : Int)) := ⟨by unfold Tm.plain; rw [if_neg he, if_neg hc]⟩
  rw [HS.out]
  have X := Hd.mk (sign_calls h hok hM hP (x : Int))
  have kq27 : ((x : Int) == 27) = false := by simp; omega
  have jq27 : decide ((x : Int) = 27) = false := by simp; omega
  have iq27 : decide (x = 27) = false := by simp; omega
  have kq127 : ((x : Int) == 127) = false := by simp; omega
  have jq127 : decide ((x : Int) = 127) = false := by simp; omega
  have iq127 : decide (x = 127) = false := by simp; omega
  have jl32 : decide ((x : Int) < 32) = false := by simp; omega
  have il32 : decide (x < 32) = false := by simp; omega
  have b1 : (x : Int) < 128 := by omega
  have b0 : (0 : Int) ≤ (x : Int) := Int.natCast_nonneg _
  clear h hok hP he hc
  go_enter Tryz.func39, Tryz.ntmps39
  go_wp2_with fail
  go_at_call 36
  with_reducible refine X.out.mono ?_
  rintro _ w2 ⟨rfl, ht, ho⟩
  have HT := Hd.mk ht
  have HO := Hd.mk ho
  clear ht ho X
  go_wp2_with fail
  go_end0
  exact ⟨rfl, HT.out, HO.out⟩
theorem plain_calls {P : Nat → Prop} {w : World} {T M : Nat} {s : Tm} (h : TermAt P w T s) (hok : OKT M s) (hM : M ≤ 900000) (hP : ∀ k, w.heap.size ≤ k → P k) (x : Nat) (hx : x < 128) :
    Calls Tryz.prog 39 #[.pointer (some ⟨T, 0, none⟩), .int .u8 (x : Int)] w fun e w' => e = .returned (.tuple #[]) ∧ TermAt P w' T (s.plain x) ∧ Only P w w' := by
  by_cases he : x = 27
  · exact plain_esc h hok hM hP x hx he
  by_cases hc : x < 32 ∨ x = 127
  · exact plain_ctl h hok hM hP x hx he hc
  · exact plain_sign h hok hM hP x hx he hc
set_option maxRecDepth 100000 in
set_option maxHeartbeats 4000000 in
theorem byte_open {P : Nat → Prop} {w : World} {T M : Nat} {s : Tm} (h : TermAt P w T s) (hok : OKT M s) (hwt : Waits s) (hM : M + 64 ≤ 900000) (hP : ∀ k, w.heap.size ≤ k → P k) (hT : TabsT w) (hO : OutT P) (x : UInt8) (hi : s.inn = 1) (hx : x.toNat = 91) :
    Calls Tryz.prog 29 #[.pointer (some ⟨T, 0, none⟩), .int .u8 (x.toNat : Int)] w fun e w' => e = .returned (.tuple #[]) ∧ TermAt P w' T (s.byte x) ∧ Only P w w' := by
  have HS : Hd (s.byte x = { s with inn := 2, seq := ⟨#[]⟩ }) := ⟨by unfold Tm.byte; rw [if_neg (by omega), if_neg (by omega), if_pos ⟨hi, hx⟩]⟩
  rw [HS.out]
  obtain ⟨lv, gv, bv, L, G, h1⟩ := h
  have t8 := h1.all.1.2.2.2.2.2.2.2.2.1
  have t9 := h1.all.1.2.2.2.2.2.2.2.2.2.1
  have tf := h1.all.2
  have H1 := Hd.mk h1
  rw [hi] at t8
  clear h1 hok hP hT hO hwt
  generalize x.toNat = x at *
  subst hx
  go_enter Tryz.func29, Tryz.ntmps29
  go_wp2_with fail
  go_end0
  exact ⟨rfl, ((H1.out.inn_ 2).seq_ ⟨#[]⟩).at_, ((Only.refl P w).setCell (p := ⟨T, 8, none⟩) (.inl H1.out.pt) _).setCell (p := ⟨T, 9, none⟩) (.inl H1.out.pt) _⟩
set_option maxRecDepth 100000 in
set_option maxHeartbeats 4000000 in
theorem byte_drop1 {P : Nat → Prop} {w : World} {T M : Nat} {s : Tm} (h : TermAt P w T s) (hok : OKT M s) (hwt : Waits s) (hM : M + 64 ≤ 900000) (hP : ∀ k, w.heap.size ≤ k → P k) (hT : TabsT w) (hO : OutT P) (x : UInt8) (hi : s.inn = 1) (hx : x.toNat ≠ 91 ∧ x.toNat ≠ 27) :
    Calls Tryz.prog 29 #[.pointer (some ⟨T, 0, none⟩), .int .u8 (x.toNat : Int)] w fun e w' => e = .returned (.tuple #[]) ∧ TermAt P w' T (s.byte x) ∧ Only P w w' := by
  have HS : Hd (s.byte x = { s with inn := 0 }) := ⟨by unfold Tm.byte; rw [if_neg (by omega), if_neg (by omega), if_neg (by omega), if_neg (by omega), if_neg (by omega)]⟩
  rw [HS.out]
  obtain ⟨lv, gv, bv, L, G, h1⟩ := h
  have t8 := h1.all.1.2.2.2.2.2.2.2.2.1
  have t9 := h1.all.1.2.2.2.2.2.2.2.2.2.1
  have tf := h1.all.2
  have H1 := Hd.mk h1
  rw [hi] at t8
  clear h1 hok hP hT hO hwt
  generalize x.toNat = x at *
  have kq91 : ((x : Int) == 91) = false := by simp; omega
  have jq91 : decide ((x : Int) = 91) = false := by simp; omega
  have iq91 : decide (x = 91) = false := by simp; omega
  have kq27 : ((x : Int) == 27) = false := by simp; omega
  have jq27 : decide ((x : Int) = 27) = false := by simp; omega
  have iq27 : decide (x = 27) = false := by simp; omega
  clear hx
  go_enter Tryz.func29, Tryz.ntmps29
  go_wp2_with fail
  go_end0
  exact ⟨rfl, (H1.out.inn_ 0).at_, (Only.refl P w).setCell (p := ⟨T, 8, none⟩) (.inl H1.out.pt) _⟩
set_option maxRecDepth 100000 in
set_option maxHeartbeats 4000000 in
theorem byte_drop2 {P : Nat → Prop} {w : World} {T M : Nat} {s : Tm} (h : TermAt P w T s) (hok : OKT M s) (hwt : Waits s) (hM : M + 64 ≤ 900000) (hP : ∀ k, w.heap.size ≤ k → P k) (hT : TabsT w) (hO : OutT P) (x : UInt8) (hi : s.inn = 2) (hx : x.toNat < 32 ∧ x.toNat ≠ 27) :
    Calls Tryz.prog 29 #[.pointer (some ⟨T, 0, none⟩), .int .u8 (x.toNat : Int)] w fun e w' => e = .returned (.tuple #[]) ∧ TermAt P w' T (s.byte x) ∧ Only P w w' := by
  have HS : Hd (s.byte x = { s with inn := 0 }) := ⟨by unfold Tm.byte; rw [if_neg (by omega), if_neg (by omega), if_neg (by omega), if_neg (by omega), if_neg (by omega)]⟩
  rw [HS.out]
  obtain ⟨lv, gv, bv, L, G, h1⟩ := h
  have t8 := h1.all.1.2.2.2.2.2.2.2.2.1
  have t9 := h1.all.1.2.2.2.2.2.2.2.2.2.1
  have tf := h1.all.2
  have H1 := Hd.mk h1
  rw [hi] at t8
  clear h1 hok hP hT hO hwt
  generalize x.toNat = x at *
  have kq27 : ((x : Int) == 27) = false := by simp; omega
  have jq27 : decide ((x : Int) = 27) = false := by simp; omega
  have iq27 : decide (x = 27) = false := by simp; omega
  have jg32 : decide ((32 : Int) ≤ (x : Int)) = false := by simp; omega
  have ig32 : decide (32 ≤ x) = false := by simp; omega
  have jg64 : decide ((64 : Int) ≤ (x : Int)) = false := by simp; omega
  have ig64 : decide (64 ≤ x) = false := by simp; omega
  clear hx
  go_enter Tryz.func29, Tryz.ntmps29
  go_wp2_with fail
  go_end0
  exact ⟨rfl, (H1.out.inn_ 0).at_, (Only.refl P w).setCell (p := ⟨T, 8, none⟩) (.inl H1.out.pt) _⟩
set_option maxRecDepth 100000 in
set_option maxHeartbeats 4000000 in
theorem byte_drop3 {P : Nat → Prop} {w : World} {T M : Nat} {s : Tm} (h : TermAt P w T s) (hok : OKT M s) (hwt : Waits s) (hM : M + 64 ≤ 900000) (hP : ∀ k, w.heap.size ≤ k → P k) (hT : TabsT w) (hO : OutT P) (x : UInt8) (hi : s.inn = 2) (hx : 126 < x.toNat) :
    Calls Tryz.prog 29 #[.pointer (some ⟨T, 0, none⟩), .int .u8 (x.toNat : Int)] w fun e w' => e = .returned (.tuple #[]) ∧ TermAt P w' T (s.byte x) ∧ Only P w w' := by
  have HS : Hd (s.byte x = { s with inn := 0 }) := ⟨by unfold Tm.byte; rw [if_neg (by omega), if_neg (by omega), if_neg (by omega), if_neg (by omega), if_neg (by omega)]⟩
  rw [HS.out]
  obtain ⟨lv, gv, bv, L, G, h1⟩ := h
  have t8 := h1.all.1.2.2.2.2.2.2.2.2.1
  have t9 := h1.all.1.2.2.2.2.2.2.2.2.2.1
  have tf := h1.all.2
  have H1 := Hd.mk h1
  rw [hi] at t8
  clear h1 hok hP hT hO hwt
  generalize x.toNat = x at *
  have kq27 : ((x : Int) == 27) = false := by simp; omega
  have jq27 : decide ((x : Int) = 27) = false := by simp; omega
  have iq27 : decide (x = 27) = false := by simp; omega
  have jg32 : decide ((32 : Int) ≤ (x : Int)) = true := by simp; omega
  have ig32 : decide (32 ≤ x) = true := by simp; omega
  have jl64 : decide ((x : Int) < 64) = false := by simp; omega
  have il64 : decide (x < 64) = false := by simp; omega
  have jg64 : decide ((64 : Int) ≤ (x : Int)) = true := by simp; omega
  have ig64 : decide (64 ≤ x) = true := by simp; omega
  have jm126 : decide ((x : Int) ≤ 126) = false := by simp; omega
  have im126 : decide (x ≤ 126) = false := by simp; omega
  clear hx
  go_enter Tryz.func29, Tryz.ntmps29
  go_wp2_with fail
  go_end0
  exact ⟨rfl, (H1.out.inn_ 0).at_, (Only.refl P w).setCell (p := ⟨T, 8, none⟩) (.inl H1.out.pt) _⟩
set_option maxRecDepth 100000 in
set_option maxHeartbeats 4000000 in
theorem byte_ends {P : Nat → Prop} {w : World} {T M : Nat} {s : Tm} (h : TermAt P w T s) (hok : OKT M s) (hwt : Waits s) (hM : M + 64 ≤ 900000) (hP : ∀ k, w.heap.size ≤ k → P k) (hT : TabsT w) (hO : OutT P) (x : UInt8) (hi : s.inn = 2) (hx : 64 ≤ x.toNat ∧ x.toNat ≤ 126) :
    Calls Tryz.prog 29 #[.pointer (some ⟨T, 0, none⟩), .int .u8 (x.toNat : Int)] w fun e w' => e = .returned (.tuple #[]) ∧ TermAt P w' T (s.byte x) ∧ Only P w w' := by
  have HS : Hd (s.byte x = Tm.ends { s with inn := 0 } s.seq.data.toList x.toNat) := ⟨by unfold Tm.byte; rw [if_neg (by omega), if_neg (by omega), if_neg (by omega), if_neg (by omega), if_pos (by omega)]⟩
  rw [HS.out]
  have HK := Hd.mk (hok.setI (k := 0) (by omega))
  have hsq := hok.seq
  have XE := Hd.mk (fun w1 (ht : TermAt P w1 T { s with inn := 0 }) (hp : w1.heap.size = w.heap.size) (htb : TabsT w1) => ends_calls ht HK.out (fun k hk => hP k (by omega)) htb s.seq (by omega) x.toNat)
  have HTB := Hd.mk hT
  have HOU := Hd.mk hO
  obtain ⟨lv, gv, bv, L, G, h1⟩ := h
  have t8 := h1.all.1.2.2.2.2.2.2.2.2.1
  have t9 := h1.all.1.2.2.2.2.2.2.2.2.2.1
  have tf := h1.all.2
  have H1 := Hd.mk h1
  rw [hi] at t8
  clear h1 hok hP hT hO hsq HK hwt
  generalize x.toNat = x at *
  have kq27 : ((x : Int) == 27) = false := by simp; omega
  have jq27 : decide ((x : Int) = 27) = false := by simp; omega
  have iq27 : decide (x = 27) = false := by simp; omega
  have jg32 : decide ((32 : Int) ≤ (x : Int)) = true := by simp; omega
  have ig32 : decide (32 ≤ x) = true := by simp; omega
  have jl64 : decide ((x : Int) < 64) = false := by simp; omega
  have il64 : decide (x < 64) = false := by simp; omega
  have jg64 : decide ((64 : Int) ≤ (x : Int)) = true := by simp; omega
  have ig64 : decide (64 ≤ x) = true := by simp; omega
  have jm126 : decide ((x : Int) ≤ 126) = true := by simp; omega
  have im126 : decide (x ≤ 126) = true := by simp; omega
  clear hx
  have HT0 := Hd.mk (H1.out.inn_ 0).at_
  have HO0 : Hd (Only P w (w.setCell ⟨T, 8, none⟩ (.int .i64 0))) := ⟨(Only.refl P w).setCell (p := ⟨T, 8, none⟩) (.inl H1.out.pt) _⟩
  rw [show (((0 : Nat) : Int)) = 0 from rfl] at HT0
  have XE2 := Hd.mk (XE.out _ HT0.out (by simp) (HTB.out.only HOU.out HO0.out))
  clear XE HT0
  go_enter Tryz.func29, Tryz.ntmps29
  go_wp2_with fail
  go_at_call 40
  with_reducible refine XE2.out.mono ?_
  rintro _ w2 ⟨rfl, ht, ho⟩
  have HT := Hd.mk ht
  have HO := Hd.mk (HO0.out.trans ho (fun _ _ h => h))
  clear ht ho XE2
  go_wp2_with fail
  go_end0
  exact ⟨rfl, HT.out, HO.out⟩
theorem info_str1 : (Tryz.prog.info? 9).map (·.size) = some 1 := by kernel_rfl
theorem conv_one (w : World) (x : Nat) (hx : x < 256) : (convert 34 9 (.slice (some ⟨w.heap.size, 0, none⟩) 1 1)).run Tryz.prog (w.alloc (.cells #[.int .u8 (x : Int)] 5)) = .ok (.string ⟨#[UInt8.ofNat x]⟩) (w.alloc (.cells #[.int .u8 (x : Int)] 5)) := by
  have h := Lib.run_convert_whole (P := Tryz.prog) (w.alloc (.cells #[.int .u8 (x : Int)] 5)) 34 5 9 Tryz.underlying34 Tryz.underlying5 Tryz.underlying9 w.heap.size 0 ⟨#[UInt8.ofNat x]⟩ (fun i hi => ?_) 1
  · exact h
  · have hi1 : i < 1 := hi
    obtain rfl : i = 0 := by omega
    have hn := (Blk.new w 5 #[.int .u8 (x : Int)]).cell 0 (v := .int .u8 (x : Int)) rfl
    rw [Nat.add_zero, hn]
    have e : (UInt8.ofNat x).toNat = x := by rw [UInt8.toNat_ofNat']; omega
    show some (Value.int .u8 (x : Int)) = some (Value.int .u8 (((UInt8.ofNat x).toNat : Nat) : Int))
    rw [e]
theorem push_app (s : ByteArray) (x : UInt8) : s ++ (⟨#[x]⟩ : ByteArray) = s.push x := by
  apply ByteArray.ext
  rw [ByteArray.data_append, ByteArray.data_push]
  rfl
set_option maxRecDepth 100000 in
set_option maxHeartbeats 4000000 in
theorem byte_seq_room {P : Nat → Prop} {w : World} {T M : Nat} {s : Tm} (h : TermAt P w T s) (hok : OKT M s) (hwt : Waits s) (hM : M + 64 ≤ 900000) (hP : ∀ k, w.heap.size ≤ k → P k) (hT : TabsT w) (hO : OutT P) (x : UInt8) (hi : s.inn = 2) (hx : 32 ≤ x.toNat ∧ x.toNat < 64) (hz : s.seq.size < 16) :
    Calls Tryz.prog 29 #[.pointer (some ⟨T, 0, none⟩), .int .u8 (x.toNat : Int)] w fun e w' => e = .returned (.tuple #[]) ∧ TermAt P w' T (s.byte x) ∧ Only P w w' := by
  have HS : Hd (s.byte x = { s with seq := s.seq ++ ⟨#[x]⟩ }) := ⟨by unfold Tm.byte; rw [if_neg (by omega), if_neg (by omega), if_neg (by omega), if_pos (by omega)]; congr 1; rw [if_pos hz, push_app]⟩
  rw [HS.out]
  have hsq : (s.seq.size : Int) ≤ 16 := by have := hok.seq; omega
  have hx256 : x.toNat < 256 := x.toNat_lt
  have hxx : x = UInt8.ofNat x.toNat := by simp
  rw [hxx]
  have hxt : (UInt8.ofNat x.toNat).toNat = x.toNat := by rw [← hxx]
  rw [hxt]
  obtain ⟨lv, gv, bv, L, G, h1⟩ := h
  have t8 := h1.all.1.2.2.2.2.2.2.2.2.1
  have t9 := h1.all.1.2.2.2.2.2.2.2.2.2.1
  have tf := h1.all.2
  have H1 := Hd.mk h1
  rw [hi] at t8
  clear h1 hok hP hT hO hwt HS hxx hxt
  generalize x.toNat = x at *
  have kq27 : ((x : Int) == 27) = false := by simp; omega
  have jq27 : decide ((x : Int) = 27) = false := by simp; omega
  have iq27 : decide (x = 27) = false := by simp; omega
  have jg32 : decide ((32 : Int) ≤ (x : Int)) = true := by simp; omega
  have ig32 : decide (32 ≤ x) = true := by simp; omega
  have jl64 : decide ((x : Int) < 64) = true := by simp; omega
  have il64 : decide (x < 64) = true := by simp; omega
  have hxb : (x : Int) < 256 := by omega
  clear hx t9 tf
  go_enter Tryz.func29, Tryz.ntmps29
  go_upto_region 17 with fail
  clear t8
  refine regionK (fun w' : World => w'.cell? ⟨T, 9, none⟩ = some (.string s.seq)) 19 (by kernel_rfl) (fun wd hb => ?_)
  have H2 := Hd.mk (H1.out.below hb)
  have HO2 := Hd.mk (Only.of_below (F := P) hb)
  have HBd := Hd.mk hb
  clear hb H1
  have tf := H2.out.all.2
  have t9 := H2.out.all.1.2.2.2.2.2.2.2.2.2.1
  have hHd : (fun w' : World => w'.cell? ⟨T, 9, none⟩ = some (.string s.seq)) wd := t9
  refine wpAnyK_take (i := 0) (v := ?v1) rfl (by kernel_rfl) (by kernel_rfl) (by kernel_rfl) (by kernel_rfl) (fun _ _ _ h => h) (Or.inl ⟨by rfl, ?hy1⟩) (by assumption) ?rest1
  case hy1 => (intro w hSw; (try dsimp only at hSw); go_simp; try (with_reducible rfl))
  case rest1 =>
  try simp only [Act.put, List.setIfInBounds_toArray, List.set_cons_zero, List.set_cons_succ]
  refine wpAnyK_take (i := 1) (v := ?v2) rfl (by kernel_rfl) (by kernel_rfl) (by kernel_rfl) (by kernel_rfl) (fun _ _ _ h => h) (Or.inl ⟨by rfl, ?hy2⟩) (by assumption) ?rest2
  case hy2 => (intro w hSw; (try dsimp only at hSw); go_simp; try (with_reducible rfl))
  case rest2 =>
  try simp only [Act.put, List.setIfInBounds_toArray, List.set_cons_zero, List.set_cons_succ]
  refine wpAnyK_take (i := 2) (v := ?v3) rfl (by kernel_rfl) (by kernel_rfl) (by kernel_rfl) (by kernel_rfl) (fun _ _ _ h => h) (Or.inl ⟨by rfl, ?hy3⟩) (by assumption) ?rest3
  case hy3 => (intro w hSw; (try dsimp only at hSw); go_simp; try (with_reducible rfl))
  case rest3 =>
  try simp only [Act.put, List.setIfInBounds_toArray, List.set_cons_zero, List.set_cons_succ]
  refine wpAnyK_take (i := 3) (v := ?v4) rfl (by kernel_rfl) (by kernel_rfl) (by kernel_rfl) (by kernel_rfl) (fun _ _ _ h => h) (Or.inl ⟨by rfl, ?hy4⟩) (by assumption) ?rest4
  case hy4 => (intro w hSw; (try dsimp only at hSw); go_simp; try (with_reducible rfl))
  case rest4 =>
  try simp only [Act.put, List.setIfInBounds_toArray, List.set_cons_zero, List.set_cons_succ]
  refine wpAnyK_take (i := 4) (v := ?v5) rfl (by kernel_rfl) (by kernel_rfl) (by kernel_rfl) (by kernel_rfl) (fun _ _ _ h => h) (Or.inl ⟨by rfl, ?hy5⟩) (by assumption) ?rest5
  case hy5 => (intro w hSw; (try dsimp only at hSw); go_simp; try (with_reducible rfl))
  case rest5 =>
  try simp only [Act.put, List.setIfInBounds_toArray, List.set_cons_zero, List.set_cons_succ]
  refine wpAnyK_take (i := 7) (v := ?v6) rfl (by kernel_rfl) (by kernel_rfl) (by kernel_rfl) (by kernel_rfl) (fun _ _ _ h => h) (Or.inl ⟨by rfl, ?hy6⟩) (by assumption) ?rest6
  case hy6 => (intro w hSw; (try dsimp only at hSw); go_simp; try (with_reducible rfl))
  case rest6 =>
  try simp only [Act.put, List.setIfInBounds_toArray, List.set_cons_zero, List.set_cons_succ]
  refine wpAnyK_take (i := 8) (v := ?v7) rfl (by kernel_rfl) (by kernel_rfl) (by kernel_rfl) (by kernel_rfl) (fun _ _ _ h => h) (Or.inl ⟨by rfl, ?hy7⟩) (by assumption) ?rest7
  case hy7 => (intro w hSw; (try dsimp only at hSw); go_simp; try (with_reducible rfl))
  case rest7 =>
  try simp only [Act.put, List.setIfInBounds_toArray, List.set_cons_zero, List.set_cons_succ]
  refine wpAnyK_take (i := 9) (v := ?v8) rfl (by kernel_rfl) (by kernel_rfl) (by kernel_rfl) (by kernel_rfl) (fun _ _ _ h => h) (Or.inl ⟨by rfl, ?hy8⟩) (by assumption) ?rest8
  case hy8 => (intro w hSw; (try dsimp only at hSw); go_simp; try (with_reducible rfl))
  case rest8 =>
  try simp only [Act.put, List.setIfInBounds_toArray, List.set_cons_zero, List.set_cons_succ]
  refine wpAnyK_take (i := 10) (v := ?v9) rfl (by kernel_rfl) (by kernel_rfl) (by kernel_rfl) (by kernel_rfl) (fun _ _ _ h => h) (Or.inl ⟨by rfl, ?hy9⟩) (by assumption) ?rest9
  case hy9 => (intro w hSw; (try dsimp only at hSw); go_simp; try (with_reducible rfl))
  case rest9 =>
  try simp only [Act.put, List.setIfInBounds_toArray, List.set_cons_zero, List.set_cons_succ]
  refine wpAnyK_take (i := 11) (v := ?v10) rfl (by kernel_rfl) (by kernel_rfl) (by kernel_rfl) (by kernel_rfl) (fun _ _ _ h => h) (Or.inl ⟨by rfl, ?hy10⟩) (by assumption) ?rest10
  case hy10 => (intro w hSw; (try dsimp only at hSw); go_simp; try (with_reducible rfl))
  case rest10 =>
  try simp only [Act.put, List.setIfInBounds_toArray, List.set_cons_zero, List.set_cons_succ]
  refine wpAnyK_take (i := 12) (v := (.int .i64 (16 - (s.seq.size : Int)))) rfl (by kernel_rfl) (by kernel_rfl) (by kernel_rfl) (by kernel_rfl) (fun _ _ _ h => h) (Or.inl ⟨by rfl, ?hy11⟩) (by assumption) ?rest11
  case hy11 => (intro w hSw; (try dsimp only at hSw); go_simp; first | done | (rw [IntKind.wrap_i64]; omega))
  case rest11 =>
  try simp only [Act.put, List.setIfInBounds_toArray, List.set_cons_zero, List.set_cons_succ]
  refine wpAnyK_take (i := 13) (v := (.int .i64 1)) rfl (by kernel_rfl) (by kernel_rfl) (by kernel_rfl) (by kernel_rfl) (fun _ _ _ h => h) (Or.inl ⟨by rfl, ?hy12⟩) (by assumption) ?rest12
  case hy12 => (intro w hSw; (try dsimp only at hSw); go_simp; first | done | omega)
  case rest12 =>
  try simp only [Act.put, List.setIfInBounds_toArray, List.set_cons_zero, List.set_cons_succ]
  refine wpAnyK_take (i := 14) (v := (.int .i64 1)) rfl (by kernel_rfl) (by kernel_rfl) (by kernel_rfl) (by kernel_rfl) (fun _ _ _ h => h) (Or.inl ⟨by rfl, ?hy13⟩) (by assumption) ?rest13
  case hy13 => (intro w hSw; (try dsimp only at hSw); go_simp; first | done | omega)
  case rest13 =>
  try simp only [Act.put, List.setIfInBounds_toArray, List.set_cons_zero, List.set_cons_succ]
  refine wpAnyK_ready (rs := [5]) (by kernel_rfl) (by simp) ?_
  refine AllReadyK.cons rfl (fun K hK => ?_) AllReadyK.nil
  refine build1_step (by first | rfl | (go_simp; done) | (go_simp; rfl)) (N := 134) rfl (v := .int .u8 (x : Int)) (by first | (go_simp; done) | (go_simp; rfl)) ?_
  refine hK.out _ _ (.inr (Lib.cell?_alloc_some _ t9)) ?_
  clear hK K
  try simp only [Act.put, List.setIfInBounds_toArray, List.set_cons_zero, List.set_cons_succ]
  have hcv := conv_one wd x hx256
  refine wpAnyK_ready (rs := [6]) (by kernel_rfl) (by simp) ?_
  refine AllReadyK.cons rfl (fun K hK => ?_) AllReadyK.nil
  refine pure_step (by first | rfl | (go_simp; done) | (go_simp; rfl)) (v := .string ⟨#[UInt8.ofNat x]⟩) (by first | (go_simp; done) | (go_simp; rfl)) ?_
  refine hK.out _ _ (.inr (Lib.cell?_alloc_some _ t9)) ?_
  clear hK K
  try simp only [Act.put, List.setIfInBounds_toArray, List.set_cons_zero, List.set_cons_succ]
  have hHd9 : (fun w' : World => w'.cell? ⟨T, 9, none⟩ = some (.string s.seq)) (wd.alloc (.cells #[.int .u8 (x : Int)] 5)) := Lib.cell?_alloc_some _ t9
  clear hHd hcv
  refine wpAnyK_take (i := 15) (v := (.string ⟨#[UInt8.ofNat x]⟩)) rfl (by kernel_rfl) (by kernel_rfl) (by kernel_rfl) (by kernel_rfl) (fun _ _ _ h => h) (Or.inl ⟨by rfl, ?hy14⟩) (by assumption) ?rest14
  case hy14 => (intro w hSw; (try dsimp only at hSw); go_simp; first | done | rfl)
  case rest14 =>
  try simp only [Act.put, List.setIfInBounds_toArray, List.set_cons_zero, List.set_cons_succ]
  have sz1 : s.seq.size ≤ 9223372036854775806 := by omega
  have sz2 : ¬ 9223372036854775807 < s.seq.size := by omega
  have sz3 : s.seq ++ (⟨#[]⟩ : ByteArray) = s.seq := ByteArray.append_empty
  refine wpAnyK_take (i := 16) (v := (.string (s.seq ++ ⟨#[UInt8.ofNat x]⟩))) rfl (by kernel_rfl) (by kernel_rfl) (by kernel_rfl) (by kernel_rfl) (fun _ _ _ h => h) (Or.inl ⟨by rfl, ?hy15⟩) (by assumption) ?rest15
  case hy15 => (intro w hSw; (try dsimp only at hSw); go_simp; first | done | rfl | (rw [if_neg sz2, sz3]))
  case rest15 =>
  try simp only [Act.put, List.setIfInBounds_toArray, List.set_cons_zero, List.set_cons_succ]
  refine wpAnyK_ready (rs := [17]) (by kernel_rfl) (by simp) ?_
  refine AllReadyK.cons rfl (fun K hK => ?_) AllReadyK.nil
  refine pure_step (by first | rfl | (go_simp; done) | (go_simp; rfl)) (v := .pointer (some ⟨T, 0, none⟩)) (by first | (go_simp; done) | (go_simp; rfl)) ?_
  refine hK.out _ _ (.inr (by assumption)) ?_
  clear hK K
  try simp only [Act.put, List.setIfInBounds_toArray, List.set_cons_zero, List.set_cons_succ]
  refine wpAnyK_take (i := 18) (v := ?v16) rfl (by kernel_rfl) (by kernel_rfl) (by kernel_rfl) (by kernel_rfl) (fun _ _ _ h => h) (Or.inl ⟨by rfl, ?hy16⟩) (by assumption) ?rest16
  case hy16 => (intro w hSw; (try dsimp only at hSw); go_simp; try (with_reducible rfl))
  case rest16 =>
  try simp only [Act.put, List.setIfInBounds_toArray, List.set_cons_zero, List.set_cons_succ]
  have HB3 := Hd.mk (show Below wd.heap.size wd (wd.alloc (.cells #[.int .u8 (x : Int)] 5)) from (Below.refl _ wd).alloc (Nat.le_refl _) _)
  have H3 := Hd.mk (H2.out.below HB3.out)
  have HO3 := Hd.mk (HO2.out.below HB3.out)
  have tf3 := H3.out.all.2
  refine wpAnyK_ready (rs := [19]) (by kernel_rfl) (by simp) ?_
  refine AllReadyK.cons rfl (fun K hK => ?_) AllReadyK.nil
  rw [if_pos (by first | rfl | (go_simp; done) | (go_simp; rfl))]
  refine cell_step rfl rfl (g := T) (i := 9) (v := .string (s.seq ++ ⟨#[UInt8.ofNat x]⟩)) (by first | rfl | (go_simp; done) | (go_simp; rfl)) (by first | rfl | (go_simp; done) | (go_simp; rfl)) hHd9 (tf3 9) info_str1 rfl ?_
  clear hHd9 tf3
  refine hK.out _ _ (.inl (by kernel_rfl)) ?_
  clear hK K
  try simp only [Act.put, List.setIfInBounds_toArray, List.set_cons_zero, List.set_cons_succ]
  refine wpAnyK_done (by kernel_rfl) ?_ _
  go_end0
  exact ⟨rfl, (H3.out.seq_ (s.seq ++ ⟨#[UInt8.ofNat x]⟩)).at_, HO3.out.setCell (p := ⟨T, 9, none⟩) (.inl H3.out.pt) _⟩
set_option maxRecDepth 100000 in
set_option maxHeartbeats 4000000 in
theorem byte_seq_full {P : Nat → Prop} {w : World} {T M : Nat} {s : Tm} (h : TermAt P w T s) (hok : OKT M s) (hwt : Waits s) (hM : M + 64 ≤ 900000) (hP : ∀ k, w.heap.size ≤ k → P k) (hT : TabsT w) (hO : OutT P) (x : UInt8) (hi : s.inn = 2) (hx : 32 ≤ x.toNat ∧ x.toNat < 64) (hz : ¬ s.seq.size < 16) :
    Calls Tryz.prog 29 #[.pointer (some ⟨T, 0, none⟩), .int .u8 (x.toNat : Int)] w fun e w' => e = .returned (.tuple #[]) ∧ TermAt P w' T (s.byte x) ∧ Only P w w' := by
  have HS : Hd (s.byte x = { s with seq := s.seq }) := ⟨by unfold Tm.byte; rw [if_neg (by omega), if_neg (by omega), if_neg (by omega), if_pos (by omega)]; congr 1; rw [if_neg hz]⟩
  rw [HS.out]
  have hsq : (s.seq.size : Int) ≤ 16 := by have := hok.seq; omega
  have hx256 : x.toNat < 256 := x.toNat_lt
  have hxx : x = UInt8.ofNat x.toNat := by simp
  rw [hxx]
  have hxt : (UInt8.ofNat x.toNat).toNat = x.toNat := by rw [← hxx]
  rw [hxt]
  obtain ⟨lv, gv, bv, L, G, h1⟩ := h
  have t8 := h1.all.1.2.2.2.2.2.2.2.2.1
  have t9 := h1.all.1.2.2.2.2.2.2.2.2.2.1
  have tf := h1.all.2
  have H1 := Hd.mk h1
  rw [hi] at t8
  clear h1 hok hP hT hO hwt HS hxx hxt
  generalize x.toNat = x at *
  have kq27 : ((x : Int) == 27) = false := by simp; omega
  have jq27 : decide ((x : Int) = 27) = false := by simp; omega
  have iq27 : decide (x = 27) = false := by simp; omega
  have jg32 : decide ((32 : Int) ≤ (x : Int)) = true := by simp; omega
  have ig32 : decide (32 ≤ x) = true := by simp; omega
  have jl64 : decide ((x : Int) < 64) = true := by simp; omega
  have il64 : decide (x < 64) = true := by simp; omega
  have hxb : (x : Int) < 256 := by omega
  clear hx t9 tf
  go_enter Tryz.func29, Tryz.ntmps29
  go_upto_region 17 with fail
  clear t8
  refine regionK (fun w' : World => w'.cell? ⟨T, 9, none⟩ = some (.string s.seq)) 19 (by kernel_rfl) (fun wd hb => ?_)
  have H2 := Hd.mk (H1.out.below hb)
  have HO2 := Hd.mk (Only.of_below (F := P) hb)
  have HBd := Hd.mk hb
  clear hb H1
  have tf := H2.out.all.2
  have t9 := H2.out.all.1.2.2.2.2.2.2.2.2.2.1
  have hHd : (fun w' : World => w'.cell? ⟨T, 9, none⟩ = some (.string s.seq)) wd := t9
  refine wpAnyK_take (i := 0) (v := ?v17) rfl (by kernel_rfl) (by kernel_rfl) (by kernel_rfl) (by kernel_rfl) (fun _ _ _ h => h) (Or.inl ⟨by rfl, ?hy17⟩) (by assumption) ?rest17
  case hy17 => (intro w hSw; (try dsimp only at hSw); go_simp; try (with_reducible rfl))
  case rest17 =>
  try simp only [Act.put, List.setIfInBounds_toArray, List.set_cons_zero, List.set_cons_succ]
  refine wpAnyK_take (i := 1) (v := ?v18) rfl (by kernel_rfl) (by kernel_rfl) (by kernel_rfl) (by kernel_rfl) (fun _ _ _ h => h) (Or.inl ⟨by rfl, ?hy18⟩) (by assumption) ?rest18
  case hy18 => (intro w hSw; (try dsimp only at hSw); go_simp; try (with_reducible rfl))
  case rest18 =>
  try simp only [Act.put, List.setIfInBounds_toArray, List.set_cons_zero, List.set_cons_succ]
  refine wpAnyK_take (i := 2) (v := ?v19) rfl (by kernel_rfl) (by kernel_rfl) (by kernel_rfl) (by kernel_rfl) (fun _ _ _ h => h) (Or.inl ⟨by rfl, ?hy19⟩) (by assumption) ?rest19
  case hy19 => (intro w hSw; (try dsimp only at hSw); go_simp; try (with_reducible rfl))
  case rest19 =>
  try simp only [Act.put, List.setIfInBounds_toArray, List.set_cons_zero, List.set_cons_succ]
  refine wpAnyK_take (i := 3) (v := ?v20) rfl (by kernel_rfl) (by kernel_rfl) (by kernel_rfl) (by kernel_rfl) (fun _ _ _ h => h) (Or.inl ⟨by rfl, ?hy20⟩) (by assumption) ?rest20
  case hy20 => (intro w hSw; (try dsimp only at hSw); go_simp; try (with_reducible rfl))
  case rest20 =>
  try simp only [Act.put, List.setIfInBounds_toArray, List.set_cons_zero, List.set_cons_succ]
  refine wpAnyK_take (i := 4) (v := ?v21) rfl (by kernel_rfl) (by kernel_rfl) (by kernel_rfl) (by kernel_rfl) (fun _ _ _ h => h) (Or.inl ⟨by rfl, ?hy21⟩) (by assumption) ?rest21
  case hy21 => (intro w hSw; (try dsimp only at hSw); go_simp; try (with_reducible rfl))
  case rest21 =>
  try simp only [Act.put, List.setIfInBounds_toArray, List.set_cons_zero, List.set_cons_succ]
  refine wpAnyK_take (i := 7) (v := ?v22) rfl (by kernel_rfl) (by kernel_rfl) (by kernel_rfl) (by kernel_rfl) (fun _ _ _ h => h) (Or.inl ⟨by rfl, ?hy22⟩) (by assumption) ?rest22
  case hy22 => (intro w hSw; (try dsimp only at hSw); go_simp; try (with_reducible rfl))
  case rest22 =>
  try simp only [Act.put, List.setIfInBounds_toArray, List.set_cons_zero, List.set_cons_succ]
  refine wpAnyK_take (i := 8) (v := ?v23) rfl (by kernel_rfl) (by kernel_rfl) (by kernel_rfl) (by kernel_rfl) (fun _ _ _ h => h) (Or.inl ⟨by rfl, ?hy23⟩) (by assumption) ?rest23
  case hy23 => (intro w hSw; (try dsimp only at hSw); go_simp; try (with_reducible rfl))
  case rest23 =>
  try simp only [Act.put, List.setIfInBounds_toArray, List.set_cons_zero, List.set_cons_succ]
  refine wpAnyK_take (i := 9) (v := ?v24) rfl (by kernel_rfl) (by kernel_rfl) (by kernel_rfl) (by kernel_rfl) (fun _ _ _ h => h) (Or.inl ⟨by rfl, ?hy24⟩) (by assumption) ?rest24
  case hy24 => (intro w hSw; (try dsimp only at hSw); go_simp; try (with_reducible rfl))
  case rest24 =>
  try simp only [Act.put, List.setIfInBounds_toArray, List.set_cons_zero, List.set_cons_succ]
  refine wpAnyK_take (i := 10) (v := ?v25) rfl (by kernel_rfl) (by kernel_rfl) (by kernel_rfl) (by kernel_rfl) (fun _ _ _ h => h) (Or.inl ⟨by rfl, ?hy25⟩) (by assumption) ?rest25
  case hy25 => (intro w hSw; (try dsimp only at hSw); go_simp; try (with_reducible rfl))
  case rest25 =>
  try simp only [Act.put, List.setIfInBounds_toArray, List.set_cons_zero, List.set_cons_succ]
  refine wpAnyK_take (i := 11) (v := ?v26) rfl (by kernel_rfl) (by kernel_rfl) (by kernel_rfl) (by kernel_rfl) (fun _ _ _ h => h) (Or.inl ⟨by rfl, ?hy26⟩) (by assumption) ?rest26
  case hy26 => (intro w hSw; (try dsimp only at hSw); go_simp; try (with_reducible rfl))
  case rest26 =>
  try simp only [Act.put, List.setIfInBounds_toArray, List.set_cons_zero, List.set_cons_succ]
  refine wpAnyK_take (i := 12) (v := (.int .i64 (16 - (s.seq.size : Int)))) rfl (by kernel_rfl) (by kernel_rfl) (by kernel_rfl) (by kernel_rfl) (fun _ _ _ h => h) (Or.inl ⟨by rfl, ?hy27⟩) (by assumption) ?rest27
  case hy27 => (intro w hSw; (try dsimp only at hSw); go_simp; first | done | (rw [IntKind.wrap_i64]; omega))
  case rest27 =>
  try simp only [Act.put, List.setIfInBounds_toArray, List.set_cons_zero, List.set_cons_succ]
  refine wpAnyK_take (i := 13) (v := (.int .i64 (16 - (s.seq.size : Int)))) rfl (by kernel_rfl) (by kernel_rfl) (by kernel_rfl) (by kernel_rfl) (fun _ _ _ h => h) (Or.inl ⟨by rfl, ?hy28⟩) (by assumption) ?rest28
  case hy28 => (intro w hSw; (try dsimp only at hSw); go_simp; first | done | omega)
  case rest28 =>
  try simp only [Act.put, List.setIfInBounds_toArray, List.set_cons_zero, List.set_cons_succ]
  refine wpAnyK_take (i := 14) (v := (.int .i64 0)) rfl (by kernel_rfl) (by kernel_rfl) (by kernel_rfl) (by kernel_rfl) (fun _ _ _ h => h) (Or.inl ⟨by rfl, ?hy29⟩) (by assumption) ?rest29
  case hy29 => (intro w hSw; (try dsimp only at hSw); go_simp; first | done | omega)
  case rest29 =>
  try simp only [Act.put, List.setIfInBounds_toArray, List.set_cons_zero, List.set_cons_succ]
  refine wpAnyK_ready (rs := [5]) (by kernel_rfl) (by simp) ?_
  refine AllReadyK.cons rfl (fun K hK => ?_) AllReadyK.nil
  refine build1_step (by first | rfl | (go_simp; done) | (go_simp; rfl)) (N := 134) rfl (v := .int .u8 (x : Int)) (by first | (go_simp; done) | (go_simp; rfl)) ?_
  refine hK.out _ _ (.inr (Lib.cell?_alloc_some _ t9)) ?_
  clear hK K
  try simp only [Act.put, List.setIfInBounds_toArray, List.set_cons_zero, List.set_cons_succ]
  have hcv := conv_one wd x hx256
  refine wpAnyK_ready (rs := [6]) (by kernel_rfl) (by simp) ?_
  refine AllReadyK.cons rfl (fun K hK => ?_) AllReadyK.nil
  refine pure_step (by first | rfl | (go_simp; done) | (go_simp; rfl)) (v := .string ⟨#[UInt8.ofNat x]⟩) (by first | (go_simp; done) | (go_simp; rfl)) ?_
  refine hK.out _ _ (.inr (Lib.cell?_alloc_some _ t9)) ?_
  clear hK K
  try simp only [Act.put, List.setIfInBounds_toArray, List.set_cons_zero, List.set_cons_succ]
  have hHd9 : (fun w' : World => w'.cell? ⟨T, 9, none⟩ = some (.string s.seq)) (wd.alloc (.cells #[.int .u8 (x : Int)] 5)) := Lib.cell?_alloc_some _ t9
  clear hHd hcv
  refine wpAnyK_take (i := 15) (v := (.string ⟨#[]⟩)) rfl (by kernel_rfl) (by kernel_rfl) (by kernel_rfl) (by kernel_rfl) (fun _ _ _ h => h) (Or.inl ⟨by rfl, ?hy30⟩) (by assumption) ?rest30
  case hy30 => (intro w hSw; (try dsimp only at hSw); go_simp; first | done | rfl)
  case rest30 =>
  try simp only [Act.put, List.setIfInBounds_toArray, List.set_cons_zero, List.set_cons_succ]
  have sz1 : s.seq.size ≤ 9223372036854775806 := by omega
  have sz2 : ¬ 9223372036854775807 < s.seq.size := by omega
  have sz3 : s.seq ++ (⟨#[]⟩ : ByteArray) = s.seq := ByteArray.append_empty
  refine wpAnyK_take (i := 16) (v := (.string s.seq)) rfl (by kernel_rfl) (by kernel_rfl) (by kernel_rfl) (by kernel_rfl) (fun _ _ _ h => h) (Or.inl ⟨by rfl, ?hy31⟩) (by assumption) ?rest31
  case hy31 => (intro w hSw; (try dsimp only at hSw); go_simp; first | done | rfl | (rw [if_neg sz2, sz3]))
  case rest31 =>
  try simp only [Act.put, List.setIfInBounds_toArray, List.set_cons_zero, List.set_cons_succ]
  refine wpAnyK_ready (rs := [17]) (by kernel_rfl) (by simp) ?_
  refine AllReadyK.cons rfl (fun K hK => ?_) AllReadyK.nil
  refine pure_step (by first | rfl | (go_simp; done) | (go_simp; rfl)) (v := .pointer (some ⟨T, 0, none⟩)) (by first | (go_simp; done) | (go_simp; rfl)) ?_
  refine hK.out _ _ (.inr (by assumption)) ?_
  clear hK K
  try simp only [Act.put, List.setIfInBounds_toArray, List.set_cons_zero, List.set_cons_succ]
  refine wpAnyK_take (i := 18) (v := ?v32) rfl (by kernel_rfl) (by kernel_rfl) (by kernel_rfl) (by kernel_rfl) (fun _ _ _ h => h) (Or.inl ⟨by rfl, ?hy32⟩) (by assumption) ?rest32
  case hy32 => (intro w hSw; (try dsimp only at hSw); go_simp; try (with_reducible rfl))
  case rest32 =>
  try simp only [Act.put, List.setIfInBounds_toArray, List.set_cons_zero, List.set_cons_succ]
  have HB3 := Hd.mk (show Below wd.heap.size wd (wd.alloc (.cells #[.int .u8 (x : Int)] 5)) from (Below.refl _ wd).alloc (Nat.le_refl _) _)
  have H3 := Hd.mk (H2.out.below HB3.out)
  have HO3 := Hd.mk (HO2.out.below HB3.out)
  have tf3 := H3.out.all.2
  refine wpAnyK_ready (rs := [19]) (by kernel_rfl) (by simp) ?_
  refine AllReadyK.cons rfl (fun K hK => ?_) AllReadyK.nil
  rw [if_pos (by first | rfl | (go_simp; done) | (go_simp; rfl))]
  refine cell_step rfl rfl (g := T) (i := 9) (v := .string s.seq) (by first | rfl | (go_simp; done) | (go_simp; rfl)) (by first | rfl | (go_simp; done) | (go_simp; rfl)) hHd9 (tf3 9) info_str1 rfl ?_
  clear hHd9 tf3
  refine hK.out _ _ (.inl (by kernel_rfl)) ?_
  clear hK K
  try simp only [Act.put, List.setIfInBounds_toArray, List.set_cons_zero, List.set_cons_succ]
  refine wpAnyK_done (by kernel_rfl) ?_ _
  go_end0
  exact ⟨rfl, (H3.out.seq_ s.seq).at_, HO3.out.setCell (p := ⟨T, 9, none⟩) (.inl H3.out.pt) _⟩
end Go.Proofs.YtgifpkjcggnhgaaGreatDoorL

