/- Parts of the proof of the law that the last file states; declarations that nothing mentions are left out by a program. No conditions. -/
import Derived.Test.YtcpkoajnepijkaaGrowq
set_option linter.unusedVariables false
set_option linter.unusedSimpArgs false
namespace Go.Proofs.Ytcpkoajnepijkaa
open Go.RowKit Go.Proofs.YtcpkoajnepijkaaL Go.Proofs.YtcpkoajnepijkaaW.PrintWords
def armP (S : PS) (n : Int) : PS := { S with fuse := if n < -1 then -1 else n }
def armF (S : PS) (n : Int) : PS := { S with fault := if n < -1 then -1 else n }
theorem FSat.armP {base : Nat} {Lz : Nat → Prop} {w : World} {F : Nat} {fp : Nat → Prop} {S : PS} {k : Nat} (h : FSat base Lz w F fp S k) {n : Int} (hn : n ≤ 9223372036854775807) : Calls Try.prog 24 #[ptr F, .int .i64 n] w fun e w' => e = .returned (.tuple #[]) ∧ FSat base Lz w' F fp (armP S n) k ∧ Only fp w w' := h.arm hn
theorem FSat.armF {base : Nat} {Lz : Nat → Prop} {w : World} {F : Nat} {fp : Nat → Prop} {S : PS} {k : Nat} (h : FSat base Lz w F fp S k) {n : Int} (hn : n ≤ 9223372036854775807) : Calls Try.prog 28 #[ptr F, .int .i64 n] w fun e w' => e = .returned (.tuple #[]) ∧ FSat base Lz w' F fp (armF S n) k ∧ Only fp w w' := h.fault hn
def LeftD (base : Nat) (Lz : Nat → Prop) (w : World) (F : Nat) (fp : Nat → Prop) (k : Nat) (e : Ending) (w' : World) (x : Int × PS) : Prop :=
  e = .returned (.tuple #[ptr F, .int .i64 x.1]) ∧ (∃ fp', FSat base Lz w' F fp' x.2 k ∧ ∀ g, fp' g → fp g ∨ w.heap.size ≤ g) ∧ Only fp w w'
set_option maxRecDepth 100000 in
set_option maxHeartbeats 1000000 in
theorem does_write {base : Nat} {Lz : Nat → Prop} {w : World} {F : Nat} {fp : Nat → Prop} {S : PS} {k : Nat} (h : FSat base Lz w F fp S k) (hk : k ≤ 100000) {s t : ByteArray} {A3 A5 : Option Addr} {c3 c5 : Nat} {b : List Int} {n : Int} {kp : List Bool} (hb : RB base NoL w (.slice A3 b.length c3) b) (hbl : b.length ≤ 65536) :
    Calls Try.prog 16 #[ptr F, .agg #[.int .i64 0, .string s, .string t, .slice A3 b.length c3, .int .i64 n, .slice A5 kp.length c5]] w fun e w' => LeftD base Lz w F fp (k + 1) e w' (writeP S s b) := by
  have X := Zz.mk ((h.below (below_alloc (Below.refl _ _) (.cells #[.int .i64 0, .string s, .string t, .slice A3 b.length c3, .int .i64 n, .slice A5 kp.length c5] 34))).write (by omega) s (hb.below (below_alloc (Below.refl _ _) _)) hbl)
  unfold LeftP at X
  have HF := Zz.mk h
  clear h
  go_enter Try.func16, Try.ntmps16
  go_wp2_with fail
  go_at_call 23
  with_reducible refine (X.out).mono ?_
  rintro e w2 ⟨rfl, h2, ho⟩
  have H2 := Zz.mk h2
  have HO := Zz.mk ho
  clear h2 ho X
  go_wp2
  go_ret2
  obtain ⟨fp', h2, hfp⟩ := H2.out
  exact ⟨rfl, ⟨fp', h2, fun g hg => (hfp g hg).imp id (fun hh => by simp at hh; omega)⟩, (Only.of_below (F := fp) (below_alloc (Below.refl _ _) _)).trans HO.out (fun _ _ h => h)⟩
set_option maxRecDepth 100000 in
set_option maxHeartbeats 1000000 in
theorem does_sync {base : Nat} {Lz : Nat → Prop} {w : World} {F : Nat} {fp : Nat → Prop} {S : PS} {k : Nat} (h : FSat base Lz w F fp S k) (hk : k ≤ 100000) {s t : ByteArray} {A3 A5 : Option Addr} {c3 c5 : Nat} {b : List Int} {n : Int} {kp : List Bool} :
    Calls Try.prog 16 #[ptr F, .agg #[.int .i64 1, .string s, .string t, .slice A3 b.length c3, .int .i64 n, .slice A5 kp.length c5]] w fun e w' => LeftD base Lz w F fp (k + 1) e w' (syncP S s) := by
  have X := Zz.mk ((h.below (below_alloc (Below.refl _ _) (.cells #[.int .i64 1, .string s, .string t, .slice A3 b.length c3, .int .i64 n, .slice A5 kp.length c5] 34))).sync (by omega) s)
  unfold LeftP at X
  have HF := Zz.mk h
  clear h
  go_enter Try.func16, Try.ntmps16
  go_wp2_with fail
  go_at_call 29
  with_reducible refine (X.out).mono ?_
  rintro e w2 ⟨rfl, h2, ho⟩
  have H2 := Zz.mk h2
  have HO := Zz.mk ho
  clear h2 ho X
  go_wp2
  go_ret2
  obtain ⟨fp', h2, hfp⟩ := H2.out
  exact ⟨rfl, ⟨fp', h2, fun g hg => (hfp g hg).imp id (fun hh => by simp at hh; omega)⟩, (Only.of_below (F := fp) (below_alloc (Below.refl _ _) _)).trans HO.out (fun _ _ h => h)⟩
set_option maxRecDepth 100000 in
set_option maxHeartbeats 1000000 in
theorem does_rename {base : Nat} {Lz : Nat → Prop} {w : World} {F : Nat} {fp : Nat → Prop} {S : PS} {k : Nat} (h : FSat base Lz w F fp S k) (hk : k ≤ 100000) {s t : ByteArray} {A3 A5 : Option Addr} {c3 c5 : Nat} {b : List Int} {n : Int} {kp : List Bool} :
    Calls Try.prog 16 #[ptr F, .agg #[.int .i64 2, .string s, .string t, .slice A3 b.length c3, .int .i64 n, .slice A5 kp.length c5]] w fun e w' => LeftD base Lz w F fp (k + 1) e w' (renameP S s t) := by
  have X := Zz.mk ((h.below (below_alloc (Below.refl _ _) (.cells #[.int .i64 2, .string s, .string t, .slice A3 b.length c3, .int .i64 n, .slice A5 kp.length c5] 34))).rename (by omega) s t)
  unfold LeftP at X
  have HF := Zz.mk h
  clear h
  go_enter Try.func16, Try.ntmps16
  go_wp2_with fail
  go_at_call 31
  with_reducible refine (X.out).mono ?_
  rintro e w2 ⟨rfl, h2, ho⟩
  have H2 := Zz.mk h2
  have HO := Zz.mk ho
  clear h2 ho X
  go_wp2
  go_ret2
  obtain ⟨fp', h2, hfp⟩ := H2.out
  exact ⟨rfl, ⟨fp', h2, fun g hg => (hfp g hg).imp id (fun hh => by simp at hh; omega)⟩, (Only.of_below (F := fp) (below_alloc (Below.refl _ _) _)).trans HO.out (fun _ _ h => h)⟩
set_option maxRecDepth 100000 in
set_option maxHeartbeats 1000000 in
theorem does_remove {base : Nat} {Lz : Nat → Prop} {w : World} {F : Nat} {fp : Nat → Prop} {S : PS} {k : Nat} (h : FSat base Lz w F fp S k) (hk : k ≤ 100000) {s t : ByteArray} {A3 A5 : Option Addr} {c3 c5 : Nat} {b : List Int} {n : Int} {kp : List Bool} :
    Calls Try.prog 16 #[ptr F, .agg #[.int .i64 3, .string s, .string t, .slice A3 b.length c3, .int .i64 n, .slice A5 kp.length c5]] w fun e w' => LeftD base Lz w F fp (k + 1) e w' (removeP S s) := by
  have X := Zz.mk ((h.below (below_alloc (Below.refl _ _) (.cells #[.int .i64 3, .string s, .string t, .slice A3 b.length c3, .int .i64 n, .slice A5 kp.length c5] 34))).remove (by omega) s)
  unfold LeftP at X
  have HF := Zz.mk h
  clear h
  go_enter Try.func16, Try.ntmps16
  go_wp2_with fail
  go_at_call 33
  with_reducible refine (X.out).mono ?_
  rintro e w2 ⟨rfl, h2, ho⟩
  have H2 := Zz.mk h2
  have HO := Zz.mk ho
  clear h2 ho X
  go_wp2
  go_ret2
  obtain ⟨fp', h2, hfp⟩ := H2.out
  exact ⟨rfl, ⟨fp', h2, fun g hg => (hfp g hg).imp id (fun hh => by simp at hh; omega)⟩, (Only.of_below (F := fp) (below_alloc (Below.refl _ _) _)).trans HO.out (fun _ _ h => h)⟩
set_option maxRecDepth 100000 in
set_option maxHeartbeats 1000000 in
theorem does_cut {base : Nat} {Lz : Nat → Prop} {w : World} {F : Nat} {fp : Nat → Prop} {S : PS} {k : Nat} (h : FSat base Lz w F fp S k) (hk : k ≤ 100000) {s t : ByteArray} {A3 A5 : Option Addr} {c3 c5 : Nat} {b : List Int} {n : Int} {kp : List Bool} :
    Calls Try.prog 16 #[ptr F, .agg #[.int .i64 4, .string s, .string t, .slice A3 b.length c3, .int .i64 n, .slice A5 kp.length c5]] w fun e w' => LeftD base Lz w F fp (k + 1) e w' (cutP S s n) := by
  have X := Zz.mk ((h.below (below_alloc (Below.refl _ _) (.cells #[.int .i64 4, .string s, .string t, .slice A3 b.length c3, .int .i64 n, .slice A5 kp.length c5] 34))).cut (by omega) s n)
  unfold LeftP at X
  have HF := Zz.mk h
  clear h
  go_enter Try.func16, Try.ntmps16
  go_wp2_with fail
  go_at_call 32
  with_reducible refine (X.out).mono ?_
  rintro e w2 ⟨rfl, h2, ho⟩
  have H2 := Zz.mk h2
  have HO := Zz.mk ho
  clear h2 ho X
  go_wp2
  go_ret2
  obtain ⟨fp', h2, hfp⟩ := H2.out
  exact ⟨rfl, ⟨fp', h2, fun g hg => (hfp g hg).imp id (fun hh => by simp at hh; omega)⟩, (Only.of_below (F := fp) (below_alloc (Below.refl _ _) _)).trans HO.out (fun _ _ h => h)⟩
set_option maxRecDepth 100000 in
set_option maxHeartbeats 1000000 in
theorem does_arm {base : Nat} {Lz : Nat → Prop} {w : World} {F : Nat} {fp : Nat → Prop} {S : PS} {k : Nat} (h : FSat base Lz w F fp S k) (hk : k ≤ 100000) {s t : ByteArray} {A3 A5 : Option Addr} {c3 c5 : Nat} {b : List Int} {n : Int} {kp : List Bool} (hn : n ≤ 9223372036854775807) :
    Calls Try.prog 16 #[ptr F, .agg #[.int .i64 5, .string s, .string t, .slice A3 b.length c3, .int .i64 n, .slice A5 kp.length c5]] w fun e w' => LeftD base Lz w F fp (k + 1) e w' (0, armP S n) := by
  have X := Zz.mk ((h.below (below_alloc (Below.refl _ _) (.cells #[.int .i64 5, .string s, .string t, .slice A3 b.length c3, .int .i64 n, .slice A5 kp.length c5] 34))).armP (n := n) hn)
  have HF := Zz.mk h
  clear h
  go_enter Try.func16, Try.ntmps16
  go_wp2_with fail
  go_at_call 24
  with_reducible refine (X.out).mono ?_
  rintro e w2 ⟨rfl, h2, ho⟩
  have H2 := Zz.mk h2
  have HO := Zz.mk ho
  clear h2 ho X
  go_wp2
  go_ret2
  exact ⟨rfl, ⟨fp, H2.out.mono (Nat.le_succ _), fun g hg => .inl hg⟩, (Only.of_below (F := fp) (below_alloc (Below.refl _ _) _)).trans HO.out (fun _ _ h => h)⟩
set_option maxRecDepth 100000 in
set_option maxHeartbeats 1000000 in
theorem does_fault {base : Nat} {Lz : Nat → Prop} {w : World} {F : Nat} {fp : Nat → Prop} {S : PS} {k : Nat} (h : FSat base Lz w F fp S k) (hk : k ≤ 100000) {s t : ByteArray} {A3 A5 : Option Addr} {c3 c5 : Nat} {b : List Int} {n : Int} {kp : List Bool} (hn : n ≤ 9223372036854775807) :
    Calls Try.prog 16 #[ptr F, .agg #[.int .i64 6, .string s, .string t, .slice A3 b.length c3, .int .i64 n, .slice A5 kp.length c5]] w fun e w' => LeftD base Lz w F fp (k + 1) e w' (0, armF S n) := by
  have X := Zz.mk ((h.below (below_alloc (Below.refl _ _) (.cells #[.int .i64 6, .string s, .string t, .slice A3 b.length c3, .int .i64 n, .slice A5 kp.length c5] 34))).armF (n := n) hn)
  have HF := Zz.mk h
  clear h
  go_enter Try.func16, Try.ntmps16
  go_wp2_with fail
  go_at_call 28
  with_reducible refine (X.out).mono ?_
  rintro e w2 ⟨rfl, h2, ho⟩
  have H2 := Zz.mk h2
  have HO := Zz.mk ho
  clear h2 ho X
  go_wp2
  go_ret2
  exact ⟨rfl, ⟨fp, H2.out.mono (Nat.le_succ _), fun g hg => .inl hg⟩, (Only.of_below (F := fp) (below_alloc (Below.refl _ _) _)).trans HO.out (fun _ _ h => h)⟩
set_option maxRecDepth 100000 in
set_option maxHeartbeats 1000000 in
theorem does_crash {base : Nat} {Lz : Nat → Prop} {w : World} {F : Nat} {fp : Nat → Prop} {S : PS} {k : Nat} (h : FSat base Lz w F fp S k) (hk : k ≤ 100000) {s t : ByteArray} {A3 A5 : Option Addr} {c3 c5 : Nat} {b : List Int} {n : Int} {kp : List Bool} {Gk ok : Nat} (hA : 0 < kp.length → A5 = some ⟨Gk, ok, none⟩) (hkeep : ∀ i (hi : i < kp.length), w.cell? ⟨Gk, ok + i, none⟩ = some (.bool kp[i])) (hG : 0 < kp.length → ¬ fp Gk) (hkl : kp.length ≤ 1000000) :
    Calls Try.prog 16 #[ptr F, .agg #[.int .i64 7, .string s, .string t, .slice A3 b.length c3, .int .i64 n, .slice A5 kp.length c5]] w fun e w' => LeftD base Lz w F fp (k + 1) e w' (0, crashP S kp) := by
  have X := Zz.mk ((h.below (below_alloc (Below.refl _ _) (.cells #[.int .i64 7, .string s, .string t, .slice A3 b.length c3, .int .i64 n, .slice A5 kp.length c5] 34))).crash (by omega) (keep := kp) (Ak := A5) (ck := c5) (Gk := Gk) (ok := ok) hA (fun i hi => by rw [World.cell?_alloc_some _ _ _ (by rw [hkeep i hi]; rfl)]; exact hkeep i hi) hG hkl)
  have HF := Zz.mk h
  clear h
  go_enter Try.func16, Try.ntmps16
  go_wp2_with fail
  go_at_call 20
  with_reducible refine (X.out).mono ?_
  rintro e w2 ⟨rfl, h2, ho⟩
  have H2 := Zz.mk h2
  have HO := Zz.mk ho
  clear h2 ho X
  go_wp2
  go_ret2
  exact ⟨rfl, ⟨fp, H2.out.mono (Nat.le_succ _), fun g hg => .inl hg⟩, (Only.of_below (F := fp) (below_alloc (Below.refl _ _) _)).trans HO.out (fun _ _ h => h)⟩
end Go.Proofs.Ytcpkoajnepijkaa

