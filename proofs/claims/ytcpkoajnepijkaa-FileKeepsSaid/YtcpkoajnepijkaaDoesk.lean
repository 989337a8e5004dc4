/- Parts of the proof of the law that the last file states; declarations that nothing mentions are left out by a program. No conditions. -/
import Derived.Test.YtcpkoajnepijkaaGrowk
namespace Go.Proofs.Ytcpkoajnepijkaa
set_option linter.unusedVariables false
set_option linter.unusedSimpArgs false
open Go.RowKit Go.Proofs.YtcpkoajnepijkaaL Go.Proofs.YtcpkoajnepijkaaW.PrintWords
def LeftD (base : Nat) (Lz : Nat → Prop) (w : World) (F : Nat) (fp : Nat → Prop) (k : Nat) (e : Ending) (w' : World) (x : Int × PS) : Prop :=
  e = .returned (.tuple #[ptr F, .int .i64 x.1]) ∧ (∃ fp', FSat base Lz w' F fp' x.2 k ∧ ∀ g, fp' g → fp g ∨ w.heap.size ≤ g) ∧ Only fp w w'
set_option maxRecDepth 100000 in
set_option maxHeartbeats 1000000 in
theorem does_write {base : Nat} {Lz : Nat → Prop} {w : World} {F : Nat} {fp : Nat → Prop} {S : PS} {k : Nat} (h : FSat base Lz w F fp S k) (hk : k ≤ 100000) {s t : ByteArray} {A3 A5 : Option Addr} {c3 c5 : Nat} {b : List Int} {n : Int} {kp : List Bool} (hb : RB base NoL w (.slice A3 b.length c3) b) (hbl : b.length ≤ 65536) :
    Calls Try.prog 16 #[ptr F, .agg #[.int .i64 0, .string s, .string t, .slice A3 b.length c3, .int .i64 n, .slice A5 kp.length c5]] w fun e w' => LeftD base Lz w F fp (k + 1) e w' (writeP S s b) := by
  have X := Aside0.mk ((h.below (below_alloc (Below.refl _ _) (.cells #[.int .i64 0, .string s, .string t, .slice A3 b.length c3, .int .i64 n, .slice A5 kp.length c5] 34))).write (by omega) s (hb.below (below_alloc (Below.refl _ _) _)) hbl)
  unfold LeftP at X
  have HF := Aside0.mk h
  clear h
  go_enter Try.func16, Try.ntmps16
  go_wp2_with fail
  go_at_call 23
  with_reducible refine (X.out).mono ?_
  rintro e w2 ⟨rfl, h2, ho⟩
  have H2 := Aside0.mk h2
  have HO := Aside0.mk ho
  clear h2 ho X
  go_wp2
  go_ret2
  obtain ⟨fp', h2, hfp⟩ := H2.out
  exact ⟨rfl, ⟨fp', h2, fun g hg => (hfp g hg).imp id (fun hh => by simp at hh; omega)⟩, (Only.of_below (F := fp) (below_alloc (Below.refl _ _) _)).trans HO.out (fun _ _ h => h)⟩
set_option maxRecDepth 100000 in
set_option maxHeartbeats 1000000 in
theorem does_sync {base : Nat} {Lz : Nat → Prop} {w : World} {F : Nat} {fp : Nat → Prop} {S : PS} {k : Nat} (h : FSat base Lz w F fp S k) (hk : k ≤ 100000) {s t : ByteArray} {A3 A5 : Option Addr} {c3 c5 : Nat} {b : List Int} {n : Int} {kp : List Bool} :
    Calls Try.prog 16 #[ptr F, .agg #[.int .i64 1, .string s, .string t, .slice A3 b.length c3, .int .i64 n, .slice A5 kp.length c5]] w fun e w' => LeftD base Lz w F fp (k + 1) e w' (syncP S s) := by
  have X := Aside0.mk ((h.below (below_alloc (Below.refl _ _) (.cells #[.int .i64 1, .string s, .string t, .slice A3 b.length c3, .int .i64 n, .slice A5 kp.length c5] 34))).sync (by omega) s)
  unfold LeftP at X
  have HF := Aside0.mk h
  clear h
  go_enter Try.func16, Try.ntmps16
  go_wp2_with fail
  go_at_call 29
  with_reducible refine (X.out).mono ?_
  rintro e w2 ⟨rfl, h2, ho⟩
  have H2 := Aside0.mk h2
  have HO := Aside0.mk ho
  clear h2 ho X
  go_wp2
  go_ret2
  obtain ⟨fp', h2, hfp⟩ := H2.out
  exact ⟨rfl, ⟨fp', h2, fun g hg => (hfp g hg).imp id (fun hh => by simp at hh; omega)⟩, (Only.of_below (F := fp) (below_alloc (Below.refl _ _) _)).trans HO.out (fun _ _ h => h)⟩
set_option maxRecDepth 100000 in
set_option maxHeartbeats 1000000 in
theorem does_rename {base : Nat} {Lz : Nat → Prop} {w : World} {F : Nat} {fp : Nat → Prop} {S : PS} {k : Nat} (h : FSat base Lz w F fp S k) (hk : k ≤ 100000) {s t : ByteArray} {A3 A5 : Option Addr} {c3 c5 : Nat} {b : List Int} {n : Int} {kp : List Bool} :
    Calls Try.prog 16 #[ptr F, .agg #[.int .i64 2, .string s, .string t, .slice A3 b.length c3, .int .i64 n, .slice A5 kp.length c5]] w fun e w' => LeftD base Lz w F fp (k + 1) e w' (renameP S s t) := by
  have X := Aside0.mk ((h.below (below_alloc (Below.refl _ _) (.cells #[.int .i64 2, .string s, .string t, .slice A3 b.length c3, .int .i64 n, .slice A5 kp.length c5] 34))).rename (by omega) s t)
  unfold LeftP at X
  have HF := Aside0.mk h
  clear h
  go_enter Try.func16, Try.ntmps16
  go_wp2_with fail
  go_at_call 31
  with_reducible refine (X.out).mono ?_
  rintro e w2 ⟨rfl, h2, ho⟩
  have H2 := Aside0.mk h2
  have HO := Aside0.mk ho
  clear h2 ho X
  go_wp2
  go_ret2
  obtain ⟨fp', h2, hfp⟩ := H2.out
  exact ⟨rfl, ⟨fp', h2, fun g hg => (hfp g hg).imp id (fun hh => by simp at hh; omega)⟩, (Only.of_below (F := fp) (below_alloc (Below.refl _ _) _)).trans HO.out (fun _ _ h => h)⟩
set_option maxRecDepth 100000 in
set_option maxHeartbeats 1000000 in
theorem does_remove {base : Nat} {Lz : Nat → Prop} {w : World} {F : Nat} {fp : Nat → Prop} {S : PS} {k : Nat} (h : FSat base Lz w F fp S k) (hk : k ≤ 100000) {s t : ByteArray} {A3 A5 : Option Addr} {c3 c5 : Nat} {b : List Int} {n : Int} {kp : List Bool} :
    Calls Try.prog 16 #[ptr F, .agg #[.int .i64 3, .string s, .string t, .slice A3 b.length c3, .int .i64 n, .slice A5 kp.length c5]] w fun e w' => LeftD base Lz w F fp (k + 1) e w' (removeP S s) := by
  have X := Aside0.mk ((h.below (below_alloc (Below.refl _ _) (.cells #[.int .i64 3, .string s, .string t, .slice A3 b.length c3, .int .i64 n, .slice A5 kp.length c5] 34))).remove (by omega) s)
  unfold LeftP at X
  have HF := Aside0.mk h
  clear h
  go_enter Try.func16, Try.ntmps16
  go_wp2_with fail
  go_at_call 33
  with_reducible refine (X.out).mono ?_
  rintro e w2 ⟨rfl, h2, ho⟩
  have H2 := Aside0.mk h2
  have HO := Aside0.mk ho
  clear h2 ho X
  go_wp2
  go_ret2
  obtain ⟨fp', h2, hfp⟩ := H2.out
  exact ⟨rfl, ⟨fp', h2, fun g hg => (hfp g hg).imp id (fun hh => by simp at hh; omega)⟩, (Only.of_below (F := fp) (below_alloc (Below.refl _ _) _)).trans HO.out (fun _ _ h => h)⟩
set_option maxRecDepth 100000 in
set_option maxHeartbeats 1000000 in
theorem does_cut {base : Nat} {Lz : Nat → Prop} {w : World} {F : Nat} {fp : Nat → Prop} {S : PS} {k : Nat} (h : FSat base Lz w F fp S k) (hk : k ≤ 100000) {s t : ByteArray} {A3 A5 : Option Addr} {c3 c5 : Nat} {b : List Int} {n : Int} {kp : List Bool} :
    Calls Try.prog 16 #[ptr F, .agg #[.int .i64 4, .string s, .string t, .slice A3 b.length c3, .int .i64 n, .slice A5 kp.length c5]] w fun e w' => LeftD base Lz w F fp (k + 1) e w' (cutP S s n) := by
  have X := Aside0.mk ((h.below (below_alloc (Below.refl _ _) (.cells #[.int .i64 4, .string s, .string t, .slice A3 b.length c3, .int .i64 n, .slice A5 kp.length c5] 34))).cut (by omega) s n)
  unfold LeftP at X
  have HF := Aside0.mk h
  clear h
  go_enter Try.func16, Try.ntmps16
  go_wp2_with fail
  go_at_call 32
  with_reducible refine (X.out).mono ?_
  rintro e w2 ⟨rfl, h2, ho⟩
  have H2 := Aside0.mk h2
  have HO := Aside0.mk ho
  clear h2 ho X
  go_wp2
  go_ret2
  obtain ⟨fp', h2, hfp⟩ := H2.out
  exact ⟨rfl, ⟨fp', h2, fun g hg => (hfp g hg).imp id (fun hh => by simp at hh; omega)⟩, (Only.of_below (F := fp) (below_alloc (Below.refl _ _) _)).trans HO.out (fun _ _ h => h)⟩
end Go.Proofs.Ytcpkoajnepijkaa

