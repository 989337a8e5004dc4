/- The library's contracts on the sorted keys of a map, at this program. No conditions. -/
import Derived.Shelf.SlIter.Nil
import Derived.Shelf.SortM.Plain
import Derived.Shelf.SortM.SortNone
import Derived.Ground.GgzProg
import Derived.Ground.SlgmProg
import Derived.Test.YtbhiljaipikklaaDoorProg
namespace Go.Proofs.YtbhiljaipikklaaDoor
open Go.RowKit Go.Maps Go.Sort Go.Shelf Go.Proofs

def Tryd.keys26_ren : Go.Shelf.Ren := ⟨fun | 7 => 26 | 10 => 46 | n => n, fun | 23 => 27 | 26 => 9 | 3 => 50 | 28 => 65 | 0 => 0 | 27 => 64 | 33 => 39 | 4 => 4 | n => n, fun | n => n⟩
theorem Tryd.keys26 : Go.Proofs.SlLaysZ.n7 Tryd.prog Tryd.keys26_ren := {
  mixed := by kernel_rfl
  f7 := ⟨Tryd.f26.name, by decide, Tryd.func26.trans (congrArg some (by kernel_rfl))⟩
  f10 := ⟨Tryd.f46.name, by decide, Tryd.func46.trans (congrArg some (by kernel_rfl))⟩
  t0 := Tryd.underlying0
  a0 := Tryd.isAgg0
  z0 := Tryd.sizeOf0
  v0 := Tryd.zeroValue0
  t4 := Tryd.underlying4
  a4 := Tryd.isAgg4
  z4 := Tryd.sizeOf4
  v4 := Tryd.zeroValue4
  t23 := Tryd.underlying27
  a23 := Tryd.isAgg27
  z23 := Tryd.sizeOf27
  v23 := Tryd.zeroValue27
  t26 := Tryd.underlying9
  a26 := Tryd.isAgg9
  z26 := Tryd.sizeOf9
  v26 := Tryd.zeroValue9
  t27 := Tryd.underlying64
  a27 := Tryd.isAgg64
  z27 := Tryd.sizeOf64
  v27 := Tryd.zeroValue64
  t28 := Tryd.underlying65
  a28 := Tryd.isAgg65
  z28 := Tryd.sizeOf65
  v28 := Tryd.zeroValue65
  t33 := Tryd.underlying39
  a33 := Tryd.isAgg39
  z33 := Tryd.sizeOf39
  v33 := Tryd.zeroValue39 }
def Tryd.sorted25_ren : Go.Shelf.Ren := ⟨fun | 6 => 25 | 8 => 44 | 9 => 45 | 11 => 55 | 13 => 57 | 12 => 56 | 23 => 74 | 24 => 75 | 14 => 65 | 15 => 66 | 16 => 67 | 17 => 68 | 18 => 69 | 19 => 70 | 20 => 71 | 21 => 72 | 22 => 73 | 25 => 85 | 26 => 86 | 27 => 87 | 28 => 88 | 29 => 89 | 30 => 90 | 31 => 95 | n => n, fun | 26 => 9 | 28 => 65 | 24 => 43 | 0 => 0 | 3 => 3 | 37 => 104 | 48 => 114 | 50 => 125 | 4 => 4 | 40 => 117 | 39 => 116 | 45 => 121 | 5 => 5 | 9 => 9 | 51 => 135 | 55 => 139 | 57 => 145 | 58 => 146 | 33 => 39 | n => n, fun | n => n⟩
theorem Tryd.sorted25 : Go.Proofs.SlLaysZ.n6 Tryd.prog Tryd.sorted25_ren := {
  mixed := by kernel_rfl
  f6 := ⟨Tryd.f25.name, by decide, Tryd.func25.trans (congrArg some (by kernel_rfl))⟩
  f8 := ⟨Tryd.f44.name, by decide, Tryd.func44.trans (congrArg some (by kernel_rfl))⟩
  f11 := ⟨Tryd.f55.name, by decide, Tryd.func55.trans (congrArg some (by kernel_rfl))⟩
  t0 := Tryd.underlying0
  a0 := Tryd.isAgg0
  z0 := Tryd.sizeOf0
  v0 := Tryd.zeroValue0
  t24 := Tryd.underlying43
  a24 := Tryd.isAgg43
  z24 := Tryd.sizeOf43
  v24 := Tryd.zeroValue43
  t26 := Tryd.underlying9
  a26 := Tryd.isAgg9
  z26 := Tryd.sizeOf9
  v26 := Tryd.zeroValue9
  t28 := Tryd.underlying65
  a28 := Tryd.isAgg65
  z28 := Tryd.sizeOf65
  v28 := Tryd.zeroValue65
  i26 := by kernel_rfl }
def Tryd.sort45_ren : Go.Shelf.Ren := ⟨fun | 6 => 45 | 8 => 57 | 9 => 56 | 19 => 74 | 20 => 75 | 21 => 65 | 22 => 66 | 23 => 67 | 24 => 68 | 25 => 69 | 26 => 70 | 27 => 71 | 28 => 72 | 29 => 73 | 36 => 85 | 31 => 86 | 32 => 87 | 37 => 88 | 38 => 89 | 39 => 90 | 41 => 95 | n => n, fun | 27 => 43 | 29 => 9 | 3 => 3 | 32 => 104 | 26 => 43 | 0 => 0 | 44 => 114 | 46 => 125 | 4 => 4 | 36 => 117 | 35 => 116 | 41 => 121 | 5 => 5 | 9 => 9 | 53 => 135 | 57 => 139 | 63 => 145 | 64 => 146 | n => n, fun | n => n⟩
theorem Tryd.sort45 : Go.Proofs.SlLaysM.n6 Tryd.prog Tryd.sort45_ren := {
  mixed := by kernel_rfl
  f6 := ⟨Tryd.f45.name, by decide, Tryd.func45.trans (congrArg some (by kernel_rfl))⟩
  f8 := Tryd.func57.trans (congrArg some (by kernel_rfl))
  f9 := ⟨Tryd.f56.name, by decide, Tryd.func56.trans (congrArg some (by kernel_rfl))⟩
  f19 := Tryd.func74.trans (congrArg some (by kernel_rfl))
  f20 := Tryd.func75.trans (congrArg some (by kernel_rfl))
  f21 := ⟨Tryd.f65.name, by decide, Tryd.func65.trans (congrArg some (by kernel_rfl))⟩
  f22 := ⟨Tryd.f66.name, by decide, Tryd.func66.trans (congrArg some (by kernel_rfl))⟩
  f23 := ⟨Tryd.f67.name, by decide, Tryd.func67.trans (congrArg some (by kernel_rfl))⟩
  f24 := ⟨Tryd.f68.name, by decide, Tryd.func68.trans (congrArg some (by kernel_rfl))⟩
  f25 := ⟨Tryd.f69.name, by decide, Tryd.func69.trans (congrArg some (by kernel_rfl))⟩
  f26 := ⟨Tryd.f70.name, by decide, Tryd.func70.trans (congrArg some (by kernel_rfl))⟩
  f27 := ⟨Tryd.f71.name, by decide, Tryd.func71.trans (congrArg some (by kernel_rfl))⟩
  f28 := ⟨Tryd.f72.name, by decide, Tryd.func72.trans (congrArg some (by kernel_rfl))⟩
  f29 := ⟨Tryd.f73.name, by decide, Tryd.func73.trans (congrArg some (by kernel_rfl))⟩
  f31 := Tryd.func86.trans (congrArg some (by kernel_rfl))
  f32 := Tryd.func87.trans (congrArg some (by kernel_rfl))
  f36 := ⟨Tryd.f85.name, by decide, Tryd.func85.trans (congrArg some (by kernel_rfl))⟩
  f37 := ⟨Tryd.f88.name, by decide, Tryd.func88.trans (congrArg some (by kernel_rfl))⟩
  f38 := ⟨Tryd.f89.name, by decide, Tryd.func89.trans (congrArg some (by kernel_rfl))⟩
  f39 := ⟨Tryd.f90.name, by decide, Tryd.func90.trans (congrArg some (by kernel_rfl))⟩
  f41 := ⟨Tryd.f95.name, by decide, Tryd.func95.trans (congrArg some (by kernel_rfl))⟩
  t0 := Tryd.underlying0
  a0 := Tryd.isAgg0
  z0 := Tryd.sizeOf0
  v0 := Tryd.zeroValue0
  t3 := Tryd.underlying3
  a3 := Tryd.isAgg3
  z3 := Tryd.sizeOf3
  v3 := Tryd.zeroValue3
  t4 := Tryd.underlying4
  a4 := Tryd.isAgg4
  z4 := Tryd.sizeOf4
  v4 := Tryd.zeroValue4
  t5 := Tryd.underlying5
  a5 := Tryd.isAgg5
  z5 := Tryd.sizeOf5
  v5 := Tryd.zeroValue5
  t9 := Tryd.underlying9
  a9 := Tryd.isAgg9
  z9 := Tryd.sizeOf9
  v9 := Tryd.zeroValue9
  t26 := Tryd.underlying43
  a26 := Tryd.isAgg43
  z26 := Tryd.sizeOf43
  v26 := Tryd.zeroValue43
  t27 := Tryd.underlying43
  a27 := Tryd.isAgg43
  z27 := Tryd.sizeOf43
  v27 := Tryd.zeroValue43
  t29 := Tryd.underlying9
  a29 := Tryd.isAgg9
  z29 := Tryd.sizeOf9
  v29 := Tryd.zeroValue9
  t32 := Tryd.underlying104
  a32 := Tryd.isAgg104
  z32 := Tryd.sizeOf104
  v32 := Tryd.zeroValue104
  t35 := Tryd.underlying116
  a35 := Tryd.isAgg116
  z35 := Tryd.sizeOf116
  v35 := Tryd.zeroValue116
  t36 := Tryd.underlying117
  a36 := Tryd.isAgg117
  z36 := Tryd.sizeOf117
  v36 := Tryd.zeroValue117
  t41 := Tryd.underlying121
  a41 := Tryd.isAgg121
  z41 := Tryd.sizeOf121
  v41 := Tryd.zeroValue121
  t44 := Tryd.underlying114
  a44 := Tryd.isAgg114
  z44 := Tryd.sizeOf114
  v44 := Tryd.zeroValue114
  t46 := Tryd.underlying125
  a46 := Tryd.isAgg125
  z46 := Tryd.sizeOf125
  v46 := Tryd.zeroValue125
  t53 := Tryd.underlying135
  a53 := Tryd.isAgg135
  z53 := Tryd.sizeOf135
  v53 := Tryd.zeroValue135
  t57 := Tryd.underlying139
  a57 := Tryd.isAgg139
  z57 := Tryd.sizeOf139
  v57 := Tryd.zeroValue139
  t63 := Tryd.underlying145
  a63 := Tryd.isAgg145
  z63 := Tryd.sizeOf145
  v63 := Tryd.zeroValue145
  t64 := Tryd.underlying146
  a64 := Tryd.isAgg146
  z64 := Tryd.sizeOf146
  v64 := Tryd.zeroValue146 }

theorem Tryd.sorts25 (m : Nat) : AnyZ.SortsIn Tryd.prog Tryd.sorted25_ren Fence.wide m :=
  ⟨fun blk off cap ss W hH hblk hsz => callsIn_wide.2 (AnyM.slices_Sort_string Tryd.sort45 blk off cap ss W hH hblk hsz),
   fun p cap W => callsIn_wide.2 (AnyM.slices_Sort_string_none Tryd.sort45 p cap W)⟩


theorem Tryd.maps_Keys_26 (mb : Option Nat) (W : World) : CallsIn Fence.wide 5 Tryd.prog 26 #[.map mb] W fun e w' => e = .returned (.func (.func 46) #[] #[.pointer (some ⟨W.heap.size, 0, none⟩)]) ∧ w' = W.alloc (.cells #[.map mb] 27) :=
  AnyZ.keys_in Tryd.keys26 Fence.wide 5 trivial rfl mb W

set_option maxHeartbeats 1000000 in

theorem Tryd.slices_Sorted_keys_25_26 {H : Type} (b nn : Nat) (D0 : DataW H) (R : Value → Option (DataW H × List MemPlace)) (w : World) (hown : w.ownsMap Tryd.prog 9 R b nn D0) (hmax : Maps.size D0 ≤ maxLen) (hbytes : Maps.size D0 * 16 ≤ 140737488355328) :
    CallsIn Fence.wide 5 Tryd.prog 25 #[.func (.func 46) #[] #[.pointer (some ⟨w.heap.size, 0, none⟩)]] (w.alloc (.cells #[.map (some b)] 27)) fun e w' => ∃ (v : Value) (ss : List (List UInt8)), e = .returned v ∧ ss.Perm (strKeys D0) ∧
      w'.ownsRow (w.alloc (.cells #[.map (some b)] 27)).heap.size 9 1 v ss.length ((ss.mergeSort (fun x y => decide (x ≤ y))).map encStr) ∧ (v = .slice none 0 0 ↔ ss = []) ∧ Below (w.alloc (.cells #[.map (some b)] 27)).heap.size (w.alloc (.cells #[.map (some b)] 27)) w' := by
  have hbl := hown.lt
  have hseq : SeqGives Fence.wide 2 Tryd.prog 46 #[.pointer (some ⟨w.heap.size, 0, none⟩)] encStr (fun ss => ss.Perm (strKeys D0)) (Maps.size D0) (w.alloc (.cells #[.map (some b)] 27)) :=
    AnyZ.keys_gives (ρ := Tryd.keys26_ren) { Tryd.keys26 with } Fence.wide _ trivial rfl (by omega) w.heap.size b nn D0 _ (by simp) (by simp) (by
      obtain ⟨es, clock, hb, Ft, hs, hD⟩ := hown
      exact ⟨es, clock, (Below.heap_alloc _ _ b hbl).trans hb, Ft, hs, hD⟩)
  exact AnyZ.sorted_in Tryd.sorted25 Fence.wide 5 trivial trivial trivial trivial rfl (by omega) (Tryd.sorts25 _) (enters_of Tryd.func45 (by kernel_rfl) rfl) 46 #[.pointer (some ⟨w.heap.size, 0, none⟩)] trivial (enters_of Tryd.func46 (by kernel_rfl) rfl) _ _ hmax hbytes _ hseq

set_option maxHeartbeats 1000000 in

theorem Tryd.slices_Sorted_keys_nil_25_26 (w : World) :
    CallsIn Fence.wide 5 Tryd.prog 25 #[.func (.func 46) #[] #[.pointer (some ⟨w.heap.size, 0, none⟩)]] (w.alloc (.cells #[.map none] 27)) fun e w' => ∃ (v : Value) (ss : List (List UInt8)), e = .returned v ∧ ss = [] ∧
      w'.ownsRow (w.alloc (.cells #[.map none] 27)).heap.size 9 1 v ss.length ((ss.mergeSort (fun x y => decide (x ≤ y))).map encStr) ∧ (v = .slice none 0 0 ↔ ss = []) ∧ Below (w.alloc (.cells #[.map none] 27)).heap.size (w.alloc (.cells #[.map none] 27)) w' := by
  have hseq : SeqGives Fence.wide 2 Tryd.prog 46 #[.pointer (some ⟨w.heap.size, 0, none⟩)] encStr (fun ss : List (List UInt8) => ss = []) 0 (w.alloc (.cells #[.map none] 27)) :=
    AnyZ.keys_gives_nil (ρ := Tryd.keys26_ren) { Tryd.keys26 with } Fence.wide _ trivial rfl w.heap.size _ (by simp) (by simp)
  exact AnyZ.sorted_in Tryd.sorted25 Fence.wide 5 trivial trivial trivial trivial rfl (by omega) (Tryd.sorts25 _) (enters_of Tryd.func45 (by kernel_rfl) rfl) 46 #[.pointer (some ⟨w.heap.size, 0, none⟩)] trivial (enters_of Tryd.func46 (by kernel_rfl) rfl) _ 0 (Nat.zero_le _) (by omega) _ hseq

end Go.Proofs.YtbhiljaipikklaaDoor
