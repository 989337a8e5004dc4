/- Parts of the proof of the law that the last file states; declarations that nothing mentions are left out by a program. No conditions. -/
import Derived.Shelf.Strings.SlTrimAscii
import Derived.Lib.SlBytesRow
import Derived.Test.YtgifpkjcggnhgaaGreatDoorLTermHq
import Derived.Test.YtgifpkjcggnhgaaGreatDoorShelfq
import Derived.Test.YtgifpkjcggnhgaaGreatDoorKx2q
set_option linter.unusedVariables false
set_option linter.unusedSimpArgs false
namespace Go.Proofs.YtgifpkjcggnhgaaGreatDoorL
open Go Go.RowKit Go.Proofs.YtgifpkjcggnhgaaGreatDoorW.PrintWords Go.Proofs.YtgifpkjcggnhgaaGreatDoor.K
theorem tails_all : ∀ x : Fin 256, sign_tails.f 5 ((x.val : Nat) : Int) = some (((tailsP x.val).1 : Int), ((tailsP x.val).2.1 : Int), ((tailsP x.val).2.2 : Int)) := by decide +kernel
theorem leO_add {α : Type} {f : Nat → Option α} (h : ∀ k, LeO (f k) (f (k + 1))) {r : α} {n : Nat} (hr : f n = some r) : ∀ d, f (n + d) = some r
  | 0 => hr
  | d + 1 => h (n + d) r (leO_add h hr d)
theorem tails_tells (k x : Nat) (hk : 5 ≤ k) (hx : x < 256) : sign_tails.f k (x : Int) = some (((tailsP x).1 : Int), ((tailsP x).2.1 : Int), ((tailsP x).2.2 : Int)) := by
  obtain ⟨d, rfl⟩ : ∃ j, k = 5 + j := ⟨k - 5, by omega⟩
  exact leO_add (fun k => sign_tails.mono _ k) (tails_all ⟨x, hx⟩) d
theorem rd_nb (l : List UInt8) (j : Nat) (h : j < l.length) : rd (nbL l) (j : Int) = ((l[j]).toNat : Int) := by
  unfold rd nbL
  rw [Int.toNat_natCast, List.getD_eq_getElem?_getD, List.getElem?_map, List.getElem?_eq_getElem h]
  rfl
theorem whole_loop (l : List UInt8) (hl : l.length ≤ 1000) (n : Nat) (hn : n ≤ 3) : ∀ (m k j lo hi : Nat), n + 1 - j = m → 1 ≤ j → j ≤ n + 1 → m < k → sign_Whole.l0 k (nbL l) (n : Int) (lo : Int) (hi : Int) (j : Int) = some (wholeG m lo hi (l.drop j)) := by
  have hlen : (nbL l).length = l.length := List.length_map ..
  intro m
  induction m with
  | zero =>
    intro k j lo hi h1 h2 h3 hk
    obtain ⟨k, rfl⟩ : ∃ i, k = i + 1 := ⟨k - 1, by omega⟩
    unfold sign_Whole.l0
    rw [if_neg (by omega)]
    rfl
  | succ m ih =>
    intro k j lo hi h1 h2 h3 hk
    obtain ⟨k, rfl⟩ : ∃ i, k = i + 1 := ⟨k - 1, by omega⟩
    unfold sign_Whole.l0
    rw [if_pos (by omega), hlen]
    by_cases hj : l.length ≤ j
    · rw [if_pos (by omega), List.drop_eq_nil_of_le hj]
      rfl
    · have hjl : j < l.length := by omega
      rw [if_neg (by omega), if_pos (by omega), if_pos (by omega), rd_nb l j hjl, List.drop_eq_getElem_cons hjl]
      show _ = some (if (l[j]).toNat < lo ∨ hi < (l[j]).toNat then true else wholeG m 128 191 (l.drop (j + 1)))
      have e : wrap64 ((j : Int) + 1) = ((j + 1 : Nat) : Int) := by unfold wrap64; omega
      by_cases h4 : (l[j]).toNat < lo
      · rw [if_pos (by omega), if_pos (.inl h4)]
      by_cases h5 : hi < (l[j]).toNat
      · rw [if_neg (by omega), if_pos (by omega), if_pos (.inr h5)]
      rw [if_neg (by omega), if_neg (by omega), if_neg (by omega), e]
      exact ih k (j + 1) 128 191 (by omega) (by omega) (by omega) (by omega)
theorem whole_tells (l : List UInt8) (hl : l.length ≤ 1000) : sign_Whole.f 10 (nbL l) = some (wholeL l) := by
  have hlen : (nbL l).length = l.length := List.length_map ..
  unfold sign_Whole.f
  rw [hlen]
  cases l with
  | nil => rfl
  | cons x l =>
    rw [if_neg (by simp; omega), if_pos (by simp)]
    have e : rd (nbL (x :: l)) 0 = (x.toNat : Int) := rd_nb (x :: l) 0 (by simp)
    rw [e, tails_tells 10 x.toNat (by omega) (by have := x.toNat_lt; omega)]
    have h := tailsP_le x.toNat
    exact whole_loop (x :: l) hl (tailsP x.toNat).1 h (tailsP x.toNat).1 10 1 (tailsP x.toNat).2.1 (tailsP x.toNat).2.2 (by omega) (by omega) (by omega) (by omega)
theorem whole_calls {A : Option Addr} {c : Nat} (l : List UInt8) (hl : l.length ≤ 1000) (w : World) (hr : Kd.C (Kd.int .u8) w A l.length (nbL l)) (hc : l.length ≤ c) : Calls Tryz.prog 34 #[.slice A l.length c] w fun e w' => e = .returned (.bool (wholeL l)) ∧ Below w.heap.size w w' := by
  have hlen : (nbL l).length = l.length := List.length_map ..
  have h := sign_Whole.calls 10 A c (nbL l) (wholeL l) w (by rw [hlen]; exact hr) (by rw [hlen]; exact hc) (whole_tells l hl)
  rw [hlen] at h
  refine h.mono ?_
  rintro _ w' ⟨rfl, hd⟩
  exact ⟨rfl, hd.below⟩
theorem take_bytes (l : List UInt8) : (⟨(l.take 4).toArray⟩ : ByteArray).size = min l.length 4 := by
  show (l.take 4).toArray.size = _
  rw [List.size_toArray, List.length_take]
  omega
theorem take_read {g o : Nat} (l : List UInt8) (w : World) (hr : ∀ i (h : i < l.length), w.cell? ⟨g, o + i, none⟩ = some (.int .u8 ((l[i]).toNat : Int))) (c : Nat) : (convert 34 9 (.slice (some ⟨g, o, none⟩) (min l.length 4) c)).run Tryz.prog w = .ok (.string ⟨(l.take 4).toArray⟩) w := by
  have h := Lib.run_convert_whole (P := Tryz.prog) w 34 5 9 Tryz.underlying34 Tryz.underlying5 Tryz.underlying9 g o ⟨(l.take 4).toArray⟩ (fun i hi => ?_) c
  · rw [take_bytes] at h
    exact h
  · rw [take_bytes] at hi
    rw [hr i (by omega)]
    congr 3
    have e : (⟨(l.take 4).toArray⟩ : ByteArray)[i]'(by rw [take_bytes]; exact hi) = (l.take 4)[i]'(by rw [List.length_take]; omega) := rfl
    rw [e, List.getElem_take]
set_option maxRecDepth 100000 in
set_option maxHeartbeats 4000000 in
theorem next_calls {g o c : Nat} (l : List UInt8) (hl : 1 ≤ l.length ∧ l.length ≤ 1000) (hc : l.length ≤ c) (w : World) (hr : ∀ i (h : i < l.length), w.cell? ⟨g, o + i, none⟩ = some (.int .u8 ((l[i]).toNat : Int))) :
    Calls Tryz.prog 35 #[.slice (some ⟨g, o, none⟩) l.length c] w fun e w' => e = .returned (.tuple #[.int .i32 ((Lib.decodeL (l.take 4)).1 : Int), .int .i64 ((Lib.decodeL (l.take 4)).2 : Int)]) ∧ Below w.heap.size w w' := by
  have hcv := fun c => take_read l w hr c
  obtain ⟨s, hs⟩ : ∃ s : ByteArray, s = ⟨(l.take 4).toArray⟩ := ⟨_, rfl⟩
  have hsz : s.size = min l.length 4 := by rw [hs]; exact take_bytes l
  have hd : Lib.decodeL (l.take 4) = Utf8.decode s 0 := by rw [hs]; rfl
  rw [← hs] at hcv
  rw [hd]
  obtain ⟨m, hm⟩ : ∃ m, min l.length 4 = m := ⟨_, rfl⟩
  have hm2 : min (l.length : Int) 4 = (m : Int) := by omega
  have hm1 : 1 ≤ m := by omega
  have hm4 : m ≤ 4 := by omega
  have hml : m ≤ l.length := by omega
  rw [hm] at hcv hsz
  have hwd := Lib.width_pos s 0
  have hwn : (Utf8.decode s 0).2 ≤ s.size := by
    have := Lib.decodeL_le (l.take 4) (by intro h; have h2 := congrArg List.length h; rw [List.length_take, List.length_nil] at h2; omega)
    rw [hd] at this
    have h2 := List.length_take (i := 4) (l := l)
    omega
  clear hs hd hm hr
  generalize l.length = n at *
  obtain ⟨r, hr⟩ : ∃ r, (Utf8.decode s 0).1 = r := ⟨_, rfl⟩
  obtain ⟨k, hk⟩ : ∃ k, (Utf8.decode s 0).2 = k := ⟨_, rfl⟩
  have HDR := Hd.mk hr
  have HDK := Hd.mk hk
  rw [hk] at hwd hwn
  rw [hr, hk]
  rw [hsz] at hwn
  have HSZ := Hd.mk hsz
  clear hr hk hsz
  go_enter Tryz.func35, Tryz.ntmps35
  go_wp2
  go_loopg [4, 5] 2 (fun gk v4 v5 wx => ∃ pos : Nat, wx.heap[w.heap.size]? = some (.stringIter s pos) ∧ Hd (Below w.heap.size w wx) ∧ ((pos = 0 ∧ v4 = .int .i64 0 ∧ v5 = .int .i32 0 ∧ gk = 2) ∨ (pos = k ∧ v4 = .int .i64 1 ∧ v5 = .int .i32 (r : Int) ∧ gk = 1)))
  case atStart => exact ⟨0, World.iter_heap w s 0, ⟨(Below.refl _ w).alloc (Nat.le_refl _) _⟩, .inl ⟨rfl, rfl, rfl, rfl⟩⟩
  case round =>
    obtain ⟨pos, hit, HB, h | h⟩ := hrel
    · obtain ⟨rfl, rfl, rfl, rfl⟩ := h
      have hnx : ∀ ty, (Instr.next (.pointer (some ⟨w.heap.size, 0, none⟩)) true ty).run Tryz.prog wr = _ := fun ty => Lib.run_next_any_at wr w.heap.size s 0 ty hit (by have := HSZ.out; omega)
      rw [HDR.out, HDK.out, Nat.zero_add] at hnx
      have hit2 := Lib.iterAt_heap wr w.heap.size s 0 k hit
      have HB2 : Hd (Below w.heap.size w (wr.iterAt w.heap.size s k)) := ⟨Lib.below_iterAt HB.out (Nat.le_refl _) s k⟩
      generalize wr.iterAt w.heap.size s k = wi at hnx hit2 HB2
      clear hit HB
      go_wp2
      go_roundg 1
      case measure => omega
      case rel => exact ⟨k, hit2, HB2, .inr ⟨rfl, rfl, rfl, rfl⟩⟩
    · obtain ⟨rfl, rfl, rfl, rfl⟩ := h
      by_cases hlt : pos < s.size
      · have hnx : ∀ ty, (Instr.next (.pointer (some ⟨w.heap.size, 0, none⟩)) true ty).run Tryz.prog wr = _ := fun ty => Lib.run_next_any_at wr w.heap.size s pos ty hit hlt
        have HB2 : ∀ q, Hd (Below w.heap.size w (wr.iterAt w.heap.size s q)) := fun q => ⟨Lib.below_iterAt HB.out (Nat.le_refl _) s q⟩
        have HB3 := HB2 (pos + (Utf8.decode s pos).2)
        generalize wr.iterAt w.heap.size s (pos + (Utf8.decode s pos).2) = wi at hnx HB3
        generalize (Utf8.decode s pos).1 = r2 at *
        have hp1 : (0 : Int) < (pos : Int) := by omega
        clear hit HB HB2
        go_wp2
        go_ret2
        exact ⟨rfl, HB3.out⟩
      · have hnx : ∀ ty, (Instr.next (.pointer (some ⟨w.heap.size, 0, none⟩)) true ty).run Tryz.prog wr = _ := fun ty => Lib.run_next_end_at wr w.heap.size s pos ty hit hlt
        obtain rfl : pos = m := by have := HSZ.out; omega
        clear hit
        go_wp2
        go_ret2
        exact ⟨rfl, HB.out⟩
end Go.Proofs.YtgifpkjcggnhgaaGreatDoorL

