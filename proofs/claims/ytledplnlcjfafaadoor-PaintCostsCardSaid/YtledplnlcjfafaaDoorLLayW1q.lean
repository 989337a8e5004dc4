/- Parts of the proof of the law that the last file states; declarations that nothing mentions are left out by a program. No conditions. -/
import Derived.Lib.ConvBytes
import Derived.Lib.SlBytesRow
import Derived.Test.YtledplnlcjfafaaDoorLLayQq
import Derived.Test.YtledplnlcjfafaaDoorLPlainq
import Derived.Test.YtledplnlcjfafaaDoorShelfq
set_option linter.unusedVariables false
set_option linter.unusedSimpArgs false
namespace Go.Proofs.YtledplnlcjfafaaDoorL
open Go Go.RowKit Go.Proofs.YtledplnlcjfafaaDoorW.PrintWords
theorem take_bytes2 (l : List UInt8) : (⟨(l.take 4).toArray⟩ : ByteArray).size = min l.length 4 := by
  show (l.take 4).toArray.size = _
  rw [List.size_toArray, List.length_take]
  omega
theorem take_read2 {g o : Nat} (l : List UInt8) (w : World) (hr : ∀ i (h : i < l.length), w.cell? ⟨g, o + i, none⟩ = some (.int .u8 ((l[i]).toNat : Int))) (c : Nat) : (convert 43 9 (.slice (some ⟨g, o, none⟩) (min l.length 4) c)).run Tryd.prog w = .ok (.string ⟨(l.take 4).toArray⟩) w := by
  have h := Lib.run_convert_whole (P := Tryd.prog) w 43 5 9 Tryd.underlying43 Tryd.underlying5 Tryd.underlying9 g o ⟨(l.take 4).toArray⟩ (fun i hi => ?_) c
  · rw [take_bytes2] at h
    exact h
  · rw [take_bytes2] at hi
    rw [hr i (by omega)]
    congr 3
    have e : (⟨(l.take 4).toArray⟩ : ByteArray)[i]'(by rw [take_bytes2]; exact hi) = (l.take 4)[i]'(by rw [List.length_take]; omega) := rfl
    rw [e, List.getElem_take]
set_option maxRecDepth 100000 in
set_option maxHeartbeats 4000000 in
theorem next_calls2 {g o c : Nat} (l : List UInt8) (hl : 1 ≤ l.length ∧ l.length ≤ 1000000) (hc : l.length ≤ c) (w : World) (hr : ∀ i (h : i < l.length), w.cell? ⟨g, o + i, none⟩ = some (.int .u8 ((l[i]).toNat : Int))) :
    Calls Tryd.prog 80 #[.slice (some ⟨g, o, none⟩) l.length c] w fun e w' => e = .returned (.tuple #[.int .i32 ((Lib.decodeL (l.take 4)).1 : Int), .int .i64 ((Lib.decodeL (l.take 4)).2 : Int)]) ∧ Below w.heap.size w w' := by
  have hcv := fun c => take_read2 l w hr c
  obtain ⟨s, hs⟩ : ∃ s : ByteArray, s = ⟨(l.take 4).toArray⟩ := ⟨_, rfl⟩
  have hsz : s.size = min l.length 4 := by rw [hs]; exact take_bytes2 l
  have hd : Lib.decodeL (l.take 4) = Utf8.decode s 0 := by rw [hs]; rfl
  rw [← hs] at hcv
  rw [hd]
  obtain ⟨m, hm⟩ : ∃ m, min l.length 4 = m := ⟨_, rfl⟩
  have hm2 : min (l.length : Int) 4 = (m : Int) := by omega
  have hm1 : 1 ≤ m := by omega
  have hm4 : m ≤ 4 := by omega
  have hml : m ≤ l.length := by omega
  rw [hm] at hcv hsz
  have hwd := Lib.width_pos s 0
  have hwn : (Utf8.decode s 0).2 ≤ s.size := by
    have := Lib.decodeL_le (l.take 4) (by intro h; have h2 := congrArg List.length h; rw [List.length_take, List.length_nil] at h2; omega)
    rw [hd] at this
    have h2 := List.length_take (i := 4) (l := l)
    omega
  clear hs hd hm hr
  generalize l.length = n at *
  obtain ⟨r, hr⟩ : ∃ r, (Utf8.decode s 0).1 = r := ⟨_, rfl⟩
  obtain ⟨k, hk⟩ : ∃ k, (Utf8.decode s 0).2 = k := ⟨_, rfl⟩
  have HDR := Hd.mk hr
  have HDK := Hd.mk hk
  rw [hk] at hwd hwn
  rw [hr, hk]
  rw [hsz] at hwn
  have HSZ := Hd.mk hsz
  clear hr hk hsz
  go_enter Tryd.func80, Tryd.ntmps80
  go_wp2
  go_loopg [4, 5] 2 (fun gk v4 v5 wx => ∃ pos : Nat, wx.heap[w.heap.size]? = some (.stringIter s pos) ∧ Hd (Below w.heap.size w wx) ∧ ((pos = 0 ∧ v4 = .int .i64 0 ∧ v5 = .int .i32 0 ∧ gk = 2) ∨ (pos = k ∧ v4 = .int .i64 1 ∧ v5 = .int .i32 (r : Int) ∧ gk = 1)))
  case atStart => exact ⟨0, World.iter_heap w s 0, ⟨(Below.refl _ w).alloc (Nat.le_refl _) _⟩, .inl ⟨rfl, rfl, rfl, rfl⟩⟩
  case round =>
    obtain ⟨pos, hit, HB, h | h⟩ := hrel
    · obtain ⟨rfl, rfl, rfl, rfl⟩ := h
      have hnx : ∀ ty, (Instr.next (.pointer (some ⟨w.heap.size, 0, none⟩)) true ty).run Tryd.prog wr = _ := fun ty => Lib.run_next_any_at wr w.heap.size s 0 ty hit (by have := HSZ.out; omega)
      rw [HDR.out, HDK.out, Nat.zero_add] at hnx
      have hit2 := Lib.iterAt_heap wr w.heap.size s 0 k hit
      have HB2 : Hd (Below w.heap.size w (wr.iterAt w.heap.size s k)) := ⟨Lib.below_iterAt HB.out (Nat.le_refl _) s k⟩
      generalize wr.iterAt w.heap.size s k = wi at hnx hit2 HB2
      clear hit HB
      go_wp2
      go_roundg 1
      case measure => omega
      case rel => exact ⟨k, hit2, HB2, .inr ⟨rfl, rfl, rfl, rfl⟩⟩
    · obtain ⟨rfl, rfl, rfl, rfl⟩ := h
      by_cases hlt : pos < s.size
      · have hnx : ∀ ty, (Instr.next (.pointer (some ⟨w.heap.size, 0, none⟩)) true ty).run Tryd.prog wr = _ := fun ty => Lib.run_next_any_at wr w.heap.size s pos ty hit hlt
        have HB2 : ∀ q, Hd (Below w.heap.size w (wr.iterAt w.heap.size s q)) := fun q => ⟨Lib.below_iterAt HB.out (Nat.le_refl _) s q⟩
        have HB3 := HB2 (pos + (Utf8.decode s pos).2)
        generalize wr.iterAt w.heap.size s (pos + (Utf8.decode s pos).2) = wi at hnx HB3
        generalize (Utf8.decode s pos).1 = r2 at *
        have hp1 : (0 : Int) < (pos : Int) := by omega
        clear hit HB HB2
        go_wp2
        go_ret2
        exact ⟨rfl, HB3.out⟩
      · have hnx : ∀ ty, (Instr.next (.pointer (some ⟨w.heap.size, 0, none⟩)) true ty).run Tryd.prog wr = _ := fun ty => Lib.run_next_end_at wr w.heap.size s pos ty hit hlt
        obtain rfl : pos = m := by have := HSZ.out; omega
        clear hit
        go_wp2
        go_ret2
        exact ⟨rfl, HB.out⟩
set_option maxRecDepth 100000 in
theorem first_calls (c : ByteArray) (h0 : 0 < c.size) (h1 : c.size ≤ 1000000) (w : World) :
    Calls Tryd.prog 65 #[.string c] w fun e w' => e = .returned (.tuple #[.int .i32 (firstR c), .bool true]) ∧ Below w.heap.size w w' := by
  have hsz : c.data.toList.length = c.size := (Lib.size_eq c).symm
  have hcell : ∀ i (h : i < c.data.toList.length), (Lib.bytesWorld w 5 c).cell? ⟨w.heap.size, 0 + i, none⟩ = some (.int .u8 ((c.data.toList[i]).toNat : Int)) := fun i hi => by
    have h := Lib.bytesWorld_cell w 5 c i (by omega)
    rw [Nat.zero_add, h, List.getD_eq_getElem?_getD, List.getElem?_eq_getElem hi]
    rfl
  have X := Hd.mk (fun cap hc => next_calls2 (c := cap) c.data.toList (by omega) hc (Lib.bytesWorld w 5 c) hcell)
  rw [hsz] at X
  have HB := Hd.mk (bytesW_below w 5 c)
  have hpos := Lib.decodeL_width (c.data.toList.take 4)
  unfold firstR
  have hp2 : decide ((0 : Int) < ((Lib.decodeL (c.data.toList.take 4)).2 : Int)) = true := decide_eq_true (by omega)
  have hp3 : decide (0 < (Lib.decodeL (c.data.toList.take 4)).2) = true := decide_eq_true (by omega)
  have hp4 : 0 < (Lib.decodeL (c.data.toList.take 4)).2 := by omega
  generalize (Lib.decodeL (c.data.toList.take 4)).1 = r at *
  generalize (Lib.decodeL (c.data.toList.take 4)).2 = n at *
  have hcv := fun W => Lib.run_convert_string_bytes (P := Tryd.prog) W 9 43 5 c Tryd.underlying9 Tryd.underlying43 Tryd.underlying5
  clear hsz hcell hpos
  go_enter Tryd.func65, Tryd.ntmps65
  go_wp2_with fail
  go_at_call 80
  with_reducible refine (X.out _ ?hcap).mono ?_
  case hcap => exact grownCap_ge _ _ _ _
  rintro _ w2 ⟨rfl, hb⟩
  have HB2 := Hd.mk (HB.out.trans (hb.mono HB.out.size))
  clear hb X HB hcv
  go_wp2
  go_ret2
  exact ⟨rfl, HB2.out⟩
theorem ofR_nat (r : Int) : ∃ n : Nat, ofR r = (n : Int) ∧ n ≤ 2 := by
  rcases ofR_cases r with h | h | h
  · exact ⟨0, h, by omega⟩
  · exact ⟨1, h, by omega⟩
  · exact ⟨2, h, by omega⟩
set_option maxRecDepth 100000 in
theorem wide2_calls (c : ByteArray) (h0 : 0 < c.size) (h1 : c.size ≤ 1000000) (w : World) :
    Calls Tryd.prog 47 #[.string c] w fun e w' => e = .returned (.int .i64 (wideC c : Int)) ∧ Below w.heap.size w w' := by
  have X := Hd.mk (first_calls c h0 h1 w)
  have Y := Hd.mk (fun w => of_calls (firstR c) w)
  obtain ⟨n, hn, hn2⟩ := ofR_nat (firstR c)
  have HE : Hd (wideC c = max n 1) := ⟨by unfold wideC; rw [hn]; rfl⟩
  have hm : max (n : Int) 1 = ((max n 1 : Nat) : Int) := by omega
  rw [hn] at Y
  rw [HE.out]
  clear h0 h1 hn HE
  generalize firstR c = r at *
  go_enter Tryd.func47, Tryd.ntmps47
  go_wp2_with fail
  go_at_call 65
  with_reducible refine (X.out).mono ?_
  rintro _ w2 ⟨rfl, hb⟩
  have HB2 := Hd.mk hb
  clear hb X
  go_wp2_with fail
  go_at_call 44
  with_reducible refine (Y.out _).mono ?_
  rintro _ w3 ⟨rfl, hb⟩
  have HB3 := Hd.mk (HB2.out.trans (hb.mono HB2.out.size))
  clear hb Y HB2
  go_wp2
  go_ret
  exact ⟨by rw [← hm]; rfl, HB3.out⟩
set_option maxRecDepth 100000 in
theorem show_calls (c : ByteArray) (h0 : 0 < c.size) (h1 : c.size ≤ 1000000) (w : World) :
    Calls Tryd.prog 48 #[.string c] w fun e w' => e = .returned (.string (showC c)) ∧ Below w.heap.size w w' := by
  have X := Hd.mk (first_calls c h0 h1 w)
  have Y := Hd.mk (fun w => of_calls (firstR c) w)
  have Z := Hd.mk (fun w => control_calls (firstR c) w)
  have V := Hd.mk (fun w => clean_calls c (by omega) (Lib.bytesWorld w 5 c) (bytes_back w c (grownCap w c.size 0 5)))
  have HBV := Hd.mk (fun w => bytesW_below w 5 c)
  obtain ⟨n, hn, hn2⟩ := ofR_nat (firstR c)
  have HE : Hd (showC c = if (n : Int) = 0 ∨ ctlB (firstR c) = true then wrongS else ⟨(cleanL c.data.toList).toArray⟩) := ⟨by unfold showC; rw [hn]⟩
  rw [hn] at Y
  obtain ⟨o, ho⟩ : ∃ o, showC c = o := ⟨_, rfl⟩
  rw [ho] at HE
  rw [ho]
  have hcv := fun W => Lib.run_convert_string_bytes (P := Tryd.prog) W 9 43 5 c Tryd.underlying9 Tryd.underlying43 Tryd.underlying5
  clear h0 h1 hn ho
  generalize firstR c = r at *
  go_enter Tryd.func48, Tryd.ntmps48
  go_wp2_with fail
  go_at_call 65
  with_reducible refine (X.out).mono ?_
  rintro _ w2 ⟨rfl, hb⟩
  have HB2 := Hd.mk hb
  clear hb X
  go_wp2_with fail
  go_at_call 44
  with_reducible refine (Y.out _).mono ?_
  rintro _ w3 ⟨rfl, hb⟩
  have HB3 := Hd.mk (HB2.out.trans (hb.mono HB2.out.size))
  clear hb Y HB2
  by_cases hz : n = 0
  · subst hz
    go_wp2
    go_ret
    exact ⟨by rw [HE.out, if_pos (.inl rfl)]; rfl, HB3.out⟩
  · have hz1 : ((n : Int) == 0) = false := by simp; omega
    have hz2 : ¬ (n : Int) = 0 := by omega
    cases hc : ctlB r
    · rw [hc] at Z HE
      replace HE := Hd.mk (HE.out.trans (if_neg (fun e => e.elim hz2 (fun e => by cases e))))
      clear hc
      go_wp2_with fail
      go_at_call 60
      with_reducible refine (Z.out _).mono ?_
      rintro _ w4 ⟨rfl, rfl⟩
      clear Z
      have HB4 := Hd.mk (HB3.out.trans ((HBV.out w3).mono HB3.out.size))
      go_wp2_with fail
      go_at_call 61
      with_reducible refine (V.out _).mono ?_
      rintro _ w5 ⟨rfl, hb⟩
      have HB5 := Hd.mk (HB4.out.trans (hb.mono HB4.out.size))
      clear hb V
      go_wp2
      go_ret
      exact ⟨by rw [HE.out]; rfl, HB5.out⟩
    · rw [hc] at Z HE
      replace HE := Hd.mk (HE.out.trans (if_pos (.inr rfl)))
      clear hc
      go_wp2_with fail
      go_at_call 60
      with_reducible refine (Z.out _).mono ?_
      rintro _ w4 ⟨rfl, rfl⟩
      clear Z
      go_wp2
      go_ret
      exact ⟨by rw [HE.out]; rfl, HB3.out⟩
set_option maxHeartbeats 1000000 in
theorem lback_calls (s : ByteArray) (hs : s.size ≤ 1099511627776) (at_ : Int) (w : World) :
    Calls Tryd.prog 27 #[.string s, .int .i64 at_] w fun e w' => e = .returned (.int .i64 (backL s at_)) ∧ Below w.heap.size w w' := by
  have X := Hd.mk (bounds_calls s hs w)
  have HL : Hd ((boundsL s).length ≤ 1099511627780) := ⟨by have := boundsL_len s; omega⟩
  have HZ := Hd.mk (boundsL_pos s)
  obtain ⟨R, hR⟩ : ∃ R, backL s at_ = R := ⟨_, rfl⟩
  have HR : Hd (backG at_ (boundsL s) 0 = R) := ⟨hR⟩
  rw [hR]
  generalize boundsL s = l at X HL HZ HR
  clear hR hs
  go_enter Tryd.func27, Tryd.ntmps27
  go_wp2_with fail
  go_at_call 45
  with_reducible refine (X.out).mono ?_
  rintro _ w1 ⟨v, rfl, hown, hb⟩
  obtain ⟨g, cap, rfl, _, _⟩ := World.ownsRow.form hown HZ.out
  have HO := Hd.mk hown
  have HB := Hd.mk hb
  clear hown hb X
  go_wp2_with fail
  go_loopg [5, 11] l.length (fun gk v5 v11 wx => ∃ k o : Nat, k + gk = l.length ∧ v11 = .int .i64 k ∧ v5 = .int .i64 o ∧ wx = w1 ∧ Hd (backG at_ (l.drop k) o = R))
  case atStart => exact ⟨0, 0, by omega, rfl, rfl, rfl, HR⟩
  case round =>
    obtain ⟨k, o, hk, rfl, rfl, rfl, HI⟩ := hrel
    cases gk with
    | zero =>
      have hlt : decide (k < l.length) = false := decide_eq_false (by omega)
      have HE : Hd (o = R) := ⟨by rw [← HI.out, List.drop_eq_nil_of_le (by omega)]; rfl⟩
      go_wp2
      go_ret
      exact ⟨by rw [← HE.out]; rfl, HB.out⟩
    | succ d =>
      have hkl : k < l.length := by omega
      have hlt : decide ((k : Int) < (l.length : Int)) = true := decide_eq_true (by omega)
      have hc := nat_cell HO.out k hkl
      have HD : Hd (backG at_ (l.drop k) o = backG at_ (l.drop (k + 1)) (if (l[k] : Int) ≤ at_ then l[k] else o)) := ⟨by rw [List.drop_eq_getElem_cons hkl]; rfl⟩
      have HK := Hd.mk hk
      generalize l[k] = x at hc HD
      clear hk
      by_cases hx : (x : Int) ≤ at_
      · have hxb : decide ((x : Int) ≤ at_) = true := decide_eq_true hx
        rw [if_pos hx] at HD
        have HI2 : Hd (backG at_ (l.drop (k + 1)) x = R) := ⟨by rw [← HD.out]; exact HI.out⟩
        clear HD HI
        go_wp2
        go_roundg d
        case measure => omega
        case rel => exact ⟨k + 1, x, by have := HK.out; omega, congrArg (Value.int .i64) (by have := HK.out; have := HL.out; unfold wrap64; omega), rfl, rfl, HI2⟩
      · have hxb : decide ((x : Int) ≤ at_) = false := decide_eq_false hx
        rw [if_neg hx] at HD
        have HI2 : Hd (backG at_ (l.drop (k + 1)) o = R) := ⟨by rw [← HD.out]; exact HI.out⟩
        clear HD HI
        go_wp2
        go_roundg d
        case measure => omega
        case rel => exact ⟨k + 1, o, by have := HK.out; omega, congrArg (Value.int .i64) (by have := HK.out; have := HL.out; unfold wrap64; omega), rfl, rfl, HI2⟩
set_option maxRecDepth 100000 in
theorem lplain_calls (s : ByteArray) (hs : s.size ≤ 4294967296) (w : World) (hT : Lib.Utf8Tabs 0 1 w) :
    Calls Tryd.prog 24 #[.string s] w fun e w' => e = .returned (.string (plainT s)) ∧ Below w.heap.size w w' := by
  have hp := plainS_size s
  have X := Hd.mk (plain_calls s (by omega) w hT)
  have HPS : Hd ((⟨(plainL s.data.toList).toArray⟩ : ByteArray) = plainS s) := ⟨rfl⟩
  have HM : Hd (plainT s = if (plainS s).size ≤ 1200 then plainS s else cutS (plainS s) (backL (plainS s) 1200)) := ⟨rfl⟩
  have HLE := Hd.mk (backL_le (plainS s) 1200)
  rw [HPS.out] at X
  have HP : Hd ((plainS s).size ≤ 68719476736) := ⟨by omega⟩
  generalize plainS s = p at *
  have XB := Hd.mk (fun w' => lback_calls p (by have := HP.out; omega) 1200 w')
  clear hp hT hs HPS
  obtain ⟨o, ho⟩ : ∃ o, plainT s = o := ⟨_, rfl⟩
  rw [ho] at HM
  rw [ho]
  clear ho
  go_enter Tryd.func24, Tryd.ntmps24
  go_wp2_with fail
  go_at_call 42
  with_reducible refine (X.out).mono ?_
  rintro _ w2 ⟨rfl, hb⟩
  have HB2 := Hd.mk hb
  clear hb X
  by_cases h6 : p.size ≤ 1200
  · have h6b : decide ((p.size : Int) ≤ 1200) = true := decide_eq_true (by omega)
    rw [if_pos h6] at HM
    clear h6 XB
    go_wp2
    go_ret
    exact ⟨by rw [HM.out]; rfl, HB2.out⟩
  · have h6b : decide ((p.size : Int) ≤ 1200) = false := decide_eq_false (by omega)
    rw [if_neg h6] at HM
    have hp1 : (0 : Int) ≤ (backL p 1200 : Int) := Int.natCast_nonneg _
    have hp2 : (backL p 1200 : Int) ≤ (p.size : Int) := by have := HLE.out; omega
    have hnat : (backL p 1200) ≤ p.size := HLE.out
    generalize backL p 1200 = n at *
    unfold cutS at HM
    clear h6 HLE
    go_wp2_with fail
    go_at_call 27
    with_reducible refine (XB.out _).mono ?_
    rintro _ w3 ⟨rfl, hb⟩
    have HB3 := Hd.mk (HB2.out.trans (hb.mono HB2.out.size))
    clear hb XB
    go_wp2
    go_ret
    exact ⟨by rw [HM.out]; rfl, HB3.out⟩
end Go.Proofs.YtledplnlcjfafaaDoorL

