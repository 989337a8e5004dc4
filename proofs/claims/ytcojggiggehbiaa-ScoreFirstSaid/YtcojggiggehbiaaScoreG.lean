/- The walk of ScoreFirst. No conditions. -/
import Derived.Test.YtcojggiggehbiaaScoreF
import Derived.Test.YtcojggiggehbiaaScoreE
import Derived.Handy
import Derived.OpenShut
import Derived.Deep.RegionLaw
import Derived.Test.YtcojggiggehbiaaPx1
import Derived.Test.YtcojggiggehbiaaPx2
namespace Go.Proofs.Ytcojggiggehbiaa.Pure
open Go.RowKit Go.Proofs.Ytcojggiggehbiaa.P Go.Proofs.YtcojggiggehbiaaW.PrintWords Go.Proofs.YtcojggiggehbiaaL Go.Proofs.YtcojggiggehbiaaW.PrintLast

theorem alive_calls (w : World) : Calls Try.prog 9 #[] w fun e w' => e = .returned (.bool true) ∧ Below w.heap.size w w' :=
  souffleurlaw14_alive.calls 20 true w alive_true

theorem scoreFirst_out (A : Option Addr) (c : Nat) (l : List S35) (k : Int) (w : World) (hc : l.length ≤ c) (hl : l.length ≤ 9223372036854775807) (hk0 : -9223372036854775808 ≤ k) (hk1 : k ≤ 9223372036854775807) (hg : 60 < l.length ∨ k < 0 ∨ (l.length : Int) < k) :
    Calls Try.prog 6 #[.slice A l.length c, .int .i64 k] w fun e w' => e = .returned (.bool true) ∧ Below w.heap.size w w' := by
  by_cases h1 : 60 < l.length
  · go_enter Try.func6, Try.ntmps6
    go_wp2_with (go_at_call 9; refine (alive_calls _).mono ?_; rintro e w1 ⟨rfl, hb⟩)
    go_ret
    exact ⟨rfl, hb⟩
  · by_cases h2 : k < 0
    · go_enter Try.func6, Try.ntmps6
      go_wp2_with (go_at_call 9; refine (alive_calls _).mono ?_; rintro e w1 ⟨rfl, hb⟩)
      go_ret
      exact ⟨rfl, hb⟩
    · have h3 : (l.length : Int) < k := by omega
      go_enter Try.func6, Try.ntmps6
      go_wp2_with (go_at_call 9; refine (alive_calls _).mono ?_; rintro e w1 ⟨rfl, hb⟩)
      go_ret
      exact ⟨rfl, hb⟩

def conv36 (x : S35) : S36 := ⟨x.f0, x.f1, x.f2⟩

theorem mem_rot {α : Type} (l : List α) (k : Nat) (x : α) : x ∈ l ↔ x ∈ l.drop k ++ l.take k := by
  rw [List.mem_append, Or.comm, ← List.mem_append, List.take_append_drop]

theorem firsts (l : List S35) (hl : l.length ≤ 60) (k : Nat) : ∃ (a b : Int) (c : ByteArray) (d : Bool) (k1 k2 k3 : Nat), score_First.f k1 (l.map conv36) = some (a, b, c, d) ∧
    score_First.f k2 ((l.map conv36).drop k ++ (l.map conv36).take k) = some (a, b, c, d) ∧ souffleurref14_First.f k3 l = some (a, b, c, d) := by
  have hm : (l.map conv36).map t36 = l.map t35 := by rw [List.map_map]; rfl
  have hr := refFirst_ev l (by omega)
  have h1 := first_ev (l.map conv36) (by simp; omega)
  have h2 := first_ev ((l.map conv36).drop k ++ (l.map conv36).take k) (by simp; omega)
  rcases h1 with ⟨h0, h1⟩ | ⟨b, hb, h1⟩
  · have hl0 : l = [] := by simpa using h0
    subst hl0
    obtain ⟨k1, h1⟩ := h1.rounds
    obtain ⟨k3, h3⟩ := (hr.1 rfl).rounds
    exact ⟨_, _, _, _, k1, k1, k3, h1, by simpa using h1, h3⟩
  · have hne : l ≠ [] := by
      rintro rfl
      simp [IsBest] at hb
    rcases h2 with ⟨h0, _⟩ | ⟨b', hb', h2⟩
    · exfalso
      have : ((l.map conv36).drop k ++ (l.map conv36).take k).length = 0 := by rw [h0]; rfl
      simp only [List.length_append, List.length_drop, List.length_take, List.length_map] at this
      have : l.length = 0 := by omega
      exact hne (List.eq_nil_of_length_eq_zero this)
    · have e : b' = b := best_one hb' hb (fun x => by
        rw [List.map_append, List.map_drop, List.map_take]
        exact (mem_rot _ k x).symm)
      subst e
      rw [hm] at hb
      obtain ⟨k1, h1⟩ := h1.rounds
      obtain ⟨k2, h2⟩ := h2.rounds
      obtain ⟨k3, h3⟩ := (hr.2 _ hb).rounds
      exact ⟨_, _, _, _, k1, k2, k3, h1, h2, h3⟩

theorem C36_keep {w w' : World} {A : Option Addr} {n : Nat} {xs : List S36} (h : Kd.C k36 w A n xs) (hk : ∀ ad, A = some ad → 0 < n → w'.heap[ad.block]? = w.heap[ad.block]?) : Kd.C k36 w' A n xs := by
  refine ⟨h.1, h.2.1, fun hn => ?_⟩
  obtain ⟨ad, e, hc⟩ := h.2.2 hn
  refine ⟨ad, e, fun i p hp => ?_⟩
  obtain ⟨cs, h1, h2, h3⟩ := hc i p hp
  refine ⟨cs, h1, h2, fun j u hu => ?_⟩
  rw [← h3 j u hu]
  exact World.cell?_of_block (by rw [add_block]; exact hk ad e hn)
theorem K36_M {w w' : World} {base : Nat} (x : S36) (cs : List Value) (h : k36.K w x cs) : k36.M w' base (fun _ => False) x cs := by
  rw [k36_open h]
  exact k36_mkM _ _ _ x

theorem keepb {w w' : World} {o o' : Obj} {g : Nat} (hb : Below (w.alloc o').heap.size (w.alloc o') w') (h : w.heap[g]? = some o) : w'.heap[g]? = some o := by
  have hg : g < w.heap.size := (Array.getElem?_eq_some_iff.1 h).1
  exact (hb.block g (by simp; omega)).trans ((Below.heap_alloc w o' g hg).trans h)
theorem newb {w w' : World} {o : Obj} (hb : Below (w.alloc o).heap.size (w.alloc o) w') : w'.heap[w.heap.size]? = some o :=
  (hb.block _ (by simp)).trans (heap_alloc_new w _)

theorem first_calls (k : Nat) (A0 : Option Addr) (c0 n : Nat) (l0 : List S36) (r1 r2 : Int) (r3 : ByteArray) (r4 : Bool) (w : World) (hn : n = l0.length) (hr0 : Kd.C k36 w A0 l0.length l0) (hc0 : l0.length ≤ c0) (h : score_First.f k l0 = some (r1, r2, r3, r4)) :
    Calls Try.prog 19 #[.slice A0 n c0] w fun e w' => e = .returned (.tuple #[.agg #[.int .i64 r1, .int .i64 r2, .string r3], .bool r4]) ∧ Below w.heap.size w w' := by
  subst hn
  exact score_First.calls k A0 c0 l0 r1 r2 r3 r4 w hr0 hc0 h

theorem take_read {w : World} {A : Option Addr} {k : Nat} {l : List S35} (h : Kd.C k36 w A (l.map conv36).length (l.map conv36)) (hk : k ≤ l.length) : Kd.C k36 w A k ((l.map conv36).take k) := by
  have := Kd.C_take h (m := k) (by simpa using hk)
  rw [List.length_take, List.length_map, Nat.min_eq_left hk] at this
  exact this

theorem info36 : (Try.prog.info? 36).map (fun i => (i.zero, i.size, i.bytes)) = some (some (.agg #[(.int .i64 0), (.int .i64 0), (.string ⟨#[]⟩)]), 3, 32) := by kernel_rfl

attribute [local go_sem high] eqA35 eqA36
set_option maxHeartbeats 2000000 in
set_option maxRecDepth 100000 in
theorem scoreFirst_in (A : Option Addr) (c : Nat) (l : List S35) (k : Nat) (w : World) (hr : Kd.C k35 w A l.length l) (hc : l.length ≤ c) (hl : l.length ≤ 60) (hk : k ≤ l.length) :
    Calls Try.prog 6 #[.slice A l.length c, .int .i64 k] w fun e w' => e = .returned (.bool true) ∧ Below w.heap.size w w' := by
  have g1 : decide (60 < l.length) = false := by simp; omega
  have g2 : decide ((k : Int) < 0) = false := by simp
  have g3 : decide (l.length < k) = false := by simp; omega
  have HR := Aside0.mk hr
  clear hr
  have HB := Aside0.mk (Below.refl w.heap.size w)
  go_enter Try.func6, Try.ntmps6
  go_wp2
  go_loopg [5, 31] l.length (fun kq v5 v31 w' => ∃ i : Nat, i + kq = l.length ∧ v31 = .int .i64 i ∧ Aside0 (Kd.R k36 36 w' w.heap.size (fun _ => True) v5 ((l.take i).map conv36)) ∧ Aside0 (Below w.heap.size w w'))
  case atStart => exact ⟨0, by omega, rfl, ⟨by simpa using Kd.R_nil _ _ _ _ _⟩, HB⟩
  case round =>
    obtain ⟨i, hi, rfl, HO, HB⟩ := hrel
    cases gk with
    | succ d =>
      have hlt : i < l.length := by omega
      have e1 : decide (i < l.length) = true := decide_eq_true hlt
      obtain ⟨ad, rfl, c0, c1, c2⟩ := at_T35 HR.out (i : Int) (by omega) (by omega)
      rw [rd35_at l i hlt, Int.toNat_natCast] at c0 c1 c2
      replace c0 := (HB.out.cell (World.block_lt_of_cell? w _ c0)).trans c0
      replace c1 := (HB.out.cell (World.block_lt_of_cell? w _ c1)).trans c1
      replace c2 := (HB.out.cell (World.block_lt_of_cell? w _ c2)).trans c2
      have htk : (l.take (i + 1)).map conv36 = (l.take i).map conv36 ++ [conv36 l[i]] := by
        rw [List.take_succ_eq_append_getElem hlt, List.map_append]
        rfl
      have HTK := Aside0.mk htk
      clear htk
      go_wp2_with (at_builtin; refine Kd.R_append k36 (w0 := w) w.heap.size rfl (.tmp 35) (.tmp 37) 40 36 (.agg #[(.int .i64 0), (.int .i64 0), (.string ⟨#[]⟩)]) 32 rfl Try.underlying40 info36 rfl (by decide) (by omega) u5 ((l.take i).map conv36) (conv36 l[i]) [.int .i64 l[i].f0, .int .i64 l[i].f1, .string l[i].f2] (fun _ => True) (fun _ => False) rfl (by first | (go_simp; done) | (go_simp; rfl)) ?aP (fun _ hk => hk.elim) ?aF ?aO ?aB ?aS ?aL ?_; (case aP => exact k36_mkM _ _ _ (conv36 l[i])); (case aF => exact (fun _ _ => trivial)); (case aO => exact Kd.R_alloc HO.out _); (case aB => exact below_alloc HB.out _); (case aS => exact below_size (below_alloc HB.out _)); (case aL => simp only [List.length_map, List.length_take]; omega); intro v1 w1 ho hb _ _; rw [← HTK.out] at ho; replace HO := Aside0.mk ho; replace HB := Aside0.mk hb; clear ho hb)
      go_roundg d
      case measure => omega
      case rel => exact ⟨i + 1, by omega, by go_num, HO, HB⟩
    | zero =>
      have e1 : decide (i < l.length) = false := by simp; omega
      have htk : (l.take i).map conv36 = l.map conv36 := by rw [List.take_of_length_le (by omega)]
      rw [htk] at HO
      clear htk
      go_wp2
      obtain ⟨A5, c5, rfl, hc5, hC5⟩ := Kd.R_reads HO.out
      obtain ⟨ra, rb, rc, rd_, k1, k2, k3, f1, f2, f3⟩ := firsts l hl k
      have F1 := Aside0.mk f1
      have F2 := Aside0.mk f2
      have F3 := Aside0.mk f3
      clear f1 f2 f3
      have hk' : k ≤ (l.map conv36).length := by simpa using hk
      have hD : Kd.C k36 wr (if c5 = k then A5 else Option.map (fun x => x.add (k * 3)) A5) (l.length - k) ((l.map conv36).drop k) := by
        have := Kd.C_drop hC5 hk' hc5
        rw [List.length_drop, List.length_map] at this
        exact this
      have HD := Aside0.mk hD
      have hkc : k ≤ c5 := Nat.le_trans hk' hc5
      clear hD hC5
      go_region_law (first
        | (refine Kd.R_append_rows_step k36 (w0 := w) w.heap.size (by simp [Region.wanted]) (.tmp 40) (.tmp 43) 40 36 (.agg #[(.int .i64 0), (.int .i64 0), (.string ⟨#[]⟩)]) 32 rfl Try.underlying40 info36 rfl (by decide) (by decide) (.slice none 0 0) [] ((l.map conv36).drop k) (if c5 = k then A5 else Option.map (fun x => x.add (k * 3)) A5) (l.length - k) (c5 - k) (fun _ => True) (fun _ => False) (by simp [Act.eval, Act.put]) (by simp [Act.eval, Act.put]) (Kd.R_nil _ _ _ _ _) HD.out (fun x cs => K36_M x cs) (fun _ h => h.elim) (fun _ _ => trivial) (below_drew HB.out) (below_drew HB.out).size (by simp; omega) ?_
           intro v1 w1 ho1 hb1 hg1 hat1
           have HO1 := Aside0.mk (Kd.R_grown2 (Kd.R_drew HO.out) rfl hg1 (fun _ hk => by simp [Value.ownBlock] at hk))
           have HV1 := Aside0.mk ho1
           have HB1 := Aside0.mk hb1
           have HA1 : Aside0 (∀ k', v1.ownBlock = some k' → wr.heap.size ≤ k') := ⟨fun k' hk' => by
             rcases hat1 with e | ⟨b, e, hb⟩
             · rw [e] at hk'; simp [Value.ownBlock] at hk'
             · rw [e] at hk'; injection hk' with hk'; subst hk'; exact hb⟩
           clear ho1 hb1 hg1 hat1)
        | (refine Kd.R_append_rows_step k36 (w0 := w) w.heap.size (by simp [Region.wanted]) (.tmp 44) (.tmp 47) 40 36 (.agg #[(.int .i64 0), (.int .i64 0), (.string ⟨#[]⟩)]) 32 rfl Try.underlying40 info36 rfl (by decide) (by decide) v1 ((l.map conv36).drop k) ((l.map conv36).take k) A5 k c5 (fun _ => True) (fun _ => False) (by simp [Act.eval, Act.put]) (by simp [Act.eval, Act.put]) (by simpa using HV1.out) (take_read (Kd.R_reads' HO1.out).2.2 hk) (fun x cs => K36_M x cs) (fun _ h => h.elim) (fun _ _ => trivial) HB1.out HB1.out.size (by simp; omega) ?_
           intro v2 w2 ho2 hb2 hg2 hat2
           have HO2 := Aside0.mk (Kd.R_grown2 HO1.out rfl hg2 (fun k' hk' e => absurd (Kd.R_lt HO.out k' (by rw [← e])) (by have := HA1.out k' hk'; omega)))
           have HV2 := Aside0.mk ho2
           have HB2 := Aside0.mk hb2
           clear ho2 hb2 hg2 hat2))
      all_goals
        have R5 := HO2.out
        have h5 := Kd.R_reads' R5
        obtain ⟨A6, c6, rfl, hc6, hC6⟩ := Kd.R_reads HV2.out
        have H5 := Aside0.mk h5
        have H6 := Aside0.mk hC6
        have HC6 := Aside0.mk hc6
        have hn5 : l.length = (l.map conv36).length := by simp
        have hn6 : (((l.map conv36).drop k ++ (l.map conv36).take k)).length = l.length := by simp; omega
        have HN5 := Aside0.mk hn5
        have HN6 := Aside0.mk hn6
        clear R5 h5 hC6 hc6 hn5 hn6
        go_wp2_with (first
          | (go_at_call 19; (with_reducible refine (first_calls k1 A5 _ l.length (l.map conv36) ra rb rc rd_ _ HN5.out H5.out.2.2 (by first | exact H5.out.2.1 | (have h1 := H5.out.2.1; omega)) F1.out).mono ?_); rintro e w3 ⟨rfl, hb3⟩
             have HB3 := Aside0.mk (HB2.out.trans (hb3.mono HB2.out.size))
             have C6 := Aside0.mk (Kd.C_below H6.out hb3)
             clear hb3)
          | (go_at_call 19; (with_reducible refine (first_calls k2 A6 c6 l.length ((l.map conv36).drop k ++ (l.map conv36).take k) ra rb rc rd_ _ HN6.out.symm (Kd.C_alloc C6.out _) HC6.out F2.out).mono ?_); rintro e w4 ⟨rfl, hb4⟩
             have HB4 := Aside0.mk ((below_alloc HB3.out _).trans (hb4.mono (below_alloc HB3.out _).size))
             have BA4 := Aside0.mk (newb hb4)
             clear hb4)
          | (go_at_call 20; (with_reducible refine (souffleurref14_First.calls k3 A c l ra rb rc rd_ _ (Kd.C_below HR.out (below_alloc HB4.out _)) hc F3.out).mono ?_); rintro e w5 ⟨rfl, hb5⟩
             have HB5 := Aside0.mk ((below_alloc HB4.out _).trans (hb5.mono (below_alloc HB4.out _).size))
             have BA5 := Aside0.mk (keepb hb5 BA4.out)
             have BB5 := Aside0.mk (newb hb5)
             clear hb5)
          | (go_at_call 9; (with_reducible refine (alive_calls _).mono ?_); rintro e w6 ⟨rfl, hb6⟩
             have HB6 := Aside0.mk ((below_alloc HB5.out _).trans (hb6.mono (below_alloc HB5.out _).size))
             have BA6 := keepb hb6 BA5.out
             have BB6 := keepb hb6 BB5.out
             have BC6 := newb hb6
             have ca0 := cell_of_row w6 _ 0 _ _ _ BA6
             have ca1 := cell_of_row w6 _ 1 _ _ _ BA6
             have ca2 := cell_of_row w6 _ 2 _ _ _ BA6
             have cb0 := cell_of_row w6 _ 0 _ _ _ BB6
             have cb1 := cell_of_row w6 _ 1 _ _ _ BB6
             have cb2 := cell_of_row w6 _ 2 _ _ _ BB6
             have cc0 := cell_of_row w6 _ 0 _ _ _ BC6
             have cc1 := cell_of_row w6 _ 1 _ _ _ BC6
             have cc2 := cell_of_row w6 _ 2 _ _ _ BC6
             simp only [List.getElem?_toArray, List.getElem?_cons_zero, List.getElem?_cons_succ] at ca0 ca1 ca2 cb0 cb1 cb2 cc0 cc1 cc2
             clear hb6 BA6 BB6 BC6))
        all_goals
          go_ret
          exact ⟨rfl, HB6.out⟩

theorem scoreFirst_walk (A : Option Addr) (c : Nat) (l : List S35) (k : Int) (w : World) (hr : Kd.C k35 w A l.length l) (hc : l.length ≤ c) (hk : (Lit.int .i64 k).wf = true) :
    Calls Try.prog 6 #[.slice A l.length c, .int .i64 k] w fun e w' => e = .returned (.bool true) ∧ Below w.heap.size w w' := by
  have hb := bounds_i64 hk
  by_cases hg : 60 < l.length ∨ k < 0 ∨ (l.length : Int) < k
  · exact scoreFirst_out A c l k w hc (Kd.C_max hr) hb.1 hb.2 hg
  · obtain ⟨k, rfl⟩ : ∃ n : Nat, k = n := ⟨k.toNat, by omega⟩
    exact scoreFirst_in A c l k w hr hc (by omega) (by omega)

end Go.Proofs.Ytcojggiggehbiaa.Pure
