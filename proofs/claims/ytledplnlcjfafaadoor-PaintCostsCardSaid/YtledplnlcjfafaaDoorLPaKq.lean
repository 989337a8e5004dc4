/- Parts of the proof of the law that the last file states; declarations that nothing mentions are left out by a program. No conditions. -/
import Derived.Lib.AppendIntMem
import Derived.Deep.CutBlock
import Derived.Test.YtledplnlcjfafaaDoorLPaFq
set_option linter.unusedVariables false
set_option linter.unusedSimpArgs false
namespace Go.Proofs.YtledplnlcjfafaaDoorL
open Go Go.RowKit Go.Proofs.YtledplnlcjfafaaDoor.K Go.Proofs.YtledplnlcjfafaaDoorW.PrintWords
theorem flatMap_at {α β : Type} {f : α → List β} {n : Nat} : ∀ (l : List α) (hf : ∀ x, (f x).length = n) (j : Nat) (p : α), l[j]? = some p → ∀ i u, (f p)[i]? = some u → (l.flatMap f)[j * n + i]? = some u
  | [], _, j, p, h => by simp at h
  | x :: l, hf, 0, p, h => fun i u hu => by
    rw [List.getElem?_cons_zero, Option.some.injEq] at h
    subst h
    have hi := (List.getElem?_eq_some_iff.1 hu).1
    rw [List.flatMap_cons, Nat.zero_mul, Nat.zero_add, List.getElem?_append_left hi]
    exact hu
  | x :: l, hf, j + 1, p, h => fun i u hu => by
    rw [List.getElem?_cons_succ] at h
    have hx := hf x
    rw [List.flatMap_cons, List.getElem?_append_right (by rw [hx, Nat.succ_mul]; omega), hx, show (j + 1) * n + i - n = j * n + i by rw [Nat.succ_mul]; omega]
    exact flatMap_at l hf j p h i u hu
theorem add0 (b n : Nat) : (⟨b, 0, none⟩ : Addr).add n = ⟨b, n, none⟩ := by
  unfold Addr.add
  simp only [Nat.zero_add]
  split <;> simp_all
theorem built_C {α : Type} {d : Kd α} {enc : α → List Value} (hd : ∀ w x, d.K w x (enc x)) {w : World} {g : Nat} {t : TypeId} {cs : Array Value} (h : Blk w g t cs) (xs : List α) (hcs : cs.toList = xs.flatMap enc) (hn : xs.length ≤ 1000) : d.C w (some ⟨g, 0, none⟩) xs.length xs := by
  refine ⟨rfl, by omega, fun _ => ⟨_, rfl, fun j p hp => ⟨enc p, d.K_len (hd w p), hd w p, fun i u hu => ?_⟩⟩⟩
  have ha : (⟨g, 0, none⟩ : Addr).add (j * d.sz + i) = ⟨g, j * d.sz + i, none⟩ := by
    unfold Addr.add
    simp only [Nat.zero_add]
    split <;> simp_all
  rw [ha]
  refine h.cell _ ?_
  rw [← Array.getElem?_toList, hcs]
  exact flatMap_at xs (fun x => d.K_len (hd w x)) j p hp i u hu
def vL (x : S24) : List Value := [.int .i64 x.f0, .int .i64 x.f1, .string x.f2, .string x.f3, .string x.f4, .string x.f5, .int .i64 x.f6]
def sL (x : S27) : List Value := .int .i64 x.f0 :: vL x.f1
theorem AK.drop {w0 w : World} {g : Nat} {p : Pt} {l : List (Value × List UInt8)} (h : AK w0 w g p l) : AK w0 w g p [] := ⟨h.ps, h.be, h.gx, fun q hq => by cases hq⟩
theorem sizeF_take (m : List (List TC)) : ∀ i (h : i < m.length), sizeF (m.take (i + 1)) = sizeF (m.take i) + sizeR m[i] := by
  induction m with
  | nil => intro i h; simp at h
  | cons r m ih =>
    intro i h
    cases i with
    | zero => show sizeR r + 0 = 0 + sizeR r; omega
    | succ i =>
      have h2 := ih i (by simpa using h)
      show sizeR r + sizeF (m.take (i + 1)) = (sizeR r + sizeF (m.take i)) + sizeR (m[i]'(by simpa using h))
      omega
theorem sizeR_take (l : List TC) : ∀ i (h : i < l.length), sizeR (l.take (i + 1)) = sizeR (l.take i) + (getC l i).S.size := by
  induction l with
  | nil => intro i h; simp at h
  | cons r m ih =>
    intro i h
    cases i with
    | zero => show r.S.size + 0 = 0 + r.S.size; omega
    | succ i =>
      have h2 := ih i (by simpa using h)
      show r.S.size + sizeR (m.take (i + 1)) = (r.S.size + sizeR (m.take i)) + (getC m i).S.size
      omega
theorem sizeR_le {M : Nat} : ∀ (l : List TC), (∀ c ∈ l, c.S.size ≤ M) → sizeR l ≤ l.length * M
  | [], _ => Nat.zero_le _
  | c :: l, h => by
    have h1 := sizeR_le l (fun x hx => h x (.tail _ hx))
    have h2 := h c (.head _)
    show c.S.size + sizeR l ≤ (l.length + 1) * M
    rw [Nat.succ_mul]
    omega
theorem sizeF_le {M : Nat} : ∀ (m : List (List TC)), (∀ r ∈ m, sizeR r ≤ M) → sizeF m ≤ m.length * M
  | [], _ => Nat.zero_le _
  | c :: l, h => by
    have h1 := sizeF_le l (fun x hx => h x (.tail _ hx))
    have h2 := h c (.head _)
    show sizeR c + sizeF l ≤ (l.length + 1) * M
    rw [Nat.succ_mul]
    omega
theorem FK.few {cols : Nat} {f : Fm} (h : FK cols f) : sizeF f.rows ≤ 100000000 ∧ ∀ i, sizeF (f.rows.take i) ≤ 100000000 ∧ ∀ r ∈ f.rows, ∀ j, sizeR (r.take j) ≤ 1000000 := by
  have hr : ∀ r ∈ f.rows, ∀ j, sizeR (r.take j) ≤ 576000 := fun r hr j => by
    have h1 := sizeR_le (M := cellM) (r.take j) (fun c hc => (h.rows r hr).2.2 c (List.mem_of_mem_take hc))
    have h2 : (r.take j).length ≤ 120 := by rw [List.length_take, (h.rows r hr).1]; have := h.c2; omega
    have h3 : (r.take j).length * cellM ≤ 120 * cellM := Nat.mul_le_mul_right _ h2
    have h4 : 120 * cellM = 576000 := by decide
    omega
  have hf : ∀ i, sizeF (f.rows.take i) ≤ 100000000 := fun i => by
    have h1 := sizeF_le (M := 576000) (f.rows.take i) (fun r hm => by have h2 := hr r (List.mem_of_mem_take hm) r.length; rw [List.take_length] at h2; exact h2)
    have h2 : (f.rows.take i).length ≤ 60 := by rw [List.length_take]; have := h.n2; omega
    have h3 : (f.rows.take i).length * 576000 ≤ 60 * 576000 := Nat.mul_le_mul_right _ h2
    omega
  refine ⟨by have h1 := hf f.rows.length; rw [List.take_length] at h1; exact h1, fun i => ⟨hf i, fun r hm j => by have := hr r hm j; omega⟩⟩
set_option maxRecDepth 100000 in
set_option maxHeartbeats 4000000 in
theorem costs_walk (x y : Int) {a b : S24} {W : World} (ha : SizedV a) (hb : SizedV b) (hT : TabsP W) :
    Calls Tryd.prog 3 #[.agg #[.int .i64 x, .int .i64 y], .agg #[.int .i64 a.f0, .int .i64 a.f1, .string a.f2, .string a.f3, .string a.f4, .string a.f5, .int .i64 a.f6], .agg #[.int .i64 b.f0, .int .i64 b.f1, .string b.f2, .string b.f3, .string b.f4, .string b.f5, .int .i64 b.f6]] W fun e W' => e = .returned (.bool true) ∧ Below W.heap.size W W' := by
  have hw3 : Below W.heap.size W (((W.alloc (.cells #[.int .i64 x, .int .i64 y] 22)).alloc (.cells #[.int .i64 a.f0, .int .i64 a.f1, .string a.f2, .string a.f3, .string a.f4, .string a.f5, .int .i64 a.f6] 24)).alloc (.cells #[.int .i64 b.f0, .int .i64 b.f1, .string b.f2, .string b.f3, .string b.f4, .string b.f5, .int .i64 b.f6] 24)) := (((Below.refl _ W).alloc (Nat.le_refl _) _).alloc (by simp) _).alloc (by simp; omega) _
  have Y0 := ((Blk.new W 22 #[.int .i64 x, .int .i64 y]).alloc (.cells #[.int .i64 a.f0, .int .i64 a.f1, .string a.f2, .string a.f3, .string a.f4, .string a.f5, .int .i64 a.f6] 24)).alloc (.cells #[.int .i64 b.f0, .int .i64 b.f1, .string b.f2, .string b.f3, .string b.f4, .string b.f5, .int .i64 b.f6] 24)
  have Y1 := (Blk.new (W.alloc (.cells #[.int .i64 x, .int .i64 y] 22)) 24 #[.int .i64 a.f0, .int .i64 a.f1, .string a.f2, .string a.f3, .string a.f4, .string a.f5, .int .i64 a.f6]).alloc (.cells #[.int .i64 b.f0, .int .i64 b.f1, .string b.f2, .string b.f3, .string b.f4, .string b.f5, .int .i64 b.f6] 24)
  have Y2 := Blk.new ((W.alloc (.cells #[.int .i64 x, .int .i64 y] 22)).alloc (.cells #[.int .i64 a.f0, .int .i64 a.f1, .string a.f2, .string a.f3, .string a.f4, .string a.f5, .int .i64 a.f6] 24)) 24 #[.int .i64 b.f0, .int .i64 b.f1, .string b.f2, .string b.f3, .string b.f4, .string b.f5, .int .i64 b.f6]
  have n1 : (W.alloc (.cells #[.int .i64 x, .int .i64 y] 22)).heap.size = W.heap.size + 1 := World.size_alloc ..
  have n2 : ((W.alloc (.cells #[.int .i64 x, .int .i64 y] 22)).alloc (.cells #[.int .i64 a.f0, .int .i64 a.f1, .string a.f2, .string a.f3, .string a.f4, .string a.f5, .int .i64 a.f6] 24)).heap.size = W.heap.size + 1 + 1 := by rw [World.size_alloc, n1]
  have n3 : (((W.alloc (.cells #[.int .i64 x, .int .i64 y] 22)).alloc (.cells #[.int .i64 a.f0, .int .i64 a.f1, .string a.f2, .string a.f3, .string a.f4, .string a.f5, .int .i64 a.f6] 24)).alloc (.cells #[.int .i64 b.f0, .int .i64 b.f1, .string b.f2, .string b.f3, .string b.f4, .string b.f5, .int .i64 b.f6] 24)).heap.size = W.heap.size + 1 + 1 + 1 := by rw [World.size_alloc, n2]
  rw [n1] at Y1
  rw [n2] at Y2
  have BSB := Blk.new (((W.alloc (.cells #[.int .i64 x, .int .i64 y] 22)).alloc (.cells #[.int .i64 a.f0, .int .i64 a.f1, .string a.f2, .string a.f3, .string a.f4, .string a.f5, .int .i64 a.f6] 24)).alloc (.cells #[.int .i64 b.f0, .int .i64 b.f1, .string b.f2, .string b.f3, .string b.f4, .string b.f5, .int .i64 b.f6] 24)) 27 #[.int .i64 0, .int .i64 a.f0, .int .i64 a.f1, .string a.f2, .string a.f3, .string a.f4, .string a.f5, .int .i64 a.f6, .int .i64 0, .int .i64 b.f0, .int .i64 b.f1, .string b.f2, .string b.f3, .string b.f4, .string b.f5, .int .i64 b.f6]
  rw [n3] at BSB
  have hal := (Below.refl _ (((W.alloc (.cells #[.int .i64 x, .int .i64 y] 22)).alloc (.cells #[.int .i64 a.f0, .int .i64 a.f1, .string a.f2, .string a.f3, .string a.f4, .string a.f5, .int .i64 a.f6] 24)).alloc (.cells #[.int .i64 b.f0, .int .i64 b.f1, .string b.f2, .string b.f3, .string b.f4, .string b.f5, .int .i64 b.f6] 24))).alloc (Nat.le_refl _) (.cells #[.int .i64 0, .int .i64 a.f0, .int .i64 a.f1, .string a.f2, .string a.f3, .string a.f4, .string a.f5, .int .i64 a.f6, .int .i64 0, .int .i64 b.f0, .int .i64 b.f1, .string b.f2, .string b.f3, .string b.f4, .string b.f5, .int .i64 b.f6] 27)
  obtain ⟨kf, r, hf, hfew, _⟩ := few_tellsS [⟨0, a⟩, ⟨0, b⟩] (by show 2 ≤ 4000000000000000000; omega) (by intro z hz; rcases List.mem_cons.1 hz with rfl | hz; exact ha; rw [List.mem_singleton.1 hz]; exact hb)
  have X : Hd (Calls Tryd.prog 4 #[.slice (some ⟨W.heap.size + 1 + 1 + 1, 0, none⟩) 2 2] ((((W.alloc (.cells #[.int .i64 x, .int .i64 y] 22)).alloc (.cells #[.int .i64 a.f0, .int .i64 a.f1, .string a.f2, .string a.f3, .string a.f4, .string a.f5, .int .i64 a.f6] 24)).alloc (.cells #[.int .i64 b.f0, .int .i64 b.f1, .string b.f2, .string b.f3, .string b.f4, .string b.f5, .int .i64 b.f6] 24)).alloc (.cells #[.int .i64 0, .int .i64 a.f0, .int .i64 a.f1, .string a.f2, .string a.f3, .string a.f4, .string a.f5, .int .i64 a.f6, .int .i64 0, .int .i64 b.f0, .int .i64 b.f1, .string b.f2, .string b.f3, .string b.f4, .string b.f5, .int .i64 b.f6] 27)) fun e w' => e = .returned (.bool r) ∧ Below ((((W.alloc (.cells #[.int .i64 x, .int .i64 y] 22)).alloc (.cells #[.int .i64 a.f0, .int .i64 a.f1, .string a.f2, .string a.f3, .string a.f4, .string a.f5, .int .i64 a.f6] 24)).alloc (.cells #[.int .i64 b.f0, .int .i64 b.f1, .string b.f2, .string b.f3, .string b.f4, .string b.f5, .int .i64 b.f6] 24)).alloc (.cells #[.int .i64 0, .int .i64 a.f0, .int .i64 a.f1, .string a.f2, .string a.f3, .string a.f4, .string a.f5, .int .i64 a.f6, .int .i64 0, .int .i64 b.f0, .int .i64 b.f1, .string b.f2, .string b.f3, .string b.f4, .string b.f5, .int .i64 b.f6] 27)).heap.size ((((W.alloc (.cells #[.int .i64 x, .int .i64 y] 22)).alloc (.cells #[.int .i64 a.f0, .int .i64 a.f1, .string a.f2, .string a.f3, .string a.f4, .string a.f5, .int .i64 a.f6] 24)).alloc (.cells #[.int .i64 b.f0, .int .i64 b.f1, .string b.f2, .string b.f3, .string b.f4, .string b.f5, .int .i64 b.f6] 24)).alloc (.cells #[.int .i64 0, .int .i64 a.f0, .int .i64 a.f1, .string a.f2, .string a.f3, .string a.f4, .string a.f5, .int .i64 a.f6, .int .i64 0, .int .i64 b.f0, .int .i64 b.f1, .string b.f2, .string b.f3, .string b.f4, .string b.f5, .int .i64 b.f6] 27)) w') := ⟨souffleurlaw19_few.calls kf (some ⟨W.heap.size + 1 + 1 + 1, 0, none⟩) 2 [⟨0, a⟩, ⟨0, b⟩] r _ (built_C (enc := sL) (fun w z => k27_mk w z) BSB [⟨0, a⟩, ⟨0, b⟩] rfl (by show 2 ≤ 1000; omega)) (Nat.le_refl _) hf⟩
  have HFEW := Hd.mk hfew
  have HT := Hd.mk hT
  have HW3 := Hd.mk (hw3.trans (hal.mono (by rw [n3]; omega)))
  have HY0 := Hd.mk (Y0.belowW hal)
  have HY1 := Hd.mk (Y1.belowW hal)
  have HY2 := Hd.mk (Y2.belowW hal)
  obtain ⟨u0, u1, u2, u3, u4, u5, u6, _⟩ := Blk.seven Y1
  obtain ⟨v0, v1, v2, v3, v4, v5, v6, _⟩ := Blk.seven Y2
  clear hf hfew hT hw3 hal Y0 Y1 Y2 BSB n1 n2 n3 ha hb
  skip
  go_enter Tryd.func3, Tryd.ntmps3
  go_wp2_with fail
  go_at_call 4
  with_reducible refine X.out.mono ?_
  rintro _ w1 ⟨rfl, hb⟩
  have HB1 := Hd.mk (HW3.out.trans (hb.mono HW3.out.size))
  replace HY0 := Hd.mk (HY0.out.belowW hb)
  replace HY1 := Hd.mk (HY1.out.belowW hb)
  replace HY2 := Hd.mk (HY2.out.belowW hb)
  clear hb X HW3 u0 u1 u2 u3 u4 u5 u6 v0 v1 v2 v3 v4 v5 v6
  have T1 : Hd (TabsP w1) := ⟨⟨Utf8Tabs_below HT.out.u HB1.out, Lib.tabBelow_of_tabIs HT.out.p _ HB1.out, Nat.lt_of_lt_of_le HT.out.lt HB1.out.size⟩⟩
  cases r with
  | false =>
    have X := Hd.mk (alive19_calls w1 T1.out.u T1.out.p T1.out.lt)
    go_wp2_with fail
    go_at_call 5
    with_reducible refine X.out.mono ?_
    rintro _ w2 ⟨rfl, hb⟩
    have HE := Hd.mk (HB1.out.trans (hb.mono HB1.out.size))
    clear hb X
    go_wp2
    go_ret
    exact ⟨rfl, HE.out⟩
  | true =>
    replace HFEW := Hd.mk (HFEW.out (by trivial))
    have X := Hd.mk (ps_new w1 T1.out.p T1.out.lt)
    go_wp2_with fail
    go_at_call 6
    with_reducible refine X.out.mono ?_
    rintro _ w2 ⟨rfl, hps, hb⟩
    replace HY0 := Hd.mk (HY0.out.belowW hb)
    replace HY1 := Hd.mk (HY1.out.belowW hb)
    replace HY2 := Hd.mk (HY2.out.belowW hb)
    have HA : Hd (AK W w2 w1.heap.size ptNew []) := ⟨⟨hps, HB1.out.trans (hb.mono HB1.out.size), HB1.out.size, fun q hq => by cases hq⟩⟩
    clear hb hps X T1 HB1
    generalize w1.heap.size = g at *
    obtain ⟨e0, e1⟩ : w2.cell? ⟨W.heap.size, 0, none⟩ = some (.int .i64 x) ∧ w2.cell? ⟨W.heap.size, 1, none⟩ = some (.int .i64 y) := ⟨HY0.out.cell 0 rfl, HY0.out.cell 1 rfl⟩
    have X := Hd.mk (cut19_calls x y w2)
    go_wp2_with fail
    go_at_call 7
    with_reducible refine X.out.mono ?_
    rintro _ w4 ⟨rfl, hb⟩
    replace HA := Hd.mk (HA.out.call hb)
    replace HY1 := Hd.mk (HY1.out.belowW hb)
    replace HY2 := Hd.mk (HY2.out.belowW hb)
    clear hb X HY0 e0 e1
    have HCR : Hd (cutN ((cutN x 60 : Nat) : Int) 60 = cutN x 60 ∧ cutN ((cutN y 120 : Nat) : Int) 120 = cutN y 120) := ⟨cutN_again x 60 (by omega), cutN_again y 120 (by omega)⟩
    generalize cutN x 60 = rr at *
    generalize cutN y 120 = cc at *
    obtain ⟨u0, u1, u2, u3, u4, u5, u6, _⟩ := Blk.seven HY1.out
    obtain ⟨v0, v1, v2, v3, v4, v5, v6, _⟩ := Blk.seven HY2.out
    have hal := (Below.refl _ w4).alloc (Nat.le_refl _) (.cells #[.int .i64 a.f0, .int .i64 a.f1, .string a.f2, .string a.f3, .string a.f4, .string a.f5, .int .i64 a.f6, .int .i64 b.f0, .int .i64 b.f1, .string b.f2, .string b.f3, .string b.f4, .string b.f5, .int .i64 b.f6, .int .i64 b.f0, .int .i64 b.f1, .string b.f2, .string b.f3, .string b.f4, .string b.f5, .int .i64 b.f6] 24)
    have HVB := Hd.mk (Blk.new w4 24 #[.int .i64 a.f0, .int .i64 a.f1, .string a.f2, .string a.f3, .string a.f4, .string a.f5, .int .i64 a.f6, .int .i64 b.f0, .int .i64 b.f1, .string b.f2, .string b.f3, .string b.f4, .string b.f5, .int .i64 b.f6, .int .i64 b.f0, .int .i64 b.f1, .string b.f2, .string b.f3, .string b.f4, .string b.f5, .int .i64 b.f6])
    replace HA := Hd.mk (HA.out.call hal)
    clear hal HY1 HY2
    have HSX : Hd (lenS ⟨0, a⟩ ≤ 3000 ∧ lenS ⟨0, b⟩ ≤ 3000) := ⟨⟨Nat.le_trans (lenSumS_mem (l := [⟨0, a⟩, ⟨0, b⟩]) (.head _)) HFEW.out.2, Nat.le_trans (lenSumS_mem (l := [⟨0, a⟩, ⟨0, b⟩]) (.tail _ (.head _))) HFEW.out.2⟩⟩
    clear HFEW
    go_wp2_with fail
    clear u0 u1 u2 u3 u4 u5 u6 v0 v1 v2 v3 v4 v5 v6
    go_loopg [10, 41] 3 (fun gk v10 v41 wx => ∃ (k : Nat) (p : Pt), v10 = .int .i64 (p.last.rows.length : Int) ∧ v41 = .int .i64 (k : Int) ∧ k + gk = 3 ∧ Hd (PtK cc p) ∧ Hd (AK W wx g p []) ∧ Hd (Blk wx w4.heap.size 24 #[.int .i64 a.f0, .int .i64 a.f1, .string a.f2, .string a.f3, .string a.f4, .string a.f5, .int .i64 a.f6, .int .i64 b.f0, .int .i64 b.f1, .string b.f2, .string b.f3, .string b.f4, .string b.f5, .int .i64 b.f6, .int .i64 b.f0, .int .i64 b.f1, .string b.f2, .string b.f3, .string b.f4, .string b.f5, .int .i64 b.f6]))
    case atStart => exact ⟨0, ptNew, rfl, rfl, by omega, ⟨PtK.new cc⟩, HA, HVB⟩
    case round =>
      clear HA HVB
      obtain ⟨k, p, rfl, rfl, hk, HK, HA, HVB⟩ := hrel
      cases gk with
      | zero =>
        have hlt : decide ((k : Int) < 3) = false := decide_eq_false (by omega)
        have hlt2 : decide (k < 3) = false := decide_eq_false (by omega)
        have hlt3 : ¬ (k : Int) < 3 := by omega
        have hlt4 : ¬ k < 3 := by omega
        have X := Hd.mk (alive19_calls wr (Utf8Tabs_below HT.out.u HA.out.be) (Lib.tabBelow_of_tabIs HT.out.p _ HA.out.be) (Nat.lt_of_lt_of_le HT.out.lt HA.out.size))
        go_wp2_with fail
        go_at_call 5
        with_reducible refine X.out.mono ?_
        rintro _ w5 ⟨rfl, hb⟩
        have HE := Hd.mk (HA.out.be.trans (hb.mono HA.out.size))
        clear hb X
        go_wp2
        go_ret
        exact ⟨rfl, HE.out⟩
      | succ d =>
        have hlt : decide ((k : Int) < 3) = true := decide_eq_true (by omega)
        have hlt2 : decide (k < 3) = true := decide_eq_true (by omega)
        have hlt3 : (k : Int) < 3 := by omega
        have hlt4 : k < 3 := by omega
        have hk0 : (0 : Int) ≤ (k : Int) := Int.natCast_nonneg _
        have hC := built_C (enc := vL) (fun w z => k24_mk w z) HVB.out [a, b, b] rfl (by show 3 ≤ 1000; omega)
        obtain ⟨ad, hA, q0, q1, q2, q3, q4, q5, q6⟩ := at_T24 hC (k : Int) hk0 hlt3
        obtain rfl := Option.some.inj hA
        have HXS : Hd (lenS ⟨0, rd_T24 [a, b, b] (k : Int)⟩ ≤ 3000) := ⟨by have h1 := HSX.out; match k, hlt4 with | 0, _ => exact h1.1 | 1, _ => exact h1.2 | 2, _ => exact h1.2⟩
        clear hC hA
        generalize rd_T24 [a, b, b] (k : Int) = x at *
        simp only [Int.toNat_natCast] at q0 q1 q2 q3 q4 q5 q6
        simp only [add0] at q0 q1 q2 q3 q4 q5 q6
        have n1 : (wr.alloc (.cells #[.int .i64 x.f0, .int .i64 x.f1, .string x.f2, .string x.f3, .string x.f4, .string x.f5, .int .i64 x.f6] 24)).heap.size = wr.heap.size + 1 := World.size_alloc ..
        have BX := (Blk.new wr 24 #[.int .i64 x.f0, .int .i64 x.f1, .string x.f2, .string x.f3, .string x.f4, .string x.f5, .int .i64 x.f6]).alloc (.cells #[.int .i64 x.f0, .int .i64 x.f1, .string x.f2, .string x.f3, .string x.f4, .string x.f5, .int .i64 x.f6] 35)
        have BV := Blk.new (wr.alloc (.cells #[.int .i64 x.f0, .int .i64 x.f1, .string x.f2, .string x.f3, .string x.f4, .string x.f5, .int .i64 x.f6] 24)) 35 #[.int .i64 x.f0, .int .i64 x.f1, .string x.f2, .string x.f3, .string x.f4, .string x.f5, .int .i64 x.f6]
        rw [n1] at BV
        clear n1
        obtain ⟨x0, x1, x2, x3, x4, x5, x6, _⟩ := Blk.seven (Blk.new wr 24 #[.int .i64 x.f0, .int .i64 x.f1, .string x.f2, .string x.f3, .string x.f4, .string x.f5, .int .i64 x.f6])
        go_upto_region 12 with fail
        have f0 := BV.frozen 0
        have f1 := BV.frozen 1
        have v0 := BV.cell 0 rfl
        have v1 := BV.cell 1 rfl
        go_upto_region 13 with fail
        clear f0 f1 v0 v1 BV BX q0 q1 q2 q3 q4 q5 q6 x0 x1 x2 x3 x4 x5 x6
        have BV2 := Blk.new (wr.alloc (.cells #[.int .i64 x.f0, .int .i64 x.f1, .string x.f2, .string x.f3, .string x.f4, .string x.f5, .int .i64 x.f6] 24)) 35 #[.int .i64 (rr : Int), .int .i64 (cc : Int), .string x.f2, .string x.f3, .string x.f4, .string x.f5, .int .i64 x.f6]
        rw [World.size_alloc] at BV2
        have HBV := Hd.mk BV2
        clear BV2
        have hbl : Below wr.heap.size wr ((wr.alloc (.cells #[.int .i64 x.f0, .int .i64 x.f1, .string x.f2, .string x.f3, .string x.f4, .string x.f5, .int .i64 x.f6] 24)).alloc (.cells #[.int .i64 (rr : Int), .int .i64 (cc : Int), .string x.f2, .string x.f3, .string x.f4, .string x.f5, .int .i64 x.f6] 35)) := (((Below.refl _ wr).alloc (Nat.le_refl _) _).alloc (by simp) _)
        replace HA := Hd.mk (HA.out.call hbl)
        replace HVB := Hd.mk (HVB.out.belowW hbl)
        clear hbl
        generalize (wr.alloc (.cells #[.int .i64 x.f0, .int .i64 x.f1, .string x.f2, .string x.f3, .string x.f4, .string x.f5, .int .i64 x.f6] 24)).alloc (.cells #[.int .i64 (rr : Int), .int .i64 (cc : Int), .string x.f2, .string x.f3, .string x.f4, .string x.f5, .int .i64 x.f6] 35) = w5 at *
        generalize wr.heap.size = xb at *
        obtain ⟨v, hv⟩ : ∃ v : Vw, v = (⟨(rr : Int), (cc : Int), x.f2, x.f3, x.f4, x.f5, x.f6⟩ : Vw) := ⟨_, rfl⟩
        have hvw : vwV v = #[.int .i64 (rr : Int), .int .i64 (cc : Int), .string x.f2, .string x.f3, .string x.f4, .string x.f5, .int .i64 x.f6] := by rw [hv]; rfl
        have fk : FK cc (ofP v) := by have h1 := ofP_ok v; rw [hv] at h1 ⊢; rw [show cutN ((⟨(rr : Int), (cc : Int), x.f2, x.f3, x.f4, x.f5, x.f6⟩ : Vw)).cols 120 = cc from HCR.out.2] at h1; exact h1
        have X : Hd (Calls Tryd.prog 8 #[.agg #[.int .i64 (rr : Int), .int .i64 (cc : Int), .string x.f2, .string x.f3, .string x.f4, .string x.f5, .int .i64 x.f6]] w5 fun e W' => ∃ (lv : Value) (L : List RR), e = .returned (.agg #[lv, .int .i64 ((ofP v).row : Int), .int .i64 ((ofP v).col : Int)]) ∧ RowsO (fun k => w5.heap.size ≤ k) W' lv L (ofP v).rows ∧ Below w5.heap.size w5 W') := ⟨by rw [← hvw]; have h1 := HXS.out; unfold lenS at h1; dsimp only at h1; exact of_calls_ v (by rw [hv]; show x.f2.size ≤ _; omega) (by rw [hv]; show x.f3.size ≤ _; omega) (by rw [hv]; show x.f4.size ≤ _; omega) (by rw [hv]; show x.f5.size ≤ _; omega) w5 (Utf8Tabs_below HT.out.u HA.out.be)⟩
        have HFK := Hd.mk fk
        generalize ofP v = f at *
        clear hv hvw fk v
        obtain ⟨y0, y1, y2, y3, y4, y5, y6, y7⟩ := Blk.seven HBV.out
        go_wp2_with fail
        go_at_call 8
        with_reducible refine X.out.mono ?_
        rintro _ w6 ⟨lv, Lf, rfl, hr, hb⟩
        obtain ⟨Af, cf, rfl, _⟩ := Kd.Q_slice hr.q
        clear y0 y1 y2 y3 y4 y5 y6 y7 HBV X
        have hlen := hr.len
        have hal := (Below.refl _ w6).alloc (Nat.le_refl _) (.cells #[.slice Af Lf.length cf, .int .i64 (f.row : Int), .int .i64 (f.col : Int)] 38)
        have HRO := Hd.mk ((hr.below hal).mono (P' := fun _ => True) (fun _ _ => trivial))
        have HFB := Hd.mk (Blk.new w6 38 #[.slice Af Lf.length cf, .int .i64 (f.row : Int), .int .i64 (f.col : Int)])
        replace HA := Hd.mk ((HA.out.call hb).call hal)
        replace HVB := Hd.mk ((HVB.out.belowW hb).belowW hal)
        clear hr hb hal
        rw [hlen] at HA HVB HRO HFB ⊢
        clear hlen
        obtain ⟨z0, z1, z2⟩ := Blk.three HFB.out
        have hfn : (f.rows.length : Int) ≤ 60 := by have := HFK.out.n2; omega
        go_wp2_with fail
        generalize hw7 : w6.alloc (.cells #[.slice Af f.rows.length cf, .int .i64 (f.row : Int), .int .i64 (f.col : Int)] 38) = w7 at *
        generalize w6.heap.size = fb at *
        clear hw7 z0 z1 z2
        go_loopg [15, 55] f.rows.length (fun gk v15 v55 wx => ∃ (i : Nat), v15 = .int .i64 (sizeF (f.rows.take i) : Int) ∧ v55 = .int .i64 (i : Int) ∧ i + gk = f.rows.length ∧ Hd (AK W wx g p []) ∧ Hd (Blk wx w4.heap.size 24 #[.int .i64 a.f0, .int .i64 a.f1, .string a.f2, .string a.f3, .string a.f4, .string a.f5, .int .i64 a.f6, .int .i64 b.f0, .int .i64 b.f1, .string b.f2, .string b.f3, .string b.f4, .string b.f5, .int .i64 b.f6, .int .i64 b.f0, .int .i64 b.f1, .string b.f2, .string b.f3, .string b.f4, .string b.f5, .int .i64 b.f6]) ∧ Hd (Blk wx fb 38 #[.slice Af f.rows.length cf, .int .i64 (f.row : Int), .int .i64 (f.col : Int)]) ∧ Hd (RowsO (fun _ => True) wx (.slice Af f.rows.length cf) Lf f.rows))
        case atStart => exact ⟨0, rfl, rfl, by omega, HA, HVB, HFB, HRO⟩
        case round =>
          clear HA HVB HFB HRO
          obtain ⟨i, rfl, rfl, hi, HA, HVB, HFB, HRO⟩ := hrel
          rename_i wi
          cases gk with
          | zero =>
            have hjt : decide ((i : Int) < (f.rows.length : Int)) = false := decide_eq_false (by omega)
            have hjt2 : ¬ (i : Int) < (f.rows.length : Int) := by omega
            have hjt3 : decide (i < f.rows.length) = false := decide_eq_false (by omega)
            have htx : sizeF (f.rows.take i) = sizeF f.rows := by rw [List.take_of_length_le (by omega)]
            rw [htx]
            have hdf := draw_few HK.out HFK.out
            have ht1 := HFK.out.few.1
            have hn1 := HFK.out.n2
            have hcc := HFK.out.c2
            have hlm := HK.out.len.2
            generalize sizeF f.rows = tx at *
            have hmul : 8 * f.rows.length * cc ≤ 8 * 60 * 120 := Nat.mul_le_mul (by omega) hcc
            have hcast : ((8 * f.rows.length * cc : Nat) : Int) = 8 * (f.rows.length : Int) * (cc : Int) := by rw [Int.natCast_mul, Int.natCast_mul]; rfl
            have hm1 : (0 : Int) ≤ 8 * (f.rows.length : Int) * (cc : Int) := by omega
            have hm2 : 8 * (f.rows.length : Int) * (cc : Int) ≤ 57600 := by omega
            have hle : ((p.draw f).b.length : Int) ≤ (tx : Int) + 8 * (f.rows.length : Int) * (cc : Int) + 24 * ((f.rows.length : Int) + (p.last.rows.length : Int)) + 24 := by omega
            have hm6 : (p.last.rows.length : Int) ≤ 1000 := by omega
            have ht2 : (tx : Int) ≤ 100000000 := by omega
            have hn2 : (f.rows.length : Int) ≤ 60 := by omega
            clear htx hdf ht1 hn1 hcc hlm hmul hcast
            go_upto_region 24 with fail
            rename_i KQ hKQ
            refine regionH (fun w' : World => Blk w' fb 38 #[.slice Af f.rows.length cf, .int .i64 (f.row : Int), .int .i64 (f.col : Int)]) (by kernel_rfl) (fun wd hb => ?_)
            replace HA := Hd.mk (HA.out.call hb)
            replace HVB := Hd.mk (HVB.out.belowW hb)
            replace HFB := Hd.mk (HFB.out.belowW hb)
            replace HRO := Hd.mk (HRO.out.below hb)
            clear hb
            have hHd : (fun w' : World => Blk w' fb 38 #[.slice Af f.rows.length cf, .int .i64 (f.row : Int), .int .i64 (f.col : Int)]) wd := HFB.out
            refine takeH (i := 0) (v := ?v1) rfl (by kernel_rfl) (by kernel_rfl) (by kernel_rfl) (fun _ _ _ h => h) (Or.inl ⟨by rfl, ?hy1⟩) (by assumption) ?rest1
            case hy1 => (intro w hSw; (try dsimp only at hSw); go_simp; try (with_reducible rfl))
            case rest1 =>
            try simp only [Act.put, List.setIfInBounds_toArray, List.set_cons_zero, List.set_cons_succ]
            refine takeH (i := 1) (v := (.agg #[.slice Af f.rows.length cf, .int .i64 (f.row : Int), .int .i64 (f.col : Int)])) rfl (by kernel_rfl) (by kernel_rfl) (by kernel_rfl) (fun _ _ _ h => h) (Or.inl ⟨by rfl, ?hy2⟩) (by assumption) ?rest2
            case hy2 => (intro w hSw; (try dsimp only at hSw); obtain ⟨b0, b1, b2⟩ := Blk.three hSw; go_simp; first | done | (with_reducible rfl) | rfl)
            case rest2 =>
            try simp only [Act.put, List.setIfInBounds_toArray, List.set_cons_zero, List.set_cons_succ]
            refine takeH (i := 4) (v := ?v3) rfl (by kernel_rfl) (by kernel_rfl) (by kernel_rfl) (fun _ _ _ h => h) (Or.inl ⟨by rfl, ?hy3⟩) (by assumption) ?rest3
            case hy3 => (intro w hSw; (try dsimp only at hSw); go_simp; try (with_reducible rfl))
            case rest3 =>
            try simp only [Act.put, List.setIfInBounds_toArray, List.set_cons_zero, List.set_cons_succ]
            refine takeH (i := 5) (v := ?v4) rfl (by kernel_rfl) (by kernel_rfl) (by kernel_rfl) (fun _ _ _ h => h) (Or.inl ⟨by rfl, ?hy4⟩) (by assumption) ?rest4
            case hy4 => (intro w hSw; (try dsimp only at hSw); go_simp; try (with_reducible rfl))
            case rest4 =>
            try simp only [Act.put, List.setIfInBounds_toArray, List.set_cons_zero, List.set_cons_succ]
            refine takeH (i := 6) (v := ?v5) rfl (by kernel_rfl) (by kernel_rfl) (by kernel_rfl) (fun _ _ _ h => h) (Or.inl ⟨by rfl, ?hy5⟩) (by assumption) ?rest5
            case hy5 => (intro w hSw; (try dsimp only at hSw); obtain ⟨b0, b1, b2⟩ := Blk.three hSw; go_simp; first | done | (with_reducible rfl) | rfl)
            case rest5 =>
            try simp only [Act.put, List.setIfInBounds_toArray, List.set_cons_zero, List.set_cons_succ]
            refine takeH (i := 7) (v := ?v6) rfl (by kernel_rfl) (by kernel_rfl) (by kernel_rfl) (fun _ _ _ h => h) (Or.inl ⟨by rfl, ?hy6⟩) (by assumption) ?rest6
            case hy6 => (intro w hSw; (try dsimp only at hSw); go_simp; try (with_reducible rfl))
            case rest6 =>
            try simp only [Act.put, List.setIfInBounds_toArray, List.set_cons_zero, List.set_cons_succ]
            refine takeH (i := 8) (v := (.int .i64 (8 * (f.rows.length : Int)))) rfl (by kernel_rfl) (by kernel_rfl) (by kernel_rfl) (fun _ _ _ h => h) (Or.inl ⟨by rfl, ?hy7⟩) (by assumption) ?rest7
            case hy7 => (intro w hSw; (try dsimp only at hSw); go_simp; first | done | (with_reducible rfl) | (rw [IntKind.wrap_i64]; omega) | (congr 1; rw [IntKind.wrap_i64]; omega))
            case rest7 =>
            try simp only [Act.put, List.setIfInBounds_toArray, List.set_cons_zero, List.set_cons_succ]
            refine takeH (i := 9) (v := ?v8) rfl (by kernel_rfl) (by kernel_rfl) (by kernel_rfl) (fun _ _ _ h => h) (Or.inl ⟨by rfl, ?hy8⟩) (by assumption) ?rest8
            case hy8 => (intro w hSw; (try dsimp only at hSw); go_simp; try (with_reducible rfl))
            case rest8 =>
            try simp only [Act.put, List.setIfInBounds_toArray, List.set_cons_zero, List.set_cons_succ]
            refine takeH (i := 10) (v := (.int .i64 (8 * (f.rows.length : Int) * (cc : Int)))) rfl (by kernel_rfl) (by kernel_rfl) (by kernel_rfl) (fun _ _ _ h => h) (Or.inl ⟨by rfl, ?hy9⟩) (by assumption) ?rest9
            case hy9 => (intro w hSw; (try dsimp only at hSw); go_simp; first | done | (with_reducible rfl) | (rw [IntKind.wrap_i64]; omega) | (congr 1; rw [IntKind.wrap_i64]; omega))
            case rest9 =>
            try simp only [Act.put, List.setIfInBounds_toArray, List.set_cons_zero, List.set_cons_succ]
            refine takeH (i := 11) (v := (.int .i64 ((tx : Int) + 8 * (f.rows.length : Int) * (cc : Int)))) rfl (by kernel_rfl) (by kernel_rfl) (by kernel_rfl) (fun _ _ _ h => h) (Or.inl ⟨by rfl, ?hy10⟩) (by assumption) ?rest10
            case hy10 => (intro w hSw; (try dsimp only at hSw); go_simp; first | done | (with_reducible rfl) | (rw [IntKind.wrap_i64]; omega) | (congr 1; rw [IntKind.wrap_i64]; omega))
            case rest10 =>
            try simp only [Act.put, List.setIfInBounds_toArray, List.set_cons_zero, List.set_cons_succ]
            refine takeH (i := 12) (v := ?v11) rfl (by kernel_rfl) (by kernel_rfl) (by kernel_rfl) (fun _ _ _ h => h) (Or.inl ⟨by rfl, ?hy11⟩) (by assumption) ?rest11
            case hy11 => (intro w hSw; (try dsimp only at hSw); go_simp; try (with_reducible rfl))
            case rest11 =>
            try simp only [Act.put, List.setIfInBounds_toArray, List.set_cons_zero, List.set_cons_succ]
            refine takeH (i := 13) (v := ?v12) rfl (by kernel_rfl) (by kernel_rfl) (by kernel_rfl) (fun _ _ _ h => h) (Or.inl ⟨by rfl, ?hy12⟩) (by assumption) ?rest12
            case hy12 => (intro w hSw; (try dsimp only at hSw); obtain ⟨b0, b1, b2⟩ := Blk.three hSw; go_simp; first | done | (with_reducible rfl) | rfl)
            case rest12 =>
            try simp only [Act.put, List.setIfInBounds_toArray, List.set_cons_zero, List.set_cons_succ]
            refine takeH (i := 14) (v := ?v13) rfl (by kernel_rfl) (by kernel_rfl) (by kernel_rfl) (fun _ _ _ h => h) (Or.inl ⟨by rfl, ?hy13⟩) (by assumption) ?rest13
            case hy13 => (intro w hSw; (try dsimp only at hSw); go_simp; try (with_reducible rfl))
            case rest13 =>
            try simp only [Act.put, List.setIfInBounds_toArray, List.set_cons_zero, List.set_cons_succ]
            refine takeH (i := 15) (v := ?v14) rfl (by kernel_rfl) (by kernel_rfl) (by kernel_rfl) (fun _ _ _ h => h) (Or.inl ⟨by rfl, ?hy14⟩) (by assumption) ?rest14
            case hy14 => (intro w hSw; (try dsimp only at hSw); go_simp; try (with_reducible rfl))
            case rest14 =>
            try simp only [Act.put, List.setIfInBounds_toArray, List.set_cons_zero, List.set_cons_succ]
            refine takeH (i := 16) (v := (.int .i64 ((f.rows.length : Int) + (p.last.rows.length : Int)))) rfl (by kernel_rfl) (by kernel_rfl) (by kernel_rfl) (fun _ _ _ h => h) (Or.inl ⟨by rfl, ?hy15⟩) (by assumption) ?rest15
            case hy15 => (intro w hSw; (try dsimp only at hSw); go_simp; first | done | (with_reducible rfl) | (rw [IntKind.wrap_i64]; omega) | (congr 1; rw [IntKind.wrap_i64]; omega))
            case rest15 =>
            try simp only [Act.put, List.setIfInBounds_toArray, List.set_cons_zero, List.set_cons_succ]
            refine takeH (i := 17) (v := (.int .i64 (24 * ((f.rows.length : Int) + (p.last.rows.length : Int))))) rfl (by kernel_rfl) (by kernel_rfl) (by kernel_rfl) (fun _ _ _ h => h) (Or.inl ⟨by rfl, ?hy16⟩) (by assumption) ?rest16
            case hy16 => (intro w hSw; (try dsimp only at hSw); go_simp; first | done | (with_reducible rfl) | (rw [IntKind.wrap_i64]; omega) | (congr 1; rw [IntKind.wrap_i64]; omega))
            case rest16 =>
            try simp only [Act.put, List.setIfInBounds_toArray, List.set_cons_zero, List.set_cons_succ]
            refine takeH (i := 18) (v := (.int .i64 ((tx : Int) + 8 * (f.rows.length : Int) * (cc : Int) + 24 * ((f.rows.length : Int) + (p.last.rows.length : Int))))) rfl (by kernel_rfl) (by kernel_rfl) (by kernel_rfl) (fun _ _ _ h => h) (Or.inl ⟨by rfl, ?hy17⟩) (by assumption) ?rest17
            case hy17 => (intro w hSw; (try dsimp only at hSw); go_simp; first | done | (with_reducible rfl) | (rw [IntKind.wrap_i64]; omega) | (congr 1; rw [IntKind.wrap_i64]; omega))
            case rest17 =>
            try simp only [Act.put, List.setIfInBounds_toArray, List.set_cons_zero, List.set_cons_succ]
            refine takeH (i := 19) (v := (.int .i64 ((tx : Int) + 8 * (f.rows.length : Int) * (cc : Int) + 24 * ((f.rows.length : Int) + (p.last.rows.length : Int)) + 24))) rfl (by kernel_rfl) (by kernel_rfl) (by kernel_rfl) (fun _ _ _ h => h) (Or.inl ⟨by rfl, ?hy18⟩) (by assumption) ?rest18
            case hy18 => (intro w hSw; (try dsimp only at hSw); go_simp; first | done | (with_reducible rfl) | (rw [IntKind.wrap_i64]; omega) | (congr 1; rw [IntKind.wrap_i64]; omega))
            case rest18 =>
            try simp only [Act.put, List.setIfInBounds_toArray, List.set_cons_zero, List.set_cons_succ]
            refine wpAnyH_ready (rs := [2]) (by kernel_rfl) (by simp) ?_
            refine consH rfl (fun K hK => ?_) AllReadyH.nil
            go_simp
            go_at_call 9
            have XR := ps_draw HA.out.ps HK.out HRO.out HFK.out
            with_reducible refine XR.mono ?_
            clear XR
            rintro _ wd1 ⟨v, rfl, hq, hs, f9⟩
            obtain ⟨Ad, cd, rfl⟩ := owns_slice hq
            replace HFB := Hd.mk (HFB.out.pf f9 (by decide) (by decide))
            replace HVB := Hd.mk (HVB.out.pf f9 (by decide) (by decide))
            replace HRO := Hd.mk (HRO.out.pf f9)
            replace HA := Hd.mk (HA.out.turn hq hs f9).drop
            clear hq hs f9 hHd
            have hHd : (fun w' : World => Blk w' fb 38 #[.slice Af f.rows.length cf, .int .i64 (f.row : Int), .int .i64 (f.col : Int)]) wd1 := HFB.out
            go_simp
            refine hK.out _ _ hHd ?_
            clear hK K
            try simp only [Act.put, List.setIfInBounds_toArray, List.set_cons_zero, List.set_cons_succ]
            refine takeH (i := 3) (v := ?v19) rfl (by kernel_rfl) (by kernel_rfl) (by kernel_rfl) (fun _ _ _ h => h) (Or.inl ⟨by rfl, ?hy19⟩) (by assumption) ?rest19
            case hy19 => (intro w hSw; (try dsimp only at hSw); go_simp; try (with_reducible rfl))
            case rest19 =>
            try simp only [Act.put, List.setIfInBounds_toArray, List.set_cons_zero, List.set_cons_succ]
            refine takeH (i := 20) (v := (.bool false)) rfl (by kernel_rfl) (by kernel_rfl) (by kernel_rfl) (fun _ _ _ h => h) (Or.inl ⟨by rfl, ?hy20⟩) (by assumption) ?rest20
            case hy20 => (intro w hSw; (try dsimp only at hSw); go_simp; first | done | omega | (exact decide_eq_false (by omega)))
            case rest20 =>
            try simp only [Act.put, List.setIfInBounds_toArray, List.set_cons_zero, List.set_cons_succ]
            refine wpAnyH_done (by kernel_rfl) ?_ _
            refine hKQ _ _ ?_
            clear hHd hm1 hm2 hle hm6 ht2 hn2
            obtain ⟨z0, z1, z2⟩ := Blk.three HFB.out
            have HK1 := Hd.mk (HK.out.draw HFK.out)
            have HAG := Hd.mk (draw_again HK.out HFK.out)
            have X := Hd.mk (ps_draw (p := tellP (p.draw f)) HA.out.ps HK1.out HRO.out HFK.out)
            rw [HAG.out.1] at X
            go_wp2_with fail
            go_at_call 9
            with_reducible refine X.out.mono ?_
            rintro _ wd2 ⟨v, rfl, hq, hs, f9⟩
            have hq2 : BufO _ wd2 v [] := hq
            obtain ⟨Ae, ce, rfl⟩ := owns_slice hq2
            replace HFB := Hd.mk (HFB.out.pf f9 (by decide) (by decide))
            replace HVB := Hd.mk (HVB.out.pf f9 (by decide) (by decide))
            replace HRO := Hd.mk (HRO.out.pf f9)
            have hs2 : PS wd2 g (tellP (p.draw f)) := hs
            replace HA := Hd.mk (HA.out.turn hq hs2 f9).drop
            clear hq hq2 hs hs2 f9 X z0 z1 z2
            obtain ⟨z0, z1, z2⟩ := Blk.three HFB.out
            have X := Hd.mk (ps_cost (p := tellP (p.draw f)) HA.out.ps HK1.out HRO.out HFK.out)
            rw [HAG.out.1] at X
            have X2 : Hd (Calls Tryd.prog 10 #[.pointer (some ⟨g, 0, none⟩), .agg #[.slice Af f.rows.length cf, .int .i64 (f.row : Int), .int .i64 (f.col : Int)]] wd2 fun e w' => e = .returned (.int .i64 0) ∧ Below wd2.heap.size wd2 w') := ⟨X.out⟩
            clear X
            go_wp2_with fail
            go_at_call 10
            with_reducible refine X2.out.mono ?_
            rintro _ wd3 ⟨rfl, hb⟩
            replace HVB := Hd.mk (HVB.out.belowW hb)
            replace HA := Hd.mk (HA.out.call hb)
            clear hb X2 z0 z1 z2
            go_wp2_with fail
            go_roundg d
            case measure => omega
            case rel => exact ⟨k + 1, tellP (p.draw f), by rw [show (tellP (p.draw f)).last = f from HAG.out.2], by simp, by omega, HK1, HA, HVB⟩
          | succ e =>
            have hjt : decide ((i : Int) < (f.rows.length : Int)) = true := decide_eq_true (by omega)
            have hjt2 : (i : Int) < (f.rows.length : Int) := by omega
            have hjt3 : decide (i < f.rows.length) = true := decide_eq_true (by omega)
            have hi0 : (0 : Int) ≤ (i : Int) := Int.natCast_nonneg _
            have hil : i < f.rows.length := by omega
            obtain ⟨c', ad, r, hA, hc, hrow, _⟩ := HRO.out.look hil
            obtain ⟨rfl, _, rfl⟩ := Value.slice.inj hA
            clear hA
            have HRW := Hd.mk hrow
            have hrn := hrow.1
            obtain ⟨rg, rn, rc⟩ := r
            change rn = _ at hrn
            subst hrn
            change _ = some (Value.slice (some ⟨rg, 0, none⟩) f.rows[i].length rc) at hc
            clear hrow
            have HRD : Hd (f.rows[i].length ≤ 120 ∧ sizeF (f.rows.take (i + 1)) = sizeF (f.rows.take i) + sizeR f.rows[i] ∧ sizeF (f.rows.take i) ≤ 100000000 ∧ ∀ j, sizeR (f.rows[i].take j) ≤ 1000000) := ⟨⟨by rw [(HFK.out.rows _ (List.getElem_mem hil)).1]; exact HFK.out.c2, sizeF_take _ i hil, (HFK.out.few.2 i).1, fun j => (HFK.out.few.2 i).2 _ (List.getElem_mem hil) j⟩⟩
            have HCS : Hd (∀ j, j < f.rows[i].length → (getC f.rows[i] j).S.size ≤ 4800) := ⟨fun j hj => by rw [getC_get hj]; exact (HFK.out.rows _ (List.getElem_mem hil)).2.2 _ (List.getElem_mem hj)⟩
            generalize f.rows[i] = row at *
            have hr120 : (row.length : Int) ≤ 120 := by have := HRD.out.1; omega
            have hs0 : (sizeF (f.rows.take i) : Int) ≤ 100000000 := by have := HRD.out.2.2.1; omega
            have hs1 : (0 : Int) ≤ (sizeF (f.rows.take i) : Int) := Int.natCast_nonneg _
            go_wp2_with fail
            clear hc
            go_loopg [15, 61] row.length (fun gk v15 v61 wx => ∃ (j : Nat), v15 = .int .i64 ((sizeF (f.rows.take i) + sizeR (row.take j) : Nat) : Int) ∧ v61 = .int .i64 (j : Int) ∧ j + gk = row.length ∧ Hd (AK W wx g p []) ∧ Hd (Blk wx w4.heap.size 24 #[.int .i64 a.f0, .int .i64 a.f1, .string a.f2, .string a.f3, .string a.f4, .string a.f5, .int .i64 a.f6, .int .i64 b.f0, .int .i64 b.f1, .string b.f2, .string b.f3, .string b.f4, .string b.f5, .int .i64 b.f6, .int .i64 b.f0, .int .i64 b.f1, .string b.f2, .string b.f3, .string b.f4, .string b.f5, .int .i64 b.f6]) ∧ Hd (Blk wx fb 38 #[.slice (some ad) f.rows.length cf, .int .i64 (f.row : Int), .int .i64 (f.col : Int)]) ∧ Hd (RowsO (fun _ => True) wx (.slice (some ad) f.rows.length cf) Lf f.rows) ∧ Hd (RowAt wx ⟨rg, row.length, rc⟩ row))
            case atStart => exact ⟨0, rfl, rfl, by omega, HA, HVB, HFB, HRO, HRW⟩
            case round =>
              clear HA HVB HFB HRO HRW
              obtain ⟨j, rfl, rfl, hj, HA, HVB, HFB, HRO, HRW⟩ := hrel
              cases gk with
              | zero =>
                have hkt : decide ((j : Int) < (row.length : Int)) = false := decide_eq_false (by omega)
                have hkt2 : ¬ (j : Int) < (row.length : Int) := by omega
                have hkt3 : decide (j < row.length) = false := decide_eq_false (by omega)
                have HJ : Hd (sizeF (f.rows.take (i + 1)) = sizeF (f.rows.take i) + sizeR (row.take j)) := ⟨by rw [HRD.out.2.1, List.take_of_length_le (l := row) (by omega)]⟩
                generalize sizeF (f.rows.take i) + sizeR (row.take j) = qq at *
                go_wp2_with fail
                go_roundg e
                case measure => omega
                case rel => exact ⟨i + 1, by rw [HJ.out], by simp, by omega, HA, HVB, HFB, HRO⟩
              | succ e2 =>
                have hkt : decide ((j : Int) < (row.length : Int)) = true := decide_eq_true (by omega)
                have hkt2 : (j : Int) < (row.length : Int) := by omega
                have hkt3 : decide (j < row.length) = true := decide_eq_true (by omega)
                have hj0 : (0 : Int) ≤ (j : Int) := Int.natCast_nonneg _
                have hjl : j < row.length := by omega
                obtain ⟨t0, t1, t2⟩ := HRW.out.three hjl
                have HCJ : Hd ((getC row j).S.size ≤ 4800 ∧ sizeR (row.take (j + 1)) = sizeR (row.take j) + (getC row j).S.size) := ⟨⟨HCS.out j hjl, sizeR_take row j hjl⟩⟩
                have hb2 : ((sizeF (f.rows.take i) + sizeR (row.take j) : Nat) : Int) ≤ 101000000 := by have := HRD.out.2.2.2 j; have := HRD.out.2.2.1; omega
                have hb3 : (0 : Int) ≤ ((sizeF (f.rows.take i) + sizeR (row.take j) : Nat) : Int) := Int.natCast_nonneg _
                have hb4 : ((getC row j).S.size : Int) ≤ 4800 := by have := HCJ.out.1; omega
                generalize hq : sizeF (f.rows.take i) + sizeR (row.take j) = qq at *
                have HQ := Hd.mk hq
                clear hq
                have hal := (Below.refl _ wr).alloc (Nat.le_refl _) (.cells #[.string (getC row j).S, .int .i64 ((getC row j).wide : Int), .bool (getC row j).dim] 42)
                replace HA := Hd.mk (HA.out.call hal)
                replace HVB := Hd.mk (HVB.out.belowW hal)
                replace HFB := Hd.mk (HFB.out.belowW hal)
                replace HRO := Hd.mk (HRO.out.below hal)
                replace HRW := Hd.mk (HRW.out.to (hal.block rg HRW.out.lt))
                clear hal
                go_wp2_with fail
                go_roundg e2
                case measure => omega
                case rel => exact ⟨j + 1, by rw [HCJ.out.2, ← Nat.add_assoc, HQ.out, Int.natCast_add], by simp, by omega, HA, HVB, HFB, HRO, HRW⟩
end Go.Proofs.YtledplnlcjfafaaDoorL

