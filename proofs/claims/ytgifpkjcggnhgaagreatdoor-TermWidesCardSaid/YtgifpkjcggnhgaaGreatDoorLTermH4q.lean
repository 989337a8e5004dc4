/- Parts of the proof of the law that the last file states; declarations that nothing mentions are left out by a program. No conditions. -/
import Derived.Laws.BytesString
import Derived.Lib.SlBytesRow
import Derived.Test.YtgifpkjcggnhgaaGreatDoorLTermW2q
set_option linter.unusedVariables false
set_option linter.unusedSimpArgs false
namespace Go.Proofs.YtgifpkjcggnhgaaGreatDoorL
open Go Go.RowKit Go.Proofs.YtgifpkjcggnhgaaGreatDoorW.PrintWords
section
variable {P : Nat → Prop} {w w' w1 : World} {T : Nat} {s : Tm} {lv gv bv v : Value} {L G : List RR} {l : List UInt8}
theorem nb_len (l : List UInt8) : (nbL l).length = l.length := List.length_map ..
theorem q_bytes (h : (Kd.int .u8).Q 5 w 0 P v (nbL l)) : ∃ A c, v = .slice A l.length c ∧ l.length ≤ c ∧ (Kd.int .u8).C w A l.length (nbL l) ∧ (l ≠ [] → ∃ g o, A = some ⟨g, o, none⟩ ∧ P g ∧ ∀ i (h : i < l.length), w.cell? ⟨g, o + i, none⟩ = some (.int .u8 ((l[i]).toNat : Int))) := by
  obtain ⟨A, c, rfl, hc⟩ := Kd.Q_slice h
  have hr := Kd.Q_reads' h
  rw [nb_len] at hr hc ⊢
  refine ⟨A, c, rfl, hc, hr.2.2, fun hne => ?_⟩
  have hl : 0 < l.length := List.length_pos_iff.2 hne
  have hcell := (Kd.reads_of_C (enc := fun n : Int => Value.int .u8 n) (d := (0 : Int)) (h1 := fun _ => rfl) hr.2.2).2.2
  obtain ⟨ad, hA, hcell⟩ := hcell hl
  obtain ⟨h0, inner, ⟨hxl, hq⟩, _⟩ := h
  rw [nb_len] at hq hxl
  rcases hq with ⟨h1, _⟩ | ⟨g, off, cap, cur, he, _, _, _, _, _, _⟩
  · omega
  injection he with he _ _
  subst he
  injection hA with hA
  subst hA
  refine ⟨g, off * (Kd.int .u8).sz, rfl, h0 g rfl, fun i hi => ?_⟩
  have := hcell i hi
  rw [Addr.add_lit_] at this
  rw [this]
  unfold nbL
  rw [List.getD_eq_getElem?_getD, List.getElem?_map, List.getElem?_eq_getElem hi]
  rfl
theorem q_text (h : (Kd.int .u8).Q 5 w 0 P v (nbL l)) : (convert 34 9 v).run Tryz.prog w = .ok (.string ⟨l.toArray⟩) w := by
  obtain ⟨A, c, rfl, hc, hC, hne⟩ := q_bytes h
  by_cases hl : l = []
  · subst hl
    rw [run_convert_bytes_string w 34 9 5 _ _ _ Tryz.underlying34 Tryz.underlying5 Tryz.underlying9]
    cases A with
    | none => rfl
    | some a =>
      have := run_bytesToString (P := Tryz.prog) w a 0 c [] (by simp [loadCells, loadCellsFrom, Sem.run_pure])
      exact this
  · obtain ⟨g, o, rfl, _, hcell⟩ := hne hl
    have h := Lib.run_convert_whole (P := Tryz.prog) w 34 5 9 Tryz.underlying34 Tryz.underlying5 Tryz.underlying9 g o ⟨l.toArray⟩ (fun i hi => ?_) c
    · have e : (⟨l.toArray⟩ : ByteArray).size = l.length := List.size_toArray
      rw [e] at h
      exact h
    · have e : (⟨l.toArray⟩ : ByteArray).size = l.length := List.size_toArray
      rw [hcell i (by rw [← e]; exact hi)]
      rfl
theorem TermO.setB (h : TermO P w T s lv gv bv L G) (hk : ∀ k, k < w.heap.size → bv.ownBlock ≠ some k → w1.heap[k]? = w.heap[k]?) (hq : (Kd.int .u8).Q 5 w1 0 P v (nbL l)) : TermO P (w1.setCell ⟨T, 10, none⟩ v) T { s with b := l } lv gv v L G := by
  obtain ⟨a1, a2, a3, a4⟩ := h.apart
  have hT : Blk w1 T 57 (cellsT s lv gv bv) := h.b.to (hk T h.b.lt a3)
  have keep : ∀ k, k < w.heap.size → bv.ownBlock ≠ some k → k ≠ T → (w1.setCell ⟨T, 10, none⟩ v).heap[k]? = w.heap[k]? := fun k h1 h2 h3 => (Below.heap_setCell w1 ⟨T, 10, none⟩ v k h3).trans (hk k h1 h2)
  have hty : ∀ {α : Type} {d : Kd α} {x : Value} {xs : List α}, d.Q 29 w 0 P x xs → ∀ k, x.ownBlock = some k → bv.ownBlock ≠ some k := fun hx k h1 h2 => by
    obtain ⟨c1, e1⟩ := Kd.Q_typed hx k h1
    obtain ⟨c2, e2⟩ := Kd.Q_typed h.qb k h2
    rw [e1] at e2
    injection e2 with e2
    injection e2 with _ e2
    exact absurd e2 (by decide)
  have hvT : v.ownBlock ≠ some T := fun e => Kd.Q_ne hq hT (by decide) e.symm
  have row : ∀ {r : RR} {x : List TC}, r ∈ L ++ G → RowAt w r x → RowAt (w1.setCell ⟨T, 10, none⟩ v) r x := fun hr hx => hx.to (keep _ hx.lt (q_type_ne h.qb hx (by decide)) (a4 _ hr))
  exact ⟨hT.set_ 10 v, h.pt, q_frame rfl h.ql (fun k hk1 => keep k (Kd.Q_lt h.ql k hk1) (hty h.ql k hk1) (fun e => a1 (e ▸ hk1))), q_frame rfl h.qg (fun k hk1 => keep k (Kd.Q_lt h.qg k hk1) (hty h.qg k hk1) (fun e => a2 (e ▸ hk1))), h.ne,
    q_frame rfl hq (fun k hk1 => Below.heap_setCell w1 ⟨T, 10, none⟩ v k (fun e => hvT (by have e : k = T := e; rw [← e]; exact hk1))), forall_imp h.fl (fun r hr x hx => row (List.mem_append_left _ hr) hx), forall_imp h.fg (fun r hr x hx => row (List.mem_append_right _ hr) hx), h.nd, h.pr⟩
end
end Go.Proofs.YtgifpkjcggnhgaaGreatDoorL

