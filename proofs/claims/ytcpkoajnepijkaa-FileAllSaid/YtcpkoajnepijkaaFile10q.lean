/- Parts of the proof of the law that the last file states; declarations that nothing mentions are left out by a program. No conditions. -/
import Derived.Test.YtcpkoajnepijkaaFile9q
set_option linter.unusedVariables false
set_option linter.unusedSimpArgs false
namespace Go.Proofs.Ytcpkoajnepijkaa
open Go.RowKit Go.Proofs.YtcpkoajnepijkaaL Go.Proofs.YtcpkoajnepijkaaW.PrintWords
theorem write_calls {base : Nat} {Lz : Nat → Prop} {w : World} {F : Nat} {fp : Nat → Prop} {st : FS} (h : FRep base Lz w F fp st) (hfi : Fine st) (s : ByteArray) (A : Option Addr) (n c : Nat) (b : List Int) (hbv : RB base NoL w (.slice A n c) b) (hl : n ≤ 65536) (hrows : st.row.length ≤ 100000) (hsz : ∀ g ∈ st.live, st.sz g ≤ 65536) :
    Calls Try.prog 23 #[ptr F, .string s, .slice A n c] w fun e w' => e = .returned (.int .i64 (writeL st s b w.heap.size).1) ∧
      (∃ fp', FRep base Lz w' F fp' (writeL st s b w.heap.size).2 ∧ ∀ k, fp' k → fp k ∨ w.heap.size ≤ k) ∧ Only fp w w' := by
  have hnb : n = b.length := by obtain ⟨A', c', e, _⟩ := hbv; injection e
  have hfF := h.fpF
  have hlive := h.live
  by_cases hd : st.down = true
  · refine (write_early h s _ (.inl hd)).mono ?_
    rintro e w' ⟨rfl, rfl⟩
    simp only [writeL, hd, if_true]
    exact ⟨trivial, ⟨fp, h, fun k hk => .inl hk⟩, Only.refl _ _⟩
  have hd0 : st.down = false := by simpa using hd
  by_cases hn : namedB s = false ∨ (fnd s st.files = none ∧ 8 ≤ st.files.length)
  · refine (write_early h s _ (.inr ⟨hd0, hn⟩)).mono ?_
    rintro e w' ⟨rfl, rfl⟩
    simp only [writeL, hd, hn, if_true, if_false, Bool.false_eq_true, or_self, and_false, false_and]
    exact ⟨trivial, ⟨fp, h, fun k hk => .inl hk⟩, Only.refl _ _⟩
  have hn1 : namedB s = true := by
    cases hx : namedB s with
    | true => rfl
    | false => exact absurd (.inl hx) hn
  have h8 : fnd s st.files = none → st.files.length < 8 := fun e => by
    rcases Nat.lt_or_ge st.files.length 8 with h | h
    · exact h
    · exact absurd (.inr ⟨e, h⟩) hn
  have hf : ∀ g, fnd s st.files = some g → st.sz g ≤ 65536 := fun g hg => hsz g (hlive _ (fnd_mem hg))
  by_cases hfull : ((fnd s st.files).map st.sz).getD 0 + b.length > 65536
  · refine (write_full h s A n c hd0 hn1 hf h8 (by omega) (by rw [hnb]; exact hfull)).mono ?_
    rintro e w' ⟨rfl, hb⟩
    simp only [writeL, hd, hn, hfull, if_true, if_false, Bool.false_eq_true, or_self, and_false, false_and]
    exact ⟨trivial, ⟨fp, h.below hb, fun k hk => .inl hk⟩, Only.of_below hb⟩
  cases hft : (st.fault == 0) with
  | true =>
    refine (write_fault h hfi s A n c hd0 hn1 hf h8 (by omega) (by rw [hnb]; omega) hft).mono ?_
    rintro e w' ⟨rfl, hr, ho⟩
    simp only [writeL, hd, hn, hfull, hft, if_true, if_false, Bool.false_eq_true, or_self, and_false, false_and]
    exact ⟨trivial, ⟨fp, hr, fun k hk => .inl hk⟩, ho.mono (fun k _ e => by rw [e]; exact hfF)⟩
  | false =>
    cases hfg : fnd s st.files with
    | some g =>
      rw [hfg] at hfull
      simp only [Option.map_some, Option.getD_some] at hfull
      refine (write_old h hfi s A n c b hbv hd0 hn1 (by omega) hfg (by omega) hrows hft (up := (st.fuse == 0)) rfl).mono ?_
      rintro e w' ⟨rfl, hr, ho⟩
      rw [hnb] at hr
      have hcn : ¬ (namedB s = false ∨ ((some g : Option Nat) = none ∧ 8 ≤ st.files.length)) := fun hh => hn (by rw [hfg]; exact hh)
      simp only [writeL, hd, hfg, hcn, hft, Option.map_some, Option.getD_some, hfull, if_false, Bool.false_eq_true]
      exact ⟨trivial, hr, ho⟩
    | none =>
      rw [hfg] at hfull
      simp only [Option.map_none, Option.getD_none] at hfull
      refine (write_new h hfi s A n c b hbv hd0 hn1 (by omega) hfg (h8 hfg) (by omega) hrows hft (up := (st.fuse == 0)) rfl).mono ?_
      rintro e w' ⟨rfl, hr, ho⟩
      rw [hnb] at hr
      have hcn : ¬ (namedB s = false ∨ ((none : Option Nat) = none ∧ 8 ≤ st.files.length)) := fun hh => hn (by rw [hfg]; exact hh)
      have h8' := h8 hfg
      have hcn2 : ¬ (8 ≤ st.files.length) := by omega
      simp only [writeL, hd, hfg, hn1, hcn2, and_false, or_self, Bool.true_eq_false, hft, Option.map_none, Option.getD_none, hfull, if_false, Bool.false_eq_true]
      refine ⟨trivial, ?_, ho⟩
      obtain ⟨fp', h1, h2⟩ := hr
      refine ⟨fp', ?_, h2⟩
      have e1 : upd st.sz w.heap.size 0 w.heap.size = 0 := by simp [upd]
      rw [e1, Nat.zero_add]
      exact h1
end Go.Proofs.Ytcpkoajnepijkaa

