/- Parts of the proof of the law that the last file states; declarations that nothing mentions are left out by a program. No conditions. -/
import Derived.Test.YtcpkoajnepijkaaRefK6k
namespace Go.Proofs.Ytcpkoajnepijkaa
set_option linter.unusedVariables false
set_option linter.unusedSimpArgs false
open Go.RowKit Go.Proofs.YtcpkoajnepijkaaL Go.Proofs.YtcpkoajnepijkaaW.PrintWords Go.Proofs.Ytcpkoajnepijkaa.Q
theorem findP_name {s : ByteArray} : ∀ {l : List PF} {f : PF}, findP s l = some f → f.name = s
  | [], f, h => by cases h
  | g :: l, f, h => by
    unfold findP at h
    split at h
    · rename_i hg
      cases h
      exact hg
    · exact findP_name h
theorem known_calls {w : World} {P : Nat → Prop} {A : Option Addr} {c : Nat} {S : PS} (h : Kd.V k47 47 w w.heap.size P (.slice A (S.l.map toF).length c) (S.l.map toF)) (hB : BoundP S) (hN : NumP S) (hd : S.down = false) (x : S34) (h1 : 1 ≤ x.f0) (h4 : x.f0 ≤ 4) {A3 A5 : Option Addr} {n3 n5 c3 c5 : Nat} :
    Calls Try.prog 36 #[.agg #[.slice A (S.l.map toF).length c, .int .i64 S.no, .int .i64 S.ops, .int .i64 S.fuse, .int .i64 S.fault, .bool S.down], .agg #[.int .i64 x.f0, .string x.f1, .string x.f2, .slice A3 n3 c3, .int .i64 x.f4, .slice A5 n5 c5]] w fun e w' =>
      ∃ v', e = .returned (.tuple #[v', .int .i64 (doP S x).1]) ∧ RSt w' (fun k => P k ∨ w.heap.size ≤ k) v' (doP S x).2 ∧ Below w.heap.size w w' := by
  obtain ⟨kd, s, t, bs, n, ks⟩ := x
  simp only at h1 h4 ⊢
  have hfb : ∀ r : PS, (r.down = false) → (S.fuse == 0) = r.down → True := fun _ _ _ => trivial
  rcases idx_find s S.l 0 with ⟨hi, hf⟩ | ⟨i, f, hi, hg, hf⟩
  · have hd1 : doP S ⟨kd, s, t, bs, n, ks⟩ = (101, S) := by
      have h0 : ¬ kd = 0 := by omega
      have hc : kd = 1 ∨ kd = 2 ∨ kd = 3 ∨ kd = 4 := by omega
      rcases hc with rfl | rfl | rfl | rfl <;> simp [doP, syncP, renameP, removeP, cutP, beginP, hd, hf]
    rw [hd1]
    exact known_no h hB hf
  · rw [Nat.zero_add] at hi
    have hn := findP_name hf
    have hnm : namedB t = false ↔ t.size < 1 ∨ 20 < t.size := by
      unfold namedB
      rw [Bool.and_eq_false_iff, decide_eq_false_iff_not, decide_eq_false_iff_not]
      omega
    by_cases hbad : kd = 2 ∧ namedB t = false
    · obtain ⟨rfl, hb⟩ := hbad
      have hd1 : doP S ⟨2, s, t, bs, n, ks⟩ = (101, S) := by simp [doP, renameP, beginP, hd, hf, hb]
      rw [hd1]
      exact known_bad h hB hi (hnm.1 hb)
    · have hgood : kd = 2 → 1 ≤ t.size ∧ t.size ≤ 20 := fun e => by
        have : ¬ namedB t = false := fun hb => hbad ⟨e, hb⟩
        rw [hnm] at this
        omega
      have hgood' : kd = 2 → namedB t = true := fun e => by
        cases hb : namedB t
        · exact absurd ⟨e, hb⟩ hbad
        · rfl
      by_cases hfu : S.fuse = 0
      · have hd1 : doP S ⟨kd, s, t, bs, n, ks⟩ = (100, countP S) := by
          have hc : kd = 1 ∨ kd = 2 ∨ kd = 3 ∨ kd = 4 := by omega
          rcases hc with rfl | rfl | rfl | rfl
          · simp [doP, syncP, beginP, hd, hf, hfu]
          · simp [doP, renameP, beginP, hd, hf, hfu, hgood' rfl]
          · simp [doP, removeP, beginP, hd, hf, hfu]
          · simp [doP, cutP, beginP, hd, hf, hfu]
        rw [hd1]
        exact known_down h hB hN hd hi hgood hfu
      · have hfu' : (S.fuse == 0) = false := by simpa using hfu
        have hc : kd = 1 ∨ kd = 2 ∨ kd = 3 ∨ kd = 4 := by omega
        rcases hc with rfl | rfl | rfl | rfl
        · have hd1 : doP S ⟨1, s, t, bs, n, ks⟩ = (0, { countP S with l := withP ⟨f.name, bytesP f, []⟩ S.l }) := by simp [doP, syncP, beginP, hd, hf, hfu, countP]
          rw [hd1]
          exact known_sync h hB hN hd hi hg hfu
        · have hd1 : doP S ⟨2, s, t, bs, n, ks⟩ = (0, { countP S with l := withP { f with name := t } (withoutP f.name S.l) }) := by simp [doP, renameP, beginP, hd, hf, hfu, hgood' rfl, countP, hn]
          rw [hd1]
          exact known_rename h hB hN hd hi hg hfu (hgood rfl).1 (hgood rfl).2
        · have hd1 : doP S ⟨3, s, t, bs, n, ks⟩ = (0, { countP S with l := withoutP f.name S.l }) := by simp [doP, removeP, beginP, hd, hf, hfu, countP, hn]
          rw [hd1]
          exact known_remove h hB hN hd hi hg hfu
        · have hd1 : ∀ N, cutN n (bytesP f).length = N → doP S ⟨4, s, t, bs, n, ks⟩ = (0, { countP S with l := withP ⟨f.name, (bytesP f).take N, []⟩ S.l }) := by
            intro N hN
            simp [doP, cutP, beginP, hd, hf, hfu, countP, hN]
          by_cases c1 : n < 0
          · rw [hd1 0 (by unfold cutN; rw [if_pos c1])]
            exact known_cut0 h hB hN hd hi hg hfu c1
          · by_cases c2 : ((bytesP f).length : Int) < n
            · rw [hd1 (bytesP f).length (by unfold cutN; rw [if_neg c1, if_pos c2])]
              exact known_cut1 h hB hN hd hi hg hfu rfl c2
            · obtain ⟨N, rfl⟩ : ∃ N : Nat, n = (N : Int) := ⟨n.toNat, by omega⟩
              rw [hd1 N (by unfold cutN; rw [if_neg c1, if_neg c2]; rfl)]
              exact known_cut2 (n := 0) h hB hN hd hi hg hfu rfl (by omega)
end Go.Proofs.Ytcpkoajnepijkaa

