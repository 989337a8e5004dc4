/- Parts of the proof of the law that the last file states; declarations that nothing mentions are left out by a program. No conditions. -/
import Derived.Test.YtcpkoajnepijkaaRefW2k
import Derived.Test.YtcpkoajnepijkaaRefK7k
namespace Go.Proofs.Ytcpkoajnepijkaa
set_option linter.unusedVariables false
set_option linter.unusedSimpArgs false
open Go.RowKit Go.Proofs.YtcpkoajnepijkaaL Go.Proofs.YtcpkoajnepijkaaW.PrintWords Go.Proofs.Ytcpkoajnepijkaa.Q
theorem overs_le : ∀ (row : List PP) (b : List Int), b.length ≤ 65536 → (∀ p ∈ row, p.at_ + p.b.length ≤ 65536) → (row.foldl overP b).length ≤ 65536
  | [], b, h, _ => h
  | p :: row, b, h, hr => by
    refine overs_le row _ ?_ (fun q hq => hr q (List.mem_cons_of_mem _ hq))
    unfold overP
    rw [laidL_length]
    have := hr p List.mem_cons_self
    split <;> omega
theorem refw_calls {w : World} {P : Nat → Prop} {A : Option Addr} {c : Nat} {S : PS} (h : Kd.V k47 47 w w.heap.size P (.slice A (S.l.map toF).length c) (S.l.map toF)) (hB : BoundP S) (hN : NumP S) (hd : S.down = false) (x : S34) (h0 : x.f0 = 0) {A3 A5 : Option Addr} {n3 n5 c3 c5 : Nat} (h3 : Kd.V (Kd.int .u8) 5 w w.heap.size P (.slice A3 n3 c3) x.f3) (hbs : x.f3.length ≤ 1000000) :
    Calls Try.prog 35 #[.agg #[.slice A (S.l.map toF).length c, .int .i64 S.no, .int .i64 S.ops, .int .i64 S.fuse, .int .i64 S.fault, .bool S.down], .agg #[.int .i64 x.f0, .string x.f1, .string x.f2, .slice A3 n3 c3, .int .i64 x.f4, .slice A5 n5 c5]] w fun e w' =>
      ∃ v', e = .returned (.tuple #[v', .int .i64 (doP S x).1]) ∧ RSt w' (fun k => P k ∨ w.heap.size ≤ k) v' (doP S x).2 ∧ Below w.heap.size w w' := by
  obtain ⟨kd, s, t, bs, n, ks⟩ := x
  simp only at h0 h3 hbs ⊢
  subst h0
  have hdo : doP S ⟨0, s, t, bs, n, ks⟩ = writeP S s bs := by simp [doP]
  rw [hdo]
  have hnm : namedB s = false ↔ s.size < 1 ∨ 20 < s.size := by
    unfold namedB
    rw [Bool.and_eq_false_iff, decide_eq_false_iff_not, decide_eq_false_iff_not]
    omega
  by_cases hbad : namedB s = false ∨ (findP s S.l = none ∧ 8 ≤ S.l.length)
  · have hw : writeP S s bs = (101, S) := by
      unfold writeP
      rw [if_neg (by simp [hd]), if_pos hbad]
    rw [hw]
    rcases idx_find s S.l 0 with ⟨hi, hf⟩ | ⟨i, f, hi, hg, hf⟩
    · refine refw_bad (bs := []) (f := ⟨s, [], []⟩) h hB hN hd hi ?_
      rcases hbad with h1 | h1
      · rcases hnm.1 h1 with h2 | h2
        · exact .inl h2
        · exact .inr (.inl h2)
      · exact .inr (.inr ⟨by decide, h1.2⟩)
    · refine refw_bad (bs := []) (f := ⟨s, [], []⟩) h hB hN hd hi ?_
      rcases hbad with h1 | h1
      · rcases hnm.1 h1 with h2 | h2
        · exact .inl h2
        · exact .inr (.inl h2)
      · rw [hf] at h1
        cases h1.1
  · obtain ⟨idx, f, hidx, hf, hget, hroom⟩ : ∃ idx f, idxP s S.l 0 = idx ∧ ((idx = -1 ∧ f = ⟨s, [], []⟩) ∨ ∃ i : Nat, idx = i ∧ S.l[i]? = some f) ∧ (findP s S.l).getD ⟨s, [], []⟩ = f ∧ (idx < 0 → S.l.length < 8) := by
      rcases idx_find s S.l 0 with ⟨hi, hf⟩ | ⟨i, f, hi, hg, hf⟩
      · exact ⟨_, _, hi, .inl ⟨rfl, rfl⟩, by rw [hf]; rfl, fun _ => by
          by_cases hl : S.l.length < 8
          · exact hl
          · exact absurd (.inr ⟨hf, by omega⟩) hbad⟩
      · exact ⟨_, f, hi, .inr ⟨0 + i, rfl, by rw [Nat.zero_add]; exact hg⟩, by rw [hf]; rfl, fun h => by omega⟩
    have hn1 : 1 ≤ s.size ∧ s.size ≤ 20 := by
      have : ¬ namedB s = false := fun h => hbad (.inl h)
      rw [hnm] at this
      omega
    have hfB : f.b.length ≤ 65536 ∧ RowB f.row := by
      rcases hf with ⟨_, rfl⟩ | ⟨i, _, hg⟩
      · exact ⟨by simp, by simp [RowB]⟩
      · exact hB.2 f (List.mem_of_getElem? hg)
    have hfn : f.name = s := by
      rcases hf with ⟨_, rfl⟩ | ⟨i, _, hg⟩
      · rfl
      · cases hfi : findP s S.l with
        | none => rw [hfi] at hget; rw [← hget]; rfl
        | some f' => rw [hfi] at hget; rw [← hget]; exact findP_name hfi
    by_cases hlen : (bytesP f).length + bs.length > 65536
    · have hw : writeP S s bs = (103, S) := by
        unfold writeP
        rw [if_neg (by simp [hd]), if_neg hbad]
        simp only [hget]
        rw [if_pos hlen]
      rw [hw]
      exact refw_full h hB hN hd hidx h3 hf hfn hn1.1 hn1.2 hroom hfB hlen hbs (by have := overs_le f.row f.b hfB.1 hfB.2.2; exact Nat.le_trans this (by omega)) rfl
    · have hw : writeP S s bs = (if S.fault == 0 then (if S.fuse == 0 then 100 else 102, countP { S with fault := decP S.fault }) else (if S.fuse == 0 then 100 else 0, { countP { S with fault := decP S.fault } with l := withP { f with row := f.row ++ [⟨S.no, (bytesP f).length, bs⟩] } S.l, no := S.no + 1 })) := by
        unfold writeP
        rw [if_neg (by simp [hd]), if_neg hbad]
        simp only [hget]
        rw [if_neg hlen]
      rw [hw]
      by_cases hz : S.fault = 0
      · have hz' : (S.fault == 0) = true := by simpa using hz
        rw [if_pos hz']
        refine refw_ok (S2 := countP { S with fault := decP S.fault }) h hB hN hd hidx h3 hf hfn hn1.1 hn1.2 hroom hfB (by omega) hN rfl (by rw [if_pos hz]; rfl) (by rw [if_pos hz]; rfl) rfl rfl rfl rfl ?_
        by_cases hq : S.fuse = 0 <;> simp [countP, hq, hz]
      · have hz' : ¬ (S.fault == 0) = true := by simpa using hz
        rw [if_neg hz']
        refine refw_ok (S2 := { countP { S with fault := decP S.fault } with l := withP { f with row := f.row ++ [⟨S.no, (bytesP f).length, bs⟩] } S.l, no := S.no + 1 }) h hB hN hd hidx h3 hf hfn hn1.1 hn1.2 hroom hfB (by omega) hN rfl (by rw [if_neg hz]) (by rw [if_neg hz]) rfl rfl rfl rfl ?_
        by_cases hq : S.fuse = 0 <;> simp [countP, hq, hz]
end Go.Proofs.Ytcpkoajnepijkaa

