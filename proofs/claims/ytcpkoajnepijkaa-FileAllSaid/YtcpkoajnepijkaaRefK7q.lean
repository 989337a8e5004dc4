/- Parts of the proof of the law that the last file states; declarations that nothing mentions are left out by a program. No conditions. -/
import Derived.Test.YtcpkoajnepijkaaRefK6q
import Derived.Test.YtcpkoajnepijkaaRefW2q
set_option linter.unusedVariables false
set_option linter.unusedSimpArgs false
section
namespace Go.Proofs.Ytcpkoajnepijkaa
open Go.RowKit Go.Proofs.YtcpkoajnepijkaaL Go.Proofs.YtcpkoajnepijkaaW.PrintWords Go.Proofs.Ytcpkoajnepijkaa.Q
theorem findP_name {s : ByteArray} : ∀ {l : List PF} {f : PF}, findP s l = some f → f.name = s
  | [], f, h => by cases h
  | g :: l, f, h => by
    unfold findP at h
    split at h
    · rename_i hg
      cases h
      exact hg
    · exact findP_name h
theorem known_calls {w : World} {P : Nat → Prop} {A : Option Addr} {c : Nat} {S : PS} (h : Kd.V k47 47 w w.heap.size P (.slice A (S.l.map toF).length c) (S.l.map toF)) (hB : BoundP S) (hN : NumP S) (hd : S.down = false) (x : S34) (h1 : 1 ≤ x.f0) (h4 : x.f0 ≤ 4) {A3 A5 : Option Addr} {n3 n5 c3 c5 : Nat} :
    Calls Try.prog 36 #[.agg #[.slice A (S.l.map toF).length c, .int .i64 S.no, .int .i64 S.ops, .int .i64 S.fuse, .int .i64 S.fault, .bool S.down], .agg #[.int .i64 x.f0, .string x.f1, .string x.f2, .slice A3 n3 c3, .int .i64 x.f4, .slice A5 n5 c5]] w fun e w' =>
      ∃ v', e = .returned (.tuple #[v', .int .i64 (doP S x).1]) ∧ RSt w' (fun k => P k ∨ w.heap.size ≤ k) v' (doP S x).2 ∧ Below w.heap.size w w' := by
  obtain ⟨kd, s, t, bs, n, ks⟩ := x
  simp only at h1 h4 ⊢
  have hfb : ∀ r : PS, (r.down = false) → (S.fuse == 0) = r.down → True := fun _ _ _ => trivial
  rcases idx_find s S.l 0 with ⟨hi, hf⟩ | ⟨i, f, hi, hg, hf⟩
  · have hd1 : doP S ⟨kd, s, t, bs, n, ks⟩ = (101, S) := by
      have h0 : ¬ kd = 0 := by omega
      have hc : kd = 1 ∨ kd = 2 ∨ kd = 3 ∨ kd = 4 := by omega
      rcases hc with rfl | rfl | rfl | rfl <;> simp [doP, syncP, renameP, removeP, cutP, beginP, hd, hf]
    rw [hd1]
    exact known_no h hB hf
  · rw [Nat.zero_add] at hi
    have hn := findP_name hf
    have hnm : namedB t = false ↔ t.size < 1 ∨ 20 < t.size := by
      unfold namedB
      rw [Bool.and_eq_false_iff, decide_eq_false_iff_not, decide_eq_false_iff_not]
      omega
    by_cases hbad : kd = 2 ∧ namedB t = false
    · obtain ⟨rfl, hb⟩ := hbad
      have hd1 : doP S ⟨2, s, t, bs, n, ks⟩ = (101, S) := by simp [doP, renameP, beginP, hd, hf, hb]
      rw [hd1]
      exact known_bad h hB hi (hnm.1 hb)
    · have hgood : kd = 2 → 1 ≤ t.size ∧ t.size ≤ 20 := fun e => by
        have : ¬ namedB t = false := fun hb => hbad ⟨e, hb⟩
        rw [hnm] at this
        omega
      have hgood' : kd = 2 → namedB t = true := fun e => by
        cases hb : namedB t
        · exact absurd ⟨e, hb⟩ hbad
        · rfl
      by_cases hfu : S.fuse = 0
      · have hd1 : doP S ⟨kd, s, t, bs, n, ks⟩ = (100, countP S) := by
          have hc : kd = 1 ∨ kd = 2 ∨ kd = 3 ∨ kd = 4 := by omega
          rcases hc with rfl | rfl | rfl | rfl
          · simp [doP, syncP, beginP, hd, hf, hfu]
          · simp [doP, renameP, beginP, hd, hf, hfu, hgood' rfl]
          · simp [doP, removeP, beginP, hd, hf, hfu]
          · simp [doP, cutP, beginP, hd, hf, hfu]
        rw [hd1]
        exact known_down h hB hN hd hi hgood hfu
      · have hfu' : (S.fuse == 0) = false := by simpa using hfu
        have hc : kd = 1 ∨ kd = 2 ∨ kd = 3 ∨ kd = 4 := by omega
        rcases hc with rfl | rfl | rfl | rfl
        · have hd1 : doP S ⟨1, s, t, bs, n, ks⟩ = (0, { countP S with l := withP ⟨f.name, bytesP f, []⟩ S.l }) := by simp [doP, syncP, beginP, hd, hf, hfu, countP]
          rw [hd1]
          exact known_sync h hB hN hd hi hg hfu
        · have hd1 : doP S ⟨2, s, t, bs, n, ks⟩ = (0, { countP S with l := withP { f with name := t } (withoutP f.name S.l) }) := by simp [doP, renameP, beginP, hd, hf, hfu, hgood' rfl, countP, hn]
          rw [hd1]
          exact known_rename h hB hN hd hi hg hfu (hgood rfl).1 (hgood rfl).2
        · have hd1 : doP S ⟨3, s, t, bs, n, ks⟩ = (0, { countP S with l := withoutP f.name S.l }) := by simp [doP, removeP, beginP, hd, hf, hfu, countP, hn]
          rw [hd1]
          exact known_remove h hB hN hd hi hg hfu
        · have hd1 : ∀ N, cutN n (bytesP f).length = N → doP S ⟨4, s, t, bs, n, ks⟩ = (0, { countP S with l := withP ⟨f.name, (bytesP f).take N, []⟩ S.l }) := by
            intro N hN
            simp [doP, cutP, beginP, hd, hf, hfu, countP, hN]
          by_cases c1 : n < 0
          · rw [hd1 0 (by unfold cutN; rw [if_pos c1])]
            exact known_cut0 h hB hN hd hi hg hfu c1
          · by_cases c2 : ((bytesP f).length : Int) < n
            · rw [hd1 (bytesP f).length (by unfold cutN; rw [if_neg c1, if_pos c2])]
              exact known_cut1 h hB hN hd hi hg hfu rfl c2
            · obtain ⟨N, rfl⟩ : ∃ N : Nat, n = (N : Int) := ⟨n.toNat, by omega⟩
              rw [hd1 N (by unfold cutN; rw [if_neg c1, if_neg c2]; rfl)]
              exact known_cut2 (n := 0) h hB hN hd hi hg hfu rfl (by omega)
end Go.Proofs.Ytcpkoajnepijkaa
end
section
namespace Go.Proofs.Ytcpkoajnepijkaa
open Go.RowKit Go.Proofs.YtcpkoajnepijkaaL Go.Proofs.YtcpkoajnepijkaaW.PrintWords Go.Proofs.Ytcpkoajnepijkaa.Q
theorem overs_le : ∀ (row : List PP) (b : List Int), b.length ≤ 65536 → (∀ p ∈ row, p.at_ + p.b.length ≤ 65536) → (row.foldl overP b).length ≤ 65536
  | [], b, h, _ => h
  | p :: row, b, h, hr => by
    refine overs_le row _ ?_ (fun q hq => hr q (List.mem_cons_of_mem _ hq))
    unfold overP
    rw [laidL_length]
    have := hr p List.mem_cons_self
    split <;> omega
theorem refw_calls {w : World} {P : Nat → Prop} {A : Option Addr} {c : Nat} {S : PS} (h : Kd.V k47 47 w w.heap.size P (.slice A (S.l.map toF).length c) (S.l.map toF)) (hB : BoundP S) (hN : NumP S) (hd : S.down = false) (x : S34) (h0 : x.f0 = 0) {A3 A5 : Option Addr} {n3 n5 c3 c5 : Nat} (h3 : Kd.V (Kd.int .u8) 5 w w.heap.size P (.slice A3 n3 c3) x.f3) (hbs : x.f3.length ≤ 1000000) :
    Calls Try.prog 35 #[.agg #[.slice A (S.l.map toF).length c, .int .i64 S.no, .int .i64 S.ops, .int .i64 S.fuse, .int .i64 S.fault, .bool S.down], .agg #[.int .i64 x.f0, .string x.f1, .string x.f2, .slice A3 n3 c3, .int .i64 x.f4, .slice A5 n5 c5]] w fun e w' =>
      ∃ v', e = .returned (.tuple #[v', .int .i64 (doP S x).1]) ∧ RSt w' (fun k => P k ∨ w.heap.size ≤ k) v' (doP S x).2 ∧ Below w.heap.size w w' := by
  obtain ⟨kd, s, t, bs, n, ks⟩ := x
  simp only at h0 h3 hbs ⊢
  subst h0
  have hdo : doP S ⟨0, s, t, bs, n, ks⟩ = writeP S s bs := by simp [doP]
  rw [hdo]
  have hnm : namedB s = false ↔ s.size < 1 ∨ 20 < s.size := by
    unfold namedB
    rw [Bool.and_eq_false_iff, decide_eq_false_iff_not, decide_eq_false_iff_not]
    omega
  by_cases hbad : namedB s = false ∨ (findP s S.l = none ∧ 8 ≤ S.l.length)
  · have hw : writeP S s bs = (101, S) := by
      unfold writeP
      rw [if_neg (by simp [hd]), if_pos hbad]
    rw [hw]
    rcases idx_find s S.l 0 with ⟨hi, hf⟩ | ⟨i, f, hi, hg, hf⟩
    · refine refw_bad (bs := []) (f := ⟨s, [], []⟩) h hB hN hd hi ?_
      rcases hbad with h1 | h1
      · rcases hnm.1 h1 with h2 | h2
        · exact .inl h2
        · exact .inr (.inl h2)
      · exact .inr (.inr ⟨by decide, h1.2⟩)
    · refine refw_bad (bs := []) (f := ⟨s, [], []⟩) h hB hN hd hi ?_
      rcases hbad with h1 | h1
      · rcases hnm.1 h1 with h2 | h2
        · exact .inl h2
        · exact .inr (.inl h2)
      · rw [hf] at h1
        cases h1.1
  · obtain ⟨idx, f, hidx, hf, hget, hroom⟩ : ∃ idx f, idxP s S.l 0 = idx ∧ ((idx = -1 ∧ f = ⟨s, [], []⟩) ∨ ∃ i : Nat, idx = i ∧ S.l[i]? = some f) ∧ (findP s S.l).getD ⟨s, [], []⟩ = f ∧ (idx < 0 → S.l.length < 8) := by
      rcases idx_find s S.l 0 with ⟨hi, hf⟩ | ⟨i, f, hi, hg, hf⟩
      · exact ⟨_, _, hi, .inl ⟨rfl, rfl⟩, by rw [hf]; rfl, fun _ => by
          by_cases hl : S.l.length < 8
          · exact hl
          · exact absurd (.inr ⟨hf, by omega⟩) hbad⟩
      · exact ⟨_, f, hi, .inr ⟨0 + i, rfl, by rw [Nat.zero_add]; exact hg⟩, by rw [hf]; rfl, fun h => by omega⟩
    have hn1 : 1 ≤ s.size ∧ s.size ≤ 20 := by
      have : ¬ namedB s = false := fun h => hbad (.inl h)
      rw [hnm] at this
      omega
    have hfB : f.b.length ≤ 65536 ∧ RowB f.row := by
      rcases hf with ⟨_, rfl⟩ | ⟨i, _, hg⟩
      · exact ⟨by simp, by simp [RowB]⟩
      · exact hB.2 f (List.mem_of_getElem? hg)
    have hfn : f.name = s := by
      rcases hf with ⟨_, rfl⟩ | ⟨i, _, hg⟩
      · rfl
      · cases hfi : findP s S.l with
        | none => rw [hfi] at hget; rw [← hget]; rfl
        | some f' => rw [hfi] at hget; rw [← hget]; exact findP_name hfi
    by_cases hlen : (bytesP f).length + bs.length > 65536
    · have hw : writeP S s bs = (103, S) := by
        unfold writeP
        rw [if_neg (by simp [hd]), if_neg hbad]
        simp only [hget]
        rw [if_pos hlen]
      rw [hw]
      exact refw_full h hB hN hd hidx h3 hf hfn hn1.1 hn1.2 hroom hfB hlen hbs (by have := overs_le f.row f.b hfB.1 hfB.2.2; exact Nat.le_trans this (by omega)) rfl
    · have hw : writeP S s bs = (if S.fault == 0 then (if S.fuse == 0 then 100 else 102, countP { S with fault := decP S.fault }) else (if S.fuse == 0 then 100 else 0, { countP { S with fault := decP S.fault } with l := withP { f with row := f.row ++ [⟨S.no, (bytesP f).length, bs⟩] } S.l, no := S.no + 1 })) := by
        unfold writeP
        rw [if_neg (by simp [hd]), if_neg hbad]
        simp only [hget]
        rw [if_neg hlen]
      rw [hw]
      by_cases hz : S.fault = 0
      · have hz' : (S.fault == 0) = true := by simpa using hz
        rw [if_pos hz']
        refine refw_ok (S2 := countP { S with fault := decP S.fault }) h hB hN hd hidx h3 hf hfn hn1.1 hn1.2 hroom hfB (by omega) hN rfl (by rw [if_pos hz]; rfl) (by rw [if_pos hz]; rfl) rfl rfl rfl rfl ?_
        by_cases hq : S.fuse = 0 <;> simp [countP, hq, hz]
      · have hz' : ¬ (S.fault == 0) = true := by simpa using hz
        rw [if_neg hz']
        refine refw_ok (S2 := { countP { S with fault := decP S.fault } with l := withP { f with row := f.row ++ [⟨S.no, (bytesP f).length, bs⟩] } S.l, no := S.no + 1 }) h hB hN hd hidx h3 hf hfn hn1.1 hn1.2 hroom hfB (by omega) hN rfl (by rw [if_neg hz]) (by rw [if_neg hz]) rfl rfl rfl rfl ?_
        by_cases hq : S.fuse = 0 <;> simp [countP, hq, hz]
end Go.Proofs.Ytcpkoajnepijkaa
end
