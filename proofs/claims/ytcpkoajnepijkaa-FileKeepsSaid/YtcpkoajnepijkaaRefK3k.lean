/- Parts of the proof of the law that the last file states; declarations that nothing mentions are left out by a program. No conditions. -/
import Derived.Test.YtcpkoajnepijkaaRefK2k
namespace Go.Proofs.Ytcpkoajnepijkaa
set_option linter.unusedVariables false
set_option linter.unusedSimpArgs false
open Go.RowKit Go.Proofs.YtcpkoajnepijkaaL Go.Proofs.YtcpkoajnepijkaaW.PrintWords Go.Proofs.Ytcpkoajnepijkaa.Q
theorem file_at {w : World} {base m c : Nat} {P : Nat → Prop} {A : Option Addr} {l : List PF} (h : Kd.V k47 47 w base P (.slice A m c) (l.map toF)) {i : Nat} (hi : i < l.length) :
    ∃ ad A1 c1 A2 c2, A = some ad ∧ w.cell? (ad.add (i * 3)) = some (.string l[i].name) ∧ w.cell? ⟨(ad.add (i * 3)).block, (ad.add (i * 3)).off + 1, none⟩ = some (.slice A1 l[i].b.length c1) ∧ w.cell? ⟨(ad.add (i * 3)).block, (ad.add (i * 3)).off + 2, none⟩ = some (.slice A2 l[i].row.length c2) ∧
      l[i].b.length ≤ c1 ∧ Kd.F (Kd.int .u8) w P A1 l[i].b.length l[i].b ∧ l[i].row.length ≤ c2 ∧ Kd.F k91 w P A2 l[i].row.length (l[i].row.map toP) := by
  obtain ⟨hm, hc, hF⟩ := Kd.V_at h
  obtain ⟨ad, cs, e, hl, hK, hc0, hin⟩ := Kd.F_get hF z47 i (by omega) (by rw [List.length_map]; omega)
  rw [Int.toNat_natCast] at hK hc0
  have hx : (l.map toF).getD i z47 = toF l[i] := by simp [hi]
  rw [hx] at hK
  have hc : ∀ j u, cs[j]? = some u → w.cell? (ad.add (i * 3 + j)) = some u := hc0
  obtain ⟨A1, c1, A2, c2, rfl, l1, g1, l2, g2⟩ := k47_openF hK
  have hr : (toF l[i]).f2.length = l[i].row.length := by simp [toF]
  rw [hr] at l2 g2
  exact ⟨ad, A1, c1, A2, c2, e, hc 0 _ rfl, by rw [← add_field _ _ 1 (by omega)]; exact hc 1 _ rfl, by rw [← add_field _ _ 2 (by omega)]; exact (hc 2 _ rfl).trans (by rw [hr]), l1, g1, l2, g2⟩
end Go.Proofs.Ytcpkoajnepijkaa

