/- Parts of the proof of the law that the last file states; declarations that nothing mentions are left out by a program. No conditions. -/
import Derived.Test.YtcpkoajnepijkaaRefK2q
set_option linter.unusedVariables false
set_option linter.unusedSimpArgs false
section
namespace Go.Proofs.Ytcpkoajnepijkaa
open Go.RowKit Go.Proofs.YtcpkoajnepijkaaL Go.Proofs.YtcpkoajnepijkaaW.PrintWords Go.Proofs.Ytcpkoajnepijkaa.Q
theorem file_at {w : World} {base m c : Nat} {P : Nat → Prop} {A : Option Addr} {l : List PF} (h : Kd.V k47 47 w base P (.slice A m c) (l.map toF)) {i : Nat} (hi : i < l.length) :
    ∃ ad A1 c1 A2 c2, A = some ad ∧ w.cell? (ad.add (i * 3)) = some (.string l[i].name) ∧ w.cell? ⟨(ad.add (i * 3)).block, (ad.add (i * 3)).off + 1, none⟩ = some (.slice A1 l[i].b.length c1) ∧ w.cell? ⟨(ad.add (i * 3)).block, (ad.add (i * 3)).off + 2, none⟩ = some (.slice A2 l[i].row.length c2) ∧
      l[i].b.length ≤ c1 ∧ Kd.F (Kd.int .u8) w P A1 l[i].b.length l[i].b ∧ l[i].row.length ≤ c2 ∧ Kd.F k91 w P A2 l[i].row.length (l[i].row.map toP) := by
  obtain ⟨hm, hc, hF⟩ := Kd.V_at h
  obtain ⟨ad, cs, e, hl, hK, hc0, hin⟩ := Kd.F_get hF z47 i (by omega) (by rw [List.length_map]; omega)
  rw [Int.toNat_natCast] at hK hc0
  have hx : (l.map toF).getD i z47 = toF l[i] := by simp [hi]
  rw [hx] at hK
  have hc : ∀ j u, cs[j]? = some u → w.cell? (ad.add (i * 3 + j)) = some u := hc0
  obtain ⟨A1, c1, A2, c2, rfl, l1, g1, l2, g2⟩ := k47_openF hK
  have hr : (toF l[i]).f2.length = l[i].row.length := by simp [toF]
  rw [hr] at l2 g2
  exact ⟨ad, A1, c1, A2, c2, e, hc 0 _ rfl, by rw [← add_field _ _ 1 (by omega)]; exact hc 1 _ rfl, by rw [← add_field _ _ 2 (by omega)]; exact (hc 2 _ rfl).trans (by rw [hr]), l1, g1, l2, g2⟩
end Go.Proofs.Ytcpkoajnepijkaa
end
section
namespace Go.Proofs.Ytcpkoajnepijkaa
open Go.RowKit Go.Proofs.YtcpkoajnepijkaaL Go.Proofs.YtcpkoajnepijkaaW.PrintWords Go.Proofs.Ytcpkoajnepijkaa.Q
def Fp (w0 : World) (P : Nat → Prop) (G : List Nat) (k : Nat) : Prop := (P k ∨ w0.heap.size ≤ k) ∧ k ∉ G
structure Fr (w0 w : World) (G : List Nat) : Prop where
  below : Below w0.heap.size w0 w
  lt : ∀ g ∈ G, w0.heap.size ≤ g ∧ g < w.heap.size
section
variable {w0 w w' w1 : World} {G : List Nat} {g : Nat} {P : Nat → Prop}
theorem Fr.start (w0 : World) : Fr w0 w0 [] := ⟨Below.refl _ _, fun g hg => by cases hg⟩
theorem Fr.call (h : Fr w0 w G) (hb : Below w.heap.size w w') : Fr w0 w' G := ⟨below_step h.below hb, fun g hg => ⟨(h.lt g hg).1, Nat.lt_of_lt_of_le (h.lt g hg).2 hb.size⟩⟩
theorem Fr.size (h : Fr w0 w G) : w0.heap.size ≤ w.heap.size := below_size h.below
theorem Fr.box (h : Fr w0 w G) (hg : g = w.heap.size) (hb : Below w.heap.size w w1) (hl : g < w1.heap.size) : Fr w0 w1 (g :: G) := ⟨below_step h.below hb, fun k hk => by
  rcases List.mem_cons.1 hk with rfl | hk
  · exact ⟨hg ▸ h.size, hl⟩
  · exact ⟨(h.lt k hk).1, Nat.lt_of_lt_of_le (h.lt k hk).2 hb.size⟩⟩
theorem Fr.store (h : Fr w0 w G) (hz : w'.heap.size = w.heap.size) (hb : ∀ {B w0}, Below B w0 w → B ≤ g → Below B w0 w') (hg : g ∈ G) : Fr w0 w' G := ⟨hb h.below (h.lt g hg).1, fun k hk => ⟨(h.lt k hk).1, by rw [hz]; exact (h.lt k hk).2⟩⟩
theorem Fr.ne (h : Fr w0 w G) {k : Nat} (hk : k ∈ G) (hg : g = w.heap.size) : k ≠ g := fun e => by have := (h.lt k hk).2; omega
variable {α : Type} {d : Kd α} {e base base' : Nat} {v : Value} {xs : List α}
theorem Fp.start (h : Kd.V d e w0 base P v xs) : Kd.V d e w0 base' (Fp w0 P []) v xs := Kd.V_map h (fun _ hf => Kd.F_mono hf (fun k hk => ⟨.inl hk, by simp⟩))
theorem Fp.step (h : Kd.V d e w base (Fp w0 P G) v xs) (hb : Below w.heap.size w w') : Kd.V d e w' base' (Fp w0 P G) v xs := Kd.V_map (Kd.V_below h hb) (fun _ hf => hf)
theorem Fp.box (h : Kd.V d e w base (Fp w0 P G) v xs) (hg : g = w.heap.size) (hb : Below w.heap.size w w1) : Kd.V d e w1 base' (Fp w0 P (g :: G)) v xs :=
  Kd.V_map (Kd.V_below (Kd.V_bound h) hb) (fun _ hf => Kd.F_mono hf (fun k hk => ⟨hk.1.1, by
    intro hm
    rcases List.mem_cons.1 hm with rfl | hm
    · have := hk.2; omega
    · exact hk.1.2 hm⟩))
theorem Fp.store (h : Kd.V d e w base (Fp w0 P G) v xs) (hk : YtcpkoajnepijkaaW.PrintWords.Kept w w' (fun k => k = g)) (hg : g ∈ G) : Kd.V d e w' base' (Fp w0 P G) v xs :=
  Kd.V_map (Kd.V_kept h hk (fun k hk e => hk.2 (e ▸ hg))) (fun _ hf => hf)
theorem Fp.told (h : Kd.V d e w' base (fun k => Fp w0 P G k ∨ w.heap.size ≤ k) v xs) (hF : Fr w0 w G) : Kd.V d e w' base' (Fp w0 P G) v xs :=
  Kd.V_map h (fun _ hf => Kd.F_mono hf (fun k hk => by
    rcases hk with hk | hk
    · exact hk
    · exact ⟨.inr (Nat.le_trans hF.size hk), fun hm => by have := (hF.lt k hm).2; omega⟩))
end
theorem V_rebase {α : Type} {d : Kd α} {e base base' : Nat} {w : World} {P : Nat → Prop} {v : Value} {xs : List α} (h : Kd.V d e w base P v xs) : Kd.V d e w base' P v xs := Kd.V_map h (fun _ hf => hf)
theorem V_len {α : Type} {d : Kd α} {e base m c : Nat} {A : Option Addr} {w : World} {P : Nat → Prop} {xs : List α} (h : Kd.V d e w base P (.slice A m c) xs) : m = xs.length := by
  obtain ⟨A', c', e, _⟩ := h
  cases e
  rfl
theorem ref_without {w : World} {base : Nat} {Q : Nat → Prop} {A : Option Addr} {m c m2 : Nat} {l : List PF} {s : ByteArray} (h : Kd.V k47 47 w base Q (.slice A m c) (l.map toF)) (hl : l.length ≤ 1000000) (hm2 : ((withoutP s l).map toF).length = m2) (a b e f : Int) (g : Bool) :
    Calls Try.prog 56 #[.agg #[.slice A m c, .int .i64 a, .int .i64 b, .int .i64 e, .int .i64 f, .bool g], .string s] w fun x w' => ∃ A' c', x = .returned (.agg #[.slice A' m2 c', .int .i64 a, .int .i64 b, .int .i64 e, .int .i64 f, .bool g]) ∧
      Kd.V k47 47 w' w'.heap.size (fun k => Q k ∨ w.heap.size ≤ k) (.slice A' m2 c') ((withoutP s l).map toF) ∧ Below w.heap.size w w' := by
  have hm := V_len h
  subst hm hm2
  refine (souffleurref10_without.calls (l.length + 1) Q A c (l.map toF) a b e f g s _ _ _ _ _ _ w (V_rebase h) (without_tells l hl s a b e f g (by omega))).mono ?_
  rintro _ w' ⟨v, rfl, hv, hb⟩
  obtain ⟨A', c', rfl⟩ := Kd.N_slice hv
  exact ⟨A', c', rfl, Kd.N_V hv, hb⟩
theorem ref_with {w : World} {base base1 base2 : Nat} {Q : Nat → Prop} {A A1 A2 : Option Addr} {m c n1 c1 n2 c2 m2 : Nat} {l : List PF} {f : PF} (h : Kd.V k47 47 w base Q (.slice A m c) (l.map toF)) (h1 : Kd.V (Kd.int .u8) 5 w base1 Q (.slice A1 n1 c1) f.b) (h2 : Kd.V k91 91 w base2 Q (.slice A2 n2 c2) (f.row.map toP)) (hl : l.length ≤ 1000000) (hm2 : ((withP f l).map toF).length = m2) (a b e x : Int) (g : Bool) :
    Calls Try.prog 55 #[.agg #[.slice A m c, .int .i64 a, .int .i64 b, .int .i64 e, .int .i64 x, .bool g], .agg #[.string f.name, .slice A1 n1 c1, .slice A2 n2 c2]] w fun y w' => ∃ A' c', y = .returned (.agg #[.slice A' m2 c', .int .i64 a, .int .i64 b, .int .i64 e, .int .i64 x, .bool g]) ∧
      Kd.V k47 47 w' w'.heap.size (fun k => Q k ∨ w.heap.size ≤ k) (.slice A' m2 c') ((withP f l).map toF) ∧ Below w.heap.size w w' := by
  have hm := V_len h
  have hm1 := V_len h1
  have hm3 := V_len h2
  subst hm hm1 hm3 hm2
  refine (souffleurref10_with.calls (l.length + 1) Q A c (l.map toF) a b e x g f.name Q A1 c1 f.b Q A2 c2 (f.row.map toP) _ _ _ _ _ _ w (V_rebase h) (V_rebase h1) (V_rebase h2) (with_tells f l hl a b e x g (by omega))).mono ?_
  rintro _ w' ⟨v, rfl, hv, hb⟩
  obtain ⟨A', c', rfl⟩ := Kd.N_slice hv
  exact ⟨A', c', rfl, Kd.V_mono (Kd.N_V hv) (fun k hk => hk.elim (fun h => .inl (by rcases h with h | h | h <;> exact h)) .inr), hb⟩
theorem ref_bytes {w : World} {base1 base2 : Nat} {Q : Nat → Prop} {A1 A2 : Option Addr} {n1 c1 n2 c2 m2 : Nat} {f : PF} {s : ByteArray} (h1 : Kd.V (Kd.int .u8) 5 w base1 Q (.slice A1 n1 c1) f.b) (h2 : Kd.V k91 91 w base2 Q (.slice A2 n2 c2) (f.row.map toP)) (hb : f.b.length ≤ 65536) (hr : RowB f.row) (hm2 : (bytesP f).length = m2) :
    Calls Try.prog 53 #[.agg #[.string s, .slice A1 n1 c1, .slice A2 n2 c2]] w fun y w' => ∃ A' c', y = .returned (.slice A' m2 c') ∧ Kd.V (Kd.int .u8) 5 w' w'.heap.size (fun k => w.heap.size ≤ k) (.slice A' m2 c') (bytesP f) ∧ Below w.heap.size w w' := by
  have hm1 := V_len h1
  have hm3 := V_len h2
  subst hm1 hm3 hm2
  obtain ⟨_, l1, g1⟩ := Kd.V_at h1
  obtain ⟨_, l2, g2⟩ := Kd.V_at h2
  have ht : souffleurref10_Bytes.f 500000 s f.b (f.row.map toP) = some (bytesP f) := bytes_tells { f with name := s } hb hr (Nat.le_refl _)
  refine (souffleurref10_Bytes.calls 500000 s A1 c1 f.b A2 c2 (f.row.map toP) _ w (Kd.F_now g1) l1 (Kd.F_now g2) l2 ht).mono ?_
  rintro _ w' ⟨v, rfl, hv, hb⟩
  obtain ⟨A', c', rfl⟩ := Kd.R_slice hv
  exact ⟨A', c', rfl, Kd.V_mono (Kd.N_V (Kd.R_N (Kd.R_bound hv))) (fun k hk => hk.2.1), hb⟩
theorem file_V {w : World} {base m c : Nat} {Q : Nat → Prop} {A : Option Addr} {l : List PF} {f : PF} (h : Kd.V k47 47 w base Q (.slice A m c) (l.map toF)) {i : Nat} (hi : l[i]? = some f) :
    ∃ ad A1 n1 c1 A2 n2 c2, A = some ad ∧ w.cell? (ad.add (i * 3)) = some (.string f.name) ∧ w.cell? ⟨(ad.add (i * 3)).block, (ad.add (i * 3)).off + 1, none⟩ = some (.slice A1 n1 c1) ∧ w.cell? ⟨(ad.add (i * 3)).block, (ad.add (i * 3)).off + 2, none⟩ = some (.slice A2 n2 c2) ∧
      Kd.V (Kd.int .u8) 5 w w.heap.size Q (.slice A1 n1 c1) f.b ∧ Kd.V k91 91 w w.heap.size Q (.slice A2 n2 c2) (f.row.map toP) ∧ (i : Int) < (m : Int) := by
  have hm := V_len h
  rw [List.length_map] at hm
  obtain ⟨hlt, rfl⟩ := List.getElem?_eq_some_iff.1 hi
  obtain ⟨ad, A1, c1, A2, c2, e, h0, h1, h2, l1, g1, l2, g2⟩ := file_at h hlt
  refine ⟨ad, A1, _, c1, A2, _, c2, e, h0, h1, h2, ⟨A1, c1, rfl, l1, g1⟩, ⟨A2, c2, by rw [List.length_map], by rw [List.length_map]; exact l2, by rw [List.length_map]; exact g2⟩, by omega⟩
end Go.Proofs.Ytcpkoajnepijkaa
end
