/- Parts of the proof of the law that the last file states; declarations that nothing mentions are left out by a program. No conditions. -/
import Derived.Test.YtbhiljaipikklaaGreatDoorLRefNextq
import Derived.Test.YtbhiljaipikklaaGreatDoorLBoxq
set_option linter.unusedVariables false
set_option linter.unusedSimpArgs false
namespace Go.Proofs.YtbhiljaipikklaaGreatDoorL
open Go Go.RowKit Go.Lib Go.Proofs.YtbhiljaipikklaaGreatDoorW.PrintWords Go.Proofs.YtbhiljaipikklaaGreatDoor.R
theorem nb_bytes (s : ByteArray) : Go.Proofs.YtbhiljaipikklaaGreatDoorW.PrintWords.bytesOf s = nb s.data.toList := rfl
theorem bytes_V (w : World) (s : ByteArray) (hs : s.size ≤ 9223372036854775807) (base : Nat) :
    Kd.V (Kd.int .u8) 5 (Lib.bytesWorld w 5 s) base (fun k => k = w.heap.size) (.slice (some ⟨w.heap.size, 0, none⟩) (nb s.data.toList).length (grownCap w s.size 0 5)) (nb s.data.toList) := by
  have hz : (nb s.data.toList).length = s.size := by rw [nb_length, ← Lib.size_eq]
  refine Kd.V_mk (by rw [hz]; exact grownCap_ge w s.size 0 5) (fun W' hW => ?_)
  have hcell : ∀ j, W'.cell? ⟨w.heap.size, j, none⟩ = (Lib.bytesWorld w 5 s).cell? ⟨w.heap.size, j, none⟩ := fun j => by
    have := hW w.heap.size rfl (by rw [Lib.bytesWorld_size]; omega)
    simp only [World.cell?, this]
  rw [hz]
  refine Kd.C_of_reads (enc := Value.int .u8) (d := (0 : Int)) (h1 := fun _ => rfl) ?_
  have h := bytes_reads w 5 s hs
  rw [nb_bytes] at h
  refine ⟨h.1, h.2.1, fun hn => ?_⟩
  obtain ⟨ad, e, hc⟩ := h.2.2 hn
  injection e with e
  subst e
  refine ⟨_, rfl, fun j hj => ?_⟩
  have := hc j hj
  rw [add_plain] at this ⊢
  rw [hcell]
  exact this
def accP (rs : List Nat) (j : Nat) : List Int := nb (enc (plainR (rs.take j)))
theorem accP_zero (rs : List Nat) : accP rs 0 = [] := rfl
theorem nb_append (a b : List UInt8) : nb (a ++ b) = nb a ++ nb b := by unfold nb; rw [List.map_append]
theorem nb_encode (r : Int) : nb (encodeRune r) = encodeRuneZ r := by
  unfold nb encodeRune
  rw [List.map_map]
  have : ∀ l : List Int, (∀ x ∈ l, 0 ≤ x ∧ x < 256) → l.map ((fun b : UInt8 => (b.toNat : Int)) ∘ fun x => x.toNat.toUInt8) = l := by
    intro l hl
    induction l with
    | nil => rfl
    | cons x l ih =>
      rw [List.map_cons, ih (fun y hy => hl y (List.mem_cons_of_mem _ hy))]
      have := hl x List.mem_cons_self
      congr 1
      show ((x.toNat.toUInt8).toNat : Int) = x
      rw [byte_nat x this.1 this.2]
      omega
  exact this _ (encodeRuneZ_byte r)
theorem accP_step (rs : List Nat) (j : Nat) (hj : j < rs.length) : accP rs (j + 1) = if 0 ≤ plainF (rs[j] : Int) then accP rs j ++ encodeRuneZ (plainF (rs[j] : Int)) else accP rs j := by
  unfold accP
  have e : rs.take (j + 1) = rs.take j ++ [rs[j]] := by
    rw [List.take_add_one, List.getElem?_eq_getElem hj]
    rfl
  rw [e]
  unfold plainR
  rw [List.filter_append, List.map_append, enc_append, nb_append]
  by_cases h : 0 ≤ plainF (rs[j] : Int)
  · rw [if_pos h]
    congr 1
    have e2 : (([rs[j]].filter fun (r : Nat) => decide (0 ≤ plainF (r : Int))).map fun (r : Nat) => (plainF (r : Int)).toNat) = [(plainF (rs[j] : Int)).toNat] := by simp [h]
    rw [e2]
    have e3 : enc [(plainF (rs[j] : Int)).toNat] = encodeRune (((plainF (rs[j] : Int)).toNat : Nat) : Int) := by unfold enc; simp
    rw [e3, nb_encode, Int.toNat_of_nonneg h]
  · rw [if_neg h]
    have e2 : (([rs[j]].filter fun (r : Nat) => decide (0 ≤ plainF (r : Int))).map fun (r : Nat) => (plainF (r : Int)).toNat) = [] := by simp [h]
    rw [e2]
    show nb (enc (plainR (rs.take j))) ++ nb [] = _
    unfold nb
    simp [plainR]
theorem accP_len (rs : List Nat) : ∀ j, j ≤ rs.length → (accP rs j).length ≤ 4 * j
  | 0, _ => by rw [accP_zero]; exact Nat.le_refl _
  | j + 1, h => by
    have ih := accP_len rs j (by omega)
    rw [accP_step rs j (by omega)]
    split
    · rw [List.length_append]
      have := (encodeRuneZ_length (plainF (rs[j] : Int))).2
      omega
    · omega
end Go.Proofs.YtbhiljaipikklaaGreatDoorL

