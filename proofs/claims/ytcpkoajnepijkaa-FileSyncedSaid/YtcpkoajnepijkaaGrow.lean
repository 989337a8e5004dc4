/- Bytes of the call's own beside a file system. No conditions. -/
import Derived.Test.YtcpkoajnepijkaaNames
import Derived.Test.YtcpkoajnepijkaaAlive2
namespace Go.Proofs.Ytcpkoajnepijkaa
set_option linter.unusedVariables false
set_option linter.unusedSimpArgs false
open Go.RowKit Go.Proofs.YtcpkoajnepijkaaL Go.Proofs.YtcpkoajnepijkaaW.PrintWords

section
variable {base : Nat} {Lz Lz' : Nat → Prop} {w w' : World} {v : Value} {xs : List Int} {F : Nat} {fp : Nat → Prop} {G : Nat → Prop} {st : FS} {M : Nat} {rv : Value} {cells : List Value} {S : PS} {k : Nat}
theorem RB.grow (h : RB base Lz w v xs) (ho : Only G w w') (hG : MutL base Lz w G) (hl : ∀ g, g < w.heap.size → Lz' g → Lz g) : RB base Lz' w' v xs := by
  have h1 : RB base (fun g => Lz g ∨ Lz' g) w v xs := h.loose (fun g hg hz => hz.elim id (hl g hg))
  exact (h1.onlyL ho (fun g hg => ⟨(hG g hg).1, fun h5 => .inl ((hG g hg).2 h5)⟩)).loose (fun g _ hz => .inr hz)
theorem FRepX.grow (h : FRepX base Lz w F fp st M rv cells) (ho : Only G w w') (hG : MutL base Lz w G) (hd : ∀ g, G g → ¬ fp g) (hl : ∀ g, Lz' g → (Lz g ∨ w.heap.size ≤ g) ∧ g < w'.heap.size) : FRepX base Lz' w' F fp st M rv cells := by
  have hb' := h.onlyL ho hG hd
  have hRB : ∀ v xs, RB base Lz w v xs → RB base Lz' w' v xs := fun v xs hv => hv.grow ho hG (fun g hg hz => ((hl g hz).1).resolve_right (by omega))
  refine ⟨hb'.blk, hb'.map, hb'.row, h.rowIs.imp hRB, fun g hg => ?_, h.filesLive, h.rowLive, h.fpF, h.fpM, h.fpR, h.fpI, hb'.fpb, hb'.fpl, hb'.hbase, fun g hg => (hl g hg).2⟩
  obtain ⟨v, h1, h2⟩ := h.ino g hg
  exact ⟨v, h1.to (ho.block g h1.lt (fun hh => hd g hh (h.fpI g hg))), hRB _ _ h2⟩
theorem FSat.grow (h : FSat base Lz w F fp S k) (ho : Only G w w') (hG : MutL base Lz w G) (hd : ∀ g, G g → ¬ fp g) (hl : ∀ g, Lz' g → (Lz g ∨ w.heap.size ≤ g) ∧ g < w'.heap.size) : FSat base Lz' w' F fp S k := by
  obtain ⟨st, nos, ⟨M, rv, cells, h1⟩, h2, h3⟩ := h
  exact ⟨st, nos, ⟨M, rv, cells, h1.grow ho hG hd hl⟩, h2, h3⟩

/-- The block of a slice of the call's own. -/
def OwnL (v : Value) : Nat → Prop := fun g => v.ownBlock = some g
theorem own_only (h : Own w base v xs) (ho : Only G w w') (hG : ∀ g, OwnL v g → ¬ G g) : Own w' base v xs :=
  Kd.R_of_own (row_only (Kd.own_of_R (enc := Value.int .u8) h) ho hG) (fun _ _ => trivial)
theorem own_T5 (h : Own w base v xs) : ∀ g, OwnL v g → T5 w g := fun g hg => by
  obtain ⟨cells, hh⟩ := own_typed (Kd.own_of_R (enc := Value.int .u8) h) g hg
  exact ⟨cells, _, hh⟩
theorem ownL_lt (h : Own w base v xs) : ∀ g, OwnL v g → g < w.heap.size := fun g hg => own_lt (Kd.own_of_R (enc := Value.int .u8) h) g hg
theorem ownL_base (h : Own w base v xs) : ∀ g, OwnL v g → base ≤ g := fun g hg => own_base (Kd.own_of_R (enc := Value.int .u8) h) g hg
theorem FSat.apart (h : FSat base Lz w F fp S k) (ho : Own w base v xs) : ∀ g, OwnL v g → ¬ fp g := fun g hg hf => (h.mut g hf).2 (own_T5 ho g hg)
theorem own_write_keep (h : FSat base Lz w F fp S k) (ho : Own w base v xs) (hw : Only fp w w') : Own w' base v xs := own_only ho hw (h.apart ho)
theorem grown_onlyL {v : Value} (hg : w.grownBy w' v.ownBlock) : Only (OwnL v) w w' :=
  (Only.refl _ w).grown hg (fun g e => .inl e)
end

/-- All is loose: bytes that lie in what came in. -/
def AllL : Nat → Prop := fun _ => True
theorem RB.any {base : Nat} {Lz : Nat → Prop} {w : World} {v : Value} {xs : List Int} (h : RB base AllL w v xs) : RB base Lz w v xs := h.loose (fun _ _ _ => trivial)

end Go.Proofs.Ytcpkoajnepijkaa
