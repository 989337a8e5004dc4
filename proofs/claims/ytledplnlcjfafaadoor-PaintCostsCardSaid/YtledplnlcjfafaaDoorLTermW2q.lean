/- Parts of the proof of the law that the last file states; declarations that nothing mentions are left out by a program. No conditions. -/
import Derived.Lib.SlicesS
import Derived.Test.YtledplnlcjfafaaDoorLTermHq
set_option linter.unusedVariables false
set_option linter.unusedSimpArgs false
namespace Go.Proofs.YtledplnlcjfafaaDoorL
open Go Go.RowKit Go.Proofs.YtledplnlcjfafaaDoorW.PrintWords
theorem Addr.add_lit_ (b o j : Nat) : (⟨b, o, none⟩ : Addr).add j = ⟨b, o + j, none⟩ := by unfold Addr.add; split <;> simp_all
set_option maxHeartbeats 2000000 in
set_option maxRecDepth 100000 in
theorem clone_row_calls (ad : Addr) (n c : Nat) (cs : List Value) (w : World) (hl : cs.length = n * 3) (hc : ∀ j u, cs[j]? = some u → w.cell? (ad.add j) = some u) (h1 : ∀ u ∈ cs, u.oneCell' = true) (hn : n ≤ 1000000) :
    Calls Tryd.prog 38 #[.slice (some ad) n c] w fun e w' => ∃ v', e = .returned v' ∧ w'.ownsRow w.heap.size 42 3 v' n cs ∧ Below w.heap.size w w' := by
  obtain ⟨i0, hi, hz0, hz1, hz2⟩ := info_parts infoCellz
  have hq : ∀ (w : World) (a : Option Addr) (n c n' c' : Nat), (binOp .eql 40 (.slice a n c) (.slice none n' c')).run Tryd.prog w = .ok (.bool a.isNone) w := fun w a n c n' c' => Lib.run_eql_slice_nil w _ _ a n c n' c' Tryd.underlying40
  have hu := Tryd.underlying40
  have A : Hd (∀ j u, cs[j]? = some u → w.cell? (ad.add j) = some u) := ⟨hc⟩
  have H1 := Hd.mk h1
  have HL := Hd.mk hl
  clear hc h1 hl
  go_enter Tryd.func38, Tryd.ntmps38
  go_wp2_with (at_builtin; refine wpList_append_own _ rfl _ _ 40 rfl w.heap.size 42 i0 _ 3 32 hu hi hz0 hz1 hz2 rfl (by decide) _ _ _ rfl (World.ownsRow_made w #[] 0 (Nat.le_refl _) (Nat.zero_le _) rfl) ad n c cs rfl HL.out ?qc2 H1.out ?qc4 ?qc5 ?qc6 ?_)
  case qc2 => intro j u hj; exact Lib.cell?_alloc_some _ (A.out j u hj)
  case qc4 => unfold maxLen; omega
  case qc5 => omega
  case qc6 => simp
  intro v' w1 hown hgrow hnil
  have HO := Hd.mk hown
  have HG := Hd.mk hgrow
  clear hown hgrow hnil
  go_wp2
  go_ret
  exact ⟨v', rfl, by have := HO.out; simpa using this, ((Below.refl _ w).alloc (Nat.le_refl _) _).grown HG.out (by simp) (by intro k hk; simp [Value.ownBlock] at hk; omega)⟩
theorem infoByte : (Tryd.prog.info? 5).map (fun i => (i.zero, i.size, i.bytes)) = some (some (.int .u8 0), 1, 1) := by kernel_rfl
end Go.Proofs.YtledplnlcjfafaaDoorL

