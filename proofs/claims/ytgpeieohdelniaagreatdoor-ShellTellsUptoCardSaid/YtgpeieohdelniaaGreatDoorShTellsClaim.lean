/- larchlaw28.ShellTells returns true for every event (P28.3), and its argument reads afterwards as it read before: where the event holds at most 1,048,576 values and letters; the listed package-level variables as the program's text lays them (the card ties them). -/
import Derived.Test.YtgpeieohdelniaaGreatDoorShTellsCard
namespace Go.Proofs.YtgpeieohdelniaaGreatDoor
open Go Go.Am Go.Am.Sh
set_option maxRecDepth 100000

theorem tells_alone : ({ Rows.shellTellsUptoRow with leaving := false } : OpenClaim).holds Tryz.pinned (Rows.OpenSpec.upto Rows.shellTellsSpec) :=
  OpenClaim.holds_of_cond 4 Tryz.f4 rfl rfl rfl rfl rfl rfl rfl ⟨rfl, rfl, rfl, rfl, rfl⟩ rfl rfl rfl rfl rfl (by kernel_rfl) Tryz.func4 (by kernel_rfl)
    (of_decide_eq_true (by kernel_rfl)) (by unfold Func.isWrapper; first | (rw [if_pos (by decide +kernel)]; kernel_rfl) | (rw [if_neg (by decide +kernel)]; exact ⟨rfl, rfl⟩))
    (fun os started H enc _ F => by rw [OpenClaim.pre_eq_preRow]; exact tells_lifted os started H enc F)
theorem tells_said : Rows.ShellTellsUptoSaid := holds_leaving rfl rfl rfl (by kernel_rfl) tells_alone
theorem tells_plain (f : FuncId) (fn : Func) (hf : Tryz.prog.funcNamed "larch/larchlaw28.ShellTells" = some f) (hfn : Tryz.prog.funcs[f]? = some fn) :
    true = Tryz.prog.looks [] ∧ ∀ (j : Nat) t, fn.params[j]? = some t → Tryz.prog.wantsStandIn t = false := by
  obtain rfl : f = 4 := (Option.some.inj ((show Tryz.prog.funcNamed "larch/larchlaw28.ShellTells" = some 4 by kernel_rfl).symm.trans hf)).symm
  obtain rfl : fn = Tryz.f4 := (Option.some.inj (Tryz.func4.symm.trans hfn)).symm
  exact ⟨by kernel_rfl, fun j t ht => by
    rw [Tryz.params4] at ht
    have h41 : t = 41 := by
      rcases j with _ | j
      · simpa using ht.symm
      · simp at ht
    subst h41
    exact (show Tryz.prog.wantsStandIn 41 = false by kernel_rfl)⟩
/-- ShellTells: every event's line. -/
theorem shellTells_card : Rows.ShellTellsUptoCardSaid :=
  holds_tied_goes .later _ _ _ _ true tells_said (by kernel_rfl) shellTellsUpto_row_tie rfl ⟨rfl, rfl⟩ (by kernel_rfl) rfl tells_plain (by kernel_rfl)
#print axioms shellTells_card
end Go.Proofs.YtgpeieohdelniaaGreatDoor
