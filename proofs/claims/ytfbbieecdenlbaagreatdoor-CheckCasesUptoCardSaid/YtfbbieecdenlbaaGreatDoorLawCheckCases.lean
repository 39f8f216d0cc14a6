/-
  redpenlaw22.CheckCases, where what it reads is of bulk at most 1048576: the card: whatever the size and the numbers, the law is true, and its arguments read as they did.
-/
import Derived.Test.YtfbbieecdenlbaaGreatDoorLiftCases
namespace Go.Proofs.YtfbbieecdenlbaaGreatDoor
open Go.ChangeShapes Go.WideShapes Go.ChangeAt Go.RowKit
set_option maxRecDepth 100000

theorem checkCases_facts : joinedFacts Tryz.prog 3 Tryz.f3 Rows.checkCasesSpec Rows.checkCasesUptoRow = true := by kernel_rfl
theorem checkCases_closed : joinedFacts Tryz.prog 3 Tryz.f3 (Rows.OpenSpec.upto Rows.checkCasesSpec).bare Rows.checkCasesUptoRow = true := by
  have h := checkCases_facts
  unfold joinedFacts at h ⊢
  exact h

theorem checkCases_over : Rows.CheckCasesUptoSaid :=
  OpenClaim.holds_of_cond 3 Tryz.f3 rfl rfl rfl rfl rfl rfl rfl ⟨rfl, rfl, rfl, rfl, rfl⟩ rfl rfl rfl rfl rfl (by kernel_rfl) Tryz.func3 checkCases_closed
    (of_decide_eq_true (by kernel_rfl)) (by unfold Func.isWrapper; first | (rw [if_pos (by decide +kernel)]; kernel_rfl) | (rw [if_neg (by decide +kernel)]; exact ⟨rfl, rfl⟩))
    (fun os started H enc _ F => by rw [OpenClaim.pre_eq_preRow]; exact checkCases_lifted os started H enc F)

theorem checkCases_holds : Rows.CheckCasesUptoCardSaid :=
  Claim7.holds_tied_plain_at .later [] _ _ _ _ checkCases_over (fun _ h => by cases h) (by kernel_rfl) (fun _ h => by cases h) checkCasesUpto_row_tie rfl ⟨rfl, rfl⟩ (by kernel_rfl) rfl
    (fun f fn hf hfn => by
      obtain rfl : f = 3 := Option.some.inj ((show Tryz.prog.funcNamed Rows.checkCasesUptoRow.func = some 3 by kernel_rfl).symm.trans hf) |>.symm
      obtain rfl : fn = Tryz.f3 := (Option.some.inj (Tryz.func3.symm.trans hfn)).symm
      exact ⟨by kernel_rfl, fun j t ht => by
        rw [Tryz.params3] at ht
        have hm : t ∈ [25, 5, 5] := by have := Array.mem_of_getElem? ht; simp at this ⊢; omega
        have hall : ([25, 5, 5].all fun u => !Tryz.prog.wantsStandIn u) = true := by kernel_rfl
        exact (show Tryz.prog.wantsStandIn t = false by simpa using List.all_eq_true.1 hall t hm)⟩)
    (by kernel_rfl)
#print axioms checkCases_holds
end Go.Proofs.YtfbbieecdenlbaaGreatDoor
