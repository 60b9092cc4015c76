/- Closed facts on the law TopScan's row and card, each by the kernel. -/
import Derived.Test.YtpmlggjhfiljmaaGreatDoorCards
import Derived.JoinedOf
import Derived.SevenTiedAt
import Derived.KernelRfl
namespace Go.Proofs.YtpmlggjhfiljmaaGreatDoor.topScan
set_option maxHeartbeats 12800000 in
theorem closed : joinedFacts Tryz.pinned.checked.prog 6 Tryz.f6 Rows.topScanSpec Rows.topScanRow = true := by
  unfold joinedFacts
  repeat' (with_reducible refine Bool.and_eq_true_iff.2 ⟨?_, ?_⟩)
  all_goals (as_aux_lemma => kernel_rfl)
theorem named : Tryz.pinned.checked.prog.funcNamed Rows.topScanRow.func = some 6 := by kernel_rfl
theorem inst : Tryz.f6.isInstance Tryz.pinned.checked.prog Rows.topScanRow.origin Rows.topScanRow.targs := of_decide_eq_true (by kernel_rfl)
theorem wrap : Tryz.f6.isWrapper Tryz.pinned.checked.prog Rows.topScanRow.wrapper Rows.topScanRow.mainSum := by unfold Func.isWrapper; first | (rw [if_pos (by decide +kernel)]; kernel_rfl) | (rw [if_neg (by decide +kernel)]; exact ⟨rfl, rfl⟩)
theorem wft : Rows.topScanRow.wfByText (OpenSpec.ofChange Rows.topScanSpec) = true := by kernel_rfl
theorem main : Tryz.pinned.checked.prog.mainIs = some (true, ("857ee87cd4def8f02e935a89a8b6bc7bbb18f73b966267fb87000182588f5bb7" : String).toList) := by kernel_rfl
theorem look : true = Tryz.pinned.checked.prog.looks [] := by kernel_rfl
theorem goes : false = Rows.topScanRow.goesBy Tryz.pinned.checked.prog := by kernel_rfl
theorem stand : ([5, 75, 75].all fun u => !Tryz.prog.wantsStandIn u) = true := by kernel_rfl
end Go.Proofs.YtpmlggjhfiljmaaGreatDoor.topScan
