/- Contracts of the small functions of layer 1: Is (both), head, least, size, begins. -/
import Derived.Test.YtmfmnlioojkjgaaRows
import Derived.Test.YtmfmnlioojkjgaaUtfP
import Derived.WalkKit
import Derived.WalkSpells
import Derived.WalkLawsBesides
import Derived.Deep.QuietTactic
import Derived.BigQuiet
import Derived.Lib.Hide
namespace Go.Proofs.Ytmfmnlioojkjgaa
open Go.RowKit

theorem ret_bool {a b : Bool} (h : a = b) : Ending.returned (.bool a) = .returned (.bool b) := by rw [h]
theorem ret_int {k : IntKind} {a b : Int} (h : a = b) : Ending.returned (.int k a) = .returned (.int k b) := by rw [h]

set_option maxHeartbeats 400000 in
theorem refIs_any (r : Int) (w : World) :
    Calls Try.prog 35 #[.int .i32 r] w fun e w' => e = .returned (.bool (isC r)) ∧ w = w' := by
  go_enter Try.func35, Try.ntmps35
  go_wp2
  all_goals (go_ret; exact ⟨ret_bool (by unfold isC; rw [Bool.eq_iff_iff]; simp only [Bool.or_eq_true, Bool.and_eq_true, decide_eq_true_eq, Bool.false_eq_true, true_iff, false_iff]; omega), rfl⟩)
end Go.Proofs.Ytmfmnlioojkjgaa
