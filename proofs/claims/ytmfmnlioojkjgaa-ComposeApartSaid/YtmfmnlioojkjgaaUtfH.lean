/- toponymref01.Next wherever it is asked; UtfNext: the walk. -/
import Derived.Test.YtmfmnlioojkjgaaUtfG
namespace Go.Proofs.Ytmfmnlioojkjgaa
open Go.RowKit
set_option linter.unusedVariables false

set_option maxHeartbeats 400000 in
theorem refNext_out (s : ByteArray) (i : Int) (h : i < 0 ∨ (s.size : Int) ≤ i) (hs : s.size ≤ 140737488351232) (w : World) :
    Calls Try.prog 32 #[.string s, .int .i64 i] w fun e w' => e = .returned (.tuple #[.int .i32 0, .int .i64 0]) ∧ Fresh w w' := by
  rcases h with h | h
  · go_enter Try.func32, Try.ntmps32
    go_wp2
    refine wp_loop_rounds 1 ?_
    rw [rounds_succ]
    go_wp2
    go_ret2
    exact ⟨rfl, Fresh.refl _⟩
  · have h0 : ¬ i < 0 := by omega
    go_enter Try.func32, Try.ntmps32
    go_wp2
    refine wp_loop_rounds 1 ?_
    rw [rounds_succ]
    go_wp2
    go_ret2
    exact ⟨rfl, Fresh.refl _⟩
theorem refNext_any (s : ByteArray) (i : Int) (hs : s.size ≤ 140737488351232) (w : World) :
    Calls Try.prog 32 #[.string s, .int .i64 i] w fun e w' => e = .returned (.tuple #[.int .i32 (nextI s i).1, .int .i64 (nextI s i).2]) ∧ Fresh w w' := by
  by_cases hi : 0 ≤ i ∧ i < (s.size : Int)
  · obtain ⟨p, rfl⟩ := Int.eq_ofNat_of_zero_le hi.1
    have e : nextI s (p : Int) = nxt s p := by unfold nextI; rw [if_pos hi]; rfl
    rw [e]
    exact refNext_in s p (by omega) hs w
  · have e : nextI s i = (0, 0) := by unfold nextI; rw [if_neg hi]
    rw [e]
    exact refNext_out s i (by omega) hs w
end Go.Proofs.Ytmfmnlioojkjgaa
