/- UtfNext: the walk. -/
import Derived.Test.YtpjcehljfdkehaaUtfH
namespace Go.Proofs.Ytpjcehljfdkehaa
open Go.RowKit
set_option linter.unusedVariables false

set_option maxHeartbeats 400000 in
theorem walk_UtfNext (b : ByteArray) (i : Int) (w : World) (hb : b.size ≤ 140737488351232) (_ : (Lit.int .i64 i).wf = true) :
    Calls Try.prog 5 #[.string b, .int .i64 i] w fun e w' => e = .returned (.bool true) ∧ Below w.heap.size w w' := by
  by_cases hz : b.size ≤ 200
  · go_enter Try.func5, Try.ntmps5
    go_wp2_with fail
    refine (awake01 _).mono ?_
    rintro e w1 ⟨rfl, h1⟩
    go_wp2_with fail
    refine (utfNext_any _ _ hb _).mono ?_
    rintro e w2 ⟨rfl, h2⟩
    go_wp2_with fail
    refine (refNext_any _ _ hb _).mono ?_
    rintro e w3 ⟨rfl, h3⟩
    go_wp2
    go_ret
    exact ⟨ret_bool (by simp), ((h1.trans h2).trans h3).below⟩
  · go_enter Try.func5, Try.ntmps5
    go_wp2_with fail
    refine (awake01 _).mono ?_
    rintro e w1 ⟨rfl, h1⟩
    go_wp2_with fail
    refine (awake01 _).mono ?_
    rintro e w2 ⟨rfl, h2⟩
    go_wp2
    go_ret
    exact ⟨rfl, (h1.trans h2).below⟩
end Go.Proofs.Ytpjcehljfdkehaa
