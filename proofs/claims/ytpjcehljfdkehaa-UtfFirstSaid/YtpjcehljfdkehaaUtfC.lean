/- UtfFirst: the walk. -/
import Derived.Test.YtpjcehljfdkehaaUtfB
import Derived.Test.YtpjcehljfdkehaaUtfQ
namespace Go.Proofs.Ytpjcehljfdkehaa
open Go.RowKit
set_option maxHeartbeats 400000 in
theorem walk_UtfFirst (a b : Int) (w : World) (_ : (Lit.int .i32 a).wf = true) (_ : (Lit.int .i32 b).wf = true) :
    Calls Try.prog 3 #[.int .i32 a, .int .i32 b] w fun e w' => e = .returned (.bool true) ∧ Below w.heap.size w w' := by
  go_enter Try.func3, Try.ntmps3
  go_wp2_with fail
  refine (utfBytes_any _ _).mono ?_
  rintro e w1 ⟨rfl, h1⟩
  go_wp2_with fail
  refine (utfBytes_any _ _).mono ?_
  rintro e w2 ⟨rfl, h2⟩
  go_wp2_with fail
  refine (awake01 _).mono ?_
  rintro e w3 ⟨rfl, h3⟩
  have hB : Hid (Below w.heap.size w w3) := ((h1.trans h2).trans h3).below
  go_wp2
  · go_ret
    exact ⟨rfl, hB.out⟩
  · go_ret
    exact ⟨rfl, hB.out⟩
  · have hp := first_pure ‹_› ‹_› ‹_›
    go_ret
    exact ⟨ret_bool (by simp [hp]), hB.out⟩
  · go_ret
    exact ⟨rfl, hB.out⟩
end Go.Proofs.Ytpjcehljfdkehaa
