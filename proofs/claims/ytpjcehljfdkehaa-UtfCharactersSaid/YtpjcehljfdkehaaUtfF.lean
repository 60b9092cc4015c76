/- UtfCharacters: the walk. -/
import Derived.Test.YtpjcehljfdkehaaUtfE
namespace Go.Proofs.Ytpjcehljfdkehaa
open Go.RowKit
set_option linter.unusedVariables false

set_option maxHeartbeats 400000 in
theorem chars_no (r : Int) (hc : isC r = false) (w : World) :
    Calls Try.prog 4 #[.int .i32 r] w fun e w' => e = .returned (.bool true) ∧ Below w.heap.size w w' := by
  have he := encS_none hc
  have HE := Lib.hid he
  have HC := Lib.hid hc
  clear he hc
  go_enter Try.func4, Try.ntmps4
  go_wp2_with fail
  refine (utfBytes_any _ _).mono ?_
  rintro e w1 ⟨rfl, h1⟩
  rw [HE.out]
  go_wp2_with fail
  refine (awake01 _).mono ?_
  rintro e w2 ⟨rfl, h2⟩
  go_wp2_with fail
  refine (utfIs_any _ _).mono ?_
  rintro e w3 ⟨rfl, rfl⟩
  rw [HC.out]
  go_wp2_with fail
  refine (refIs_any _ _).mono ?_
  rintro e w3 ⟨rfl, rfl⟩
  rw [HC.out]
  go_wp2_with fail
  refine (refIs_any _ _).mono ?_
  rintro e w3 ⟨rfl, rfl⟩
  rw [HC.out]
  go_wp2
  go_ret
  exact ⟨ret_bool (by decide +kernel), (h1.trans h2).below⟩
set_option maxHeartbeats 400000 in
theorem chars_yes (r : Int) (hc : isC r = true) (w : World) :
    Calls Try.prog 4 #[.int .i32 r] w fun e w' => e = .returned (.bool true) ∧ Below w.heap.size w w' := by
  have HC := Lib.hid hc
  have he := nextI_enc hc
  have HE := Lib.hid he
  have hz := size_enc hc
  have HZ := Lib.hid hz
  have hsm : (encS r).size ≤ 140737488351232 := by rcases szI_cases r with h | h | h | h <;> omega
  clear he hz
  go_enter Try.func4, Try.ntmps4
  go_wp2_with fail
  refine (utfBytes_any _ _).mono ?_
  rintro e w1 ⟨rfl, h1⟩
  go_wp2_with fail
  refine (awake01 _).mono ?_
  rintro e w2 ⟨rfl, h2⟩
  go_wp2_with fail
  refine (utfIs_any _ _).mono ?_
  rintro e w3 ⟨rfl, rfl⟩
  go_wp2_with fail
  refine (refIs_any _ _).mono ?_
  rintro e w3 ⟨rfl, rfl⟩
  go_wp2_with fail
  refine (refIs_any _ _).mono ?_
  rintro e w3 ⟨rfl, rfl⟩
  go_wp2_with fail
  refine (utfNext_any _ _ hsm _).mono ?_
  rintro e w4 ⟨rfl, h4⟩
  rw [HE.out]
  go_wp2_with fail
  refine (refBytes_any _ HC.out _).mono ?_
  rintro e w5 ⟨rfl, h5⟩
  rw [← HZ.out]
  go_wp2
  go_ret
  exact ⟨ret_bool (by simp), (((h1.trans h2).trans h4).trans h5).below⟩
theorem walk_UtfCharacters (r : Int) (w : World) (_ : (Lit.int .i32 r).wf = true) :
    Calls Try.prog 4 #[.int .i32 r] w fun e w' => e = .returned (.bool true) ∧ Below w.heap.size w w' := by
  cases hc : isC r with
  | true => exact chars_yes r hc w
  | false => exact chars_no r hc w
end Go.Proofs.Ytpjcehljfdkehaa
