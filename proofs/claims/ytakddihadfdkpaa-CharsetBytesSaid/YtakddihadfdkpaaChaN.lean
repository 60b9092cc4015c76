/- CharsetEncode: the walk. -/
import Derived.Test.YtakddihadfdkpaaChaM
namespace Go.Proofs.Ytakddihadfdkpaa
open Go.RowKit
set_option linter.unusedVariables false

theorem wf32c {r : Int} (h : (Lit.int .i32 r).wf = true) : -2147483648 ≤ r ∧ r < 2147483648 := by
  simp [Lit.wf, IntKind.min, IntKind.max, IntKind.bits, IntKind.signed] at h
  omega
theorem next_self {enc r : Int} {l : List Int} (h0 : 0 ≤ enc) (h8 : enc ≤ 8) (h : encC enc r = some l) : nextC enc (strOfNums l) 0 = (r, ((strOfNums l).size : Int)) := by
  have := next_enc (p := 0) h0 h8 h (stands_self (encC_bytes h).1)
  rw [strOfNums_size]
  exact this
set_option maxHeartbeats 800000 in
theorem encode_none (enc r : Int) (w : World) (he : 0 ≤ enc ∧ enc ≤ 8) (hr : -2147483648 ≤ r ∧ r < 2147483648) (hc : encC enc r = none) :
    Calls Try.prog 4 #[.int .i64 enc, .int .i32 r] w fun e w' => e = .returned (.bool true) ∧ Below w.heap.size w w' := by
  have HP := pEnc_str enc r
  have HQ := rEnc_str enc r he.1 he.2 hr
  rw [encP_in he, hc] at HP
  rw [hc] at HQ
  unfold BytesStr at HP HQ
  have HO : (none : Option (List Int)).isSome = false := rfl
  rw [HO] at HP HQ
  generalize strC none = z at HP HQ
  have HP := Lib.hid HP
  have HQ := Lib.hid HQ
  obtain ⟨e0, e8⟩ := he
  clear HO hc
  go_enter Try.func4, Try.ntmps4
  go_wp2_with fail
  refine (awake02 _).mono ?_
  rintro e w1 ⟨rfl, h1⟩
  go_wp2_with fail
  refine (HP.out _).mono ?_
  rintro e w2 ⟨rfl, h2⟩
  go_wp2_with fail
  refine (HQ.out _).mono ?_
  rintro e w3 ⟨rfl, h3⟩
  go_wp2
  go_ret
  exact ⟨rfl, ((h1.trans h2).trans h3).below⟩
set_option maxHeartbeats 800000 in
theorem encode_some (enc r : Int) (l : List Int) (w : World) (he : 0 ≤ enc ∧ enc ≤ 8) (hr : -2147483648 ≤ r ∧ r < 2147483648) (hc : encC enc r = some l) :
    Calls Try.prog 4 #[.int .i64 enc, .int .i32 r] w fun e w' => e = .returned (.bool true) ∧ Below w.heap.size w w' := by
  have HP := pEnc_str enc r
  have HQ := rEnc_str enc r he.1 he.2 hr
  rw [encP_in he, hc] at HP
  rw [hc] at HQ
  unfold BytesStr at HP HQ
  have HO : (some l : Option (List Int)).isSome = true := rfl
  have HS : strC (some l) = strOfNums l := rfl
  rw [HO, HS] at HP HQ
  have hz := (encC_bytes hc).2.2
  have hsz := strOfNums_size l
  have hx := next_self he.1 he.2 hc
  generalize strOfNums l = z at HP HQ hsz hx
  have HC := chNext_any enc z 0 (by omega)
  rw [hx] at HC
  have HP := Lib.hid HP
  have HQ := Lib.hid HQ
  have HC := Lib.hid HC
  obtain ⟨e0, e8⟩ := he
  clear HO HS hc hx hsz hz
  go_enter Try.func4, Try.ntmps4
  go_wp2_with fail
  refine (awake02 _).mono ?_
  rintro e w1 ⟨rfl, h1⟩
  go_wp2_with fail
  refine (HP.out _).mono ?_
  rintro e w2 ⟨rfl, h2⟩
  go_wp2_with fail
  refine (HQ.out _).mono ?_
  rintro e w3 ⟨rfl, h3⟩
  go_wp2_with ((go_at_call 9; refine (HC.out _).mono ?_; rintro e w4 ⟨rfl, h4⟩))
  go_ret
  exact ⟨rfl, (((h1.trans h2).trans h3).trans h4).below⟩
theorem none_str : (strC none).toList.isEmpty = true := by decide +kernel
set_option maxHeartbeats 800000 in
theorem encode_out (enc r : Int) (w : World) (he : ¬ (0 ≤ enc ∧ enc ≤ 8)) :
    Calls Try.prog 4 #[.int .i64 enc, .int .i32 r] w fun e w' => e = .returned (.bool true) ∧ Below w.heap.size w w' := by
  have HP := pEnc_str enc r
  rw [encP_out he] at HP
  unfold BytesStr at HP
  have HO : (none : Option (List Int)).isSome = false := rfl
  rw [HO] at HP
  have hn := none_str
  generalize strC none = z at HP hn
  have HP := Lib.hid HP
  have HE : z.toList = [] := by simpa using hn
  have h' : enc < 0 ∨ (0 ≤ enc ∧ 8 < enc) := by omega
  clear he HO hn
  rcases h' with h' | ⟨i0, h'⟩
  all_goals
    go_enter Try.func4, Try.ntmps4
    go_wp2_with fail
    refine (awake02 _).mono ?_
    rintro e w1 ⟨rfl, h1⟩
    go_wp2_with fail
    refine (HP.out _).mono ?_
    rintro e w2 ⟨rfl, h2⟩
    go_wp2
    go_ret
    exact ⟨rfl, (h1.trans h2).below⟩
theorem walk_CharsetEncode (enc r : Int) (w : World) (_ : (Lit.int .i64 enc).wf = true) (hr : (Lit.int .i32 r).wf = true) :
    Calls Try.prog 4 #[.int .i64 enc, .int .i32 r] w fun e w' => e = .returned (.bool true) ∧ Below w.heap.size w w' := by
  by_cases he : 0 ≤ enc ∧ enc ≤ 8
  · cases hc : encC enc r with
    | none => exact encode_none enc r w he (wf32c hr) hc
    | some l => exact encode_some enc r l w he (wf32c hr) hc
  · exact encode_out enc r w he
end Go.Proofs.Ytakddihadfdkpaa
