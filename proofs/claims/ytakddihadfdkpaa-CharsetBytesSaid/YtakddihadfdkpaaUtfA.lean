/- Contracts of the small functions of layer 1: Is (both), head, least, size, begins. -/
import Derived.Test.YtakddihadfdkpaaRows
import Derived.Test.YtakddihadfdkpaaUtfP
import Derived.WalkKit
import Derived.WalkSpells
import Derived.WalkLawsBesides
import Derived.Deep.QuietTactic
import Derived.BigQuiet
import Derived.Lib.Hide
namespace Go.Proofs.Ytakddihadfdkpaa
open Go.RowKit

theorem ret_bool {a b : Bool} (h : a = b) : Ending.returned (.bool a) = .returned (.bool b) := by rw [h]
theorem ret_int {k : IntKind} {a b : Int} (h : a = b) : Ending.returned (.int k a) = .returned (.int k b) := by rw [h]

set_option maxHeartbeats 400000 in
theorem utfIs_any (r : Int) (w : World) :
    Calls Try.prog 21 #[.int .i32 r] w fun e w' => e = .returned (.bool (isC r)) ∧ w = w' := by
  go_enter Try.func21, Try.ntmps21
  go_wp2
  all_goals (go_ret; exact ⟨ret_bool (by unfold isC; rw [Bool.eq_iff_iff]; simp only [Bool.or_eq_true, Bool.and_eq_true, decide_eq_true_eq, Bool.false_eq_true, true_iff, false_iff]; omega), rfl⟩)
set_option maxHeartbeats 400000 in
theorem refIs_any (r : Int) (w : World) :
    Calls Try.prog 26 #[.int .i32 r] w fun e w' => e = .returned (.bool (isC r)) ∧ w = w' := by
  go_enter Try.func26, Try.ntmps26
  go_wp2
  all_goals (go_ret; exact ⟨ret_bool (by unfold isC; rw [Bool.eq_iff_iff]; simp only [Bool.or_eq_true, Bool.and_eq_true, decide_eq_true_eq, Bool.false_eq_true, true_iff, false_iff]; omega), rfl⟩)
set_option maxHeartbeats 400000 in
theorem head_any (n : Int) (w : World) :
    Calls Try.prog 29 #[.int .i64 n] w fun e w' => e = .returned (.tuple #[.int .u8 (hup n), .int .i64 (hbits n)]) ∧ w = w' := by
  by_cases h1 : n = 1
  · subst h1
    go_enter Try.func29, Try.ntmps29
    go_wp2
    go_ret2
    exact ⟨rfl, rfl⟩
  · by_cases h2 : n = 2
    · subst h2
      go_enter Try.func29, Try.ntmps29
      go_wp2
      go_ret2
      exact ⟨rfl, rfl⟩
    · by_cases h3 : n = 3
      · subst h3
        go_enter Try.func29, Try.ntmps29
        go_wp2
        go_ret2
        exact ⟨rfl, rfl⟩
      · have e1 : (n == 1) = false := by simp [h1]
        have e2 : (n == 2) = false := by simp [h2]
        have e3 : (n == 3) = false := by simp [h3]
        have e4 : Ending.returned (.tuple #[.int .u8 240, .int .i64 5]) = Ending.returned (.tuple #[.int .u8 (hup n), .int .i64 (hbits n)]) := by unfold hup hbits; simp [h1, h2, h3]
        have E4 : Hid (Ending.returned (.tuple #[.int .u8 240, .int .i64 5]) = Ending.returned (.tuple #[.int .u8 (hup n), .int .i64 (hbits n)])) := e4
        clear h1 h2 h3 e4
        go_enter Try.func29, Try.ntmps29
        go_wp2
        go_ret2
        exact ⟨E4.out, rfl⟩
set_option maxHeartbeats 400000 in
theorem least_any (w : World) :
    Calls Try.prog 37 #[] w fun e w' => e = .returned (.agg #[.int .i32 0, .int .i32 0, .int .i32 128, .int .i32 2048, .int .i32 65536]) ∧ Fresh w w' := by
  go_enter Try.func37, Try.ntmps37
  go_wp2
  exact bodyPost_ret (v := .agg #[.int .i32 0, .int .i32 0, .int .i32 128, .int .i32 2048, .int .i32 65536]) (by simp [results, Try.results37, go_sem]) rfl ⟨rfl, (Fresh.refl _).alloc _⟩
set_option maxHeartbeats 400000 in
theorem size_any (r : Int) (w : World) :
    Calls Try.prog 30 #[.int .i32 r] w fun e w' => e = .returned (.int .i64 (szI r)) ∧ Fresh w w' := by
  have i2 : ∀ w, (Instr.index 68 (.agg #[.int .i32 0, .int .i32 0, .int .i32 128, .int .i32 2048, .int .i32 65536]) (.int .i64 2)).run Try.prog w = .ok (.int .i32 128) w := fun _ => by kernel_rfl
  have i3 : ∀ w, (Instr.index 68 (.agg #[.int .i32 0, .int .i32 0, .int .i32 128, .int .i32 2048, .int .i32 65536]) (.int .i64 3)).run Try.prog w = .ok (.int .i32 2048) w := fun _ => by kernel_rfl
  have i4 : ∀ w, (Instr.index 68 (.agg #[.int .i32 0, .int .i32 0, .int .i32 128, .int .i32 2048, .int .i32 65536]) (.int .i64 4)).run Try.prog w = .ok (.int .i32 65536) w := fun _ => by kernel_rfl
  go_enter Try.func30, Try.ntmps30
  go_wp2
  refine wp_loop_rounds 4 ?_
  rw [rounds_succ]
  go_wp2_with (go_at_call 37; refine (least_any _).mono ?_; rintro e w1 ⟨rfl, hb1⟩)
  · rw [rounds_succ]
    go_wp2_with (go_at_call 37; refine (least_any _).mono ?_; rintro e w2 ⟨rfl, hb2⟩)
    · rw [rounds_succ]
      go_wp2_with (go_at_call 37; refine (least_any _).mono ?_; rintro e w3 ⟨rfl, hb3⟩)
      · rw [rounds_succ]
        go_wp2
        go_ret
        exact ⟨ret_int (by unfold szI; repeat' split; all_goals omega), (hb1.trans hb2).trans hb3⟩
      · go_ret
        exact ⟨ret_int (by unfold szI; repeat' split; all_goals omega), (hb1.trans hb2).trans hb3⟩
    · go_ret
      exact ⟨ret_int (by unfold szI; repeat' split; all_goals omega), hb1.trans hb2⟩
  · go_ret
    exact ⟨ret_int (by unfold szI; repeat' split; all_goals omega), hb1⟩

set_option maxHeartbeats 400000 in
theorem begins_any (c : Int) (h0 : 0 ≤ c) (h1 : c ≤ 255) (w : World) :
    Calls Try.prog 28 #[.int .u8 c] w fun e w' => e = .returned (.int .i64 (bgI c)) ∧ Fresh w w' := by
  have hf : ∀ n, Fresh w (w.drewN n) := fun n => Fresh.drewN (Fresh.refl w) n
  have Hf := Lib.hid hf
  clear hf
  by_cases a1 : c < 128
  · have hb : bgI c = 1 := by unfold bgI; simp [a1]
    have HB := Lib.hid hb
    clear hb
    go_enter Try.func28, Try.ntmps28
    go_wp2
    refine wp_loop_rounds 5 ?_
    rw [rounds_succ]
    go_wp2
    go_quiet (fail)
    go_wp2
    go_ret
    exact ⟨ret_int HB.out.symm, by first | exact Hf.out _ | exact (Hf.out _).drewN _⟩
  by_cases a2 : 192 ≤ c ∧ c < 224
  · have hb : bgI c = 2 := by unfold bgI; rw [if_neg (by omega), if_pos a2]
    obtain ⟨a2, a3⟩ := a2
    have HB := Lib.hid hb
    clear hb
    go_enter Try.func28, Try.ntmps28
    go_wp2
    refine wp_loop_rounds 5 ?_
    rw [rounds_succ]
    go_wp2
    go_quiet (fail)
    go_wp2
    rw [rounds_succ]
    go_wp2
    go_quiet (fail)
    go_wp2
    go_ret
    exact ⟨ret_int HB.out.symm, by first | exact Hf.out _ | exact (Hf.out _).drewN _⟩
  by_cases a4 : 224 ≤ c ∧ c < 240
  · have hb : bgI c = 3 := by unfold bgI; rw [if_neg (by omega), if_neg (by omega), if_pos a4]
    obtain ⟨a4, a5⟩ := a4
    clear a2
    have HB := Lib.hid hb
    clear hb
    go_enter Try.func28, Try.ntmps28
    go_wp2
    refine wp_loop_rounds 5 ?_
    rw [rounds_succ]
    go_wp2
    go_quiet (fail)
    go_wp2
    rw [rounds_succ]
    go_wp2
    go_quiet (fail)
    go_wp2
    rw [rounds_succ]
    go_wp2
    go_quiet (fail)
    go_wp2
    go_ret
    exact ⟨ret_int HB.out.symm, by first | exact Hf.out _ | exact (Hf.out _).drewN _⟩
  by_cases a6 : 240 ≤ c ∧ c < 248
  · have hb : bgI c = 4 := by unfold bgI; rw [if_neg (by omega), if_neg (by omega), if_neg (by omega), if_pos a6]
    obtain ⟨a6, a7⟩ := a6
    clear a2 a4
    have HB := Lib.hid hb
    clear hb
    go_enter Try.func28, Try.ntmps28
    go_wp2
    refine wp_loop_rounds 5 ?_
    rw [rounds_succ]
    go_wp2
    go_quiet (fail)
    go_wp2
    rw [rounds_succ]
    go_wp2
    go_quiet (fail)
    go_wp2
    rw [rounds_succ]
    go_wp2
    go_quiet (fail)
    go_wp2
    rw [rounds_succ]
    go_wp2
    go_quiet (fail)
    go_wp2
    go_ret
    exact ⟨ret_int HB.out.symm, by first | exact Hf.out _ | exact (Hf.out _).drewN _⟩
  · have hb : bgI c = 0 := by unfold bgI; rw [if_neg (by omega), if_neg (by omega), if_neg (by omega), if_neg (by omega)]
    have e2 : (c / 32 == 6) = false := by simp; omega
    have e3 : (c / 16 == 14) = false := by simp; omega
    have e4 : (c / 8 == 30) = false := by simp; omega
    have HB := Lib.hid hb
    clear hb a2 a4 a6
    go_enter Try.func28, Try.ntmps28
    go_wp2
    refine wp_loop_rounds 5 ?_
    rw [rounds_succ]
    go_wp2
    go_quiet (fail)
    go_wp2
    rw [rounds_succ]
    go_wp2
    go_quiet (fail)
    go_wp2
    rw [rounds_succ]
    go_wp2
    go_quiet (fail)
    go_wp2
    rw [rounds_succ]
    go_wp2
    go_quiet (fail)
    go_wp2
    rw [rounds_succ]
    go_wp2
    go_ret
    exact ⟨ret_int HB.out.symm, by first | exact Hf.out _ | exact (Hf.out _).drewN _⟩
end Go.Proofs.Ytakddihadfdkpaa
