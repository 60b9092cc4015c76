/- The reference's greek, russian, Two. -/
import Derived.Test.YtakddihadfdkpaaChaB
namespace Go.Proofs.Ytakddihadfdkpaa
open Go.RowKit
set_option linter.unusedVariables false

def greekI (f n : Int) : Int := if 17 ≤ n then f + (n + 1) else f + n
def russI (f y n : Int) : Int := if n = 6 then y else if 6 < n then f + (n - 1) else f + n
set_option maxHeartbeats 400000 in
theorem greek_any (f n : Int) (hf : 0 ≤ f ∧ f ≤ 100000) (hn : 0 ≤ n ∧ n ≤ 1000) (w : World) :
    Calls Try.prog 34 #[.int .i64 f, .int .i64 n] w fun e w' => e = .returned (.int .i64 (greekI f n)) ∧ w = w' := by
  obtain ⟨f0, f1⟩ := hf
  obtain ⟨n0, n1⟩ := hn
  by_cases h : 17 ≤ n
  · have HZ : Hid (greekI f n = f + (n + 1)) := by unfold greekI; rw [if_pos h]; exact rfl
    go_enter Try.func34, Try.ntmps34
    go_wp2
    go_ret
    exact ⟨ret_int HZ.out.symm, rfl⟩
  · have HZ : Hid (greekI f n = f + n) := by unfold greekI; rw [if_neg h]; exact rfl
    go_enter Try.func34, Try.ntmps34
    go_wp2
    go_ret
    exact ⟨ret_int HZ.out.symm, rfl⟩
set_option maxHeartbeats 400000 in
theorem russ_any (f y n : Int) (hf : 0 ≤ f ∧ f ≤ 100000) (hn : 0 ≤ n ∧ n ≤ 1000) (w : World) :
    Calls Try.prog 35 #[.int .i64 f, .int .i64 y, .int .i64 n] w fun e w' => e = .returned (.int .i64 (russI f y n)) ∧ w = w' := by
  obtain ⟨f0, f1⟩ := hf
  obtain ⟨n0, n1⟩ := hn
  by_cases h6 : n = 6
  · have HZ : Hid (russI f y n = y) := by unfold russI; rw [if_pos h6]; exact rfl
    have hb : (n == 6) = true := by simp [h6]
    clear h6
    go_enter Try.func35, Try.ntmps35
    go_wp2
    go_ret
    exact ⟨ret_int HZ.out.symm, rfl⟩
  have hb : (n == 6) = false := by simp [h6]
  by_cases h : 6 < n
  · have HZ : Hid (russI f y n = f + (n - 1)) := by unfold russI; rw [if_neg h6, if_pos h]; exact rfl
    clear h6
    go_enter Try.func35, Try.ntmps35
    go_wp2
    go_ret
    exact ⟨ret_int HZ.out.symm, rfl⟩
  · have HZ : Hid (russI f y n = f + n) := by unfold russI; rw [if_neg h6, if_neg h]; exact rfl
    clear h6
    go_enter Try.func35, Try.ntmps35
    go_wp2
    go_ret
    exact ⟨ret_int HZ.out.symm, rfl⟩

theorem two_at (x : Int × Int × Int × Int) (hx : x ∈ RT) {a b v : Int} (h1 : x.1 = a) (h2 : x.2.1 ≤ b) (h3 : b ≤ x.2.2.1) (h4 : v = x.2.2.2 + (b - x.2.1)) : v = twoI a b := by
  rw [two_of hx ⟨h1, h2, h3⟩, h4]
theorem two_gr1 {b : Int} (h1 : 159 ≤ b) (h2 : b ≤ 182) : greekI 913 (b - 159) = twoI 131 b := by
  unfold greekI
  split
  · exact two_at (131, 176, 182, 931) (by decide +kernel) rfl (by first | (simp only; done) | (simp only; omega)) (by first | (simp only; done) | (simp only; omega)) (by first | (simp only; done) | (simp only; omega))
  · exact two_at (131, 159, 175, 913) (by decide +kernel) rfl (by first | (simp only; done) | (simp only; omega)) (by first | (simp only; done) | (simp only; omega)) (by first | (simp only; done) | (simp only; omega))
theorem two_gr2 {b : Int} (h1 : 191 ≤ b) (h2 : b ≤ 214) : greekI 945 (b - 191) = twoI 131 b := by
  unfold greekI
  split
  · exact two_at (131, 208, 214, 963) (by decide +kernel) rfl (by first | (simp only; done) | (simp only; omega)) (by first | (simp only; done) | (simp only; omega)) (by first | (simp only; done) | (simp only; omega))
  · exact two_at (131, 191, 207, 945) (by decide +kernel) rfl (by first | (simp only; done) | (simp only; omega)) (by first | (simp only; done) | (simp only; omega)) (by first | (simp only; done) | (simp only; omega))
theorem two_ru1 {b : Int} (h1 : 64 ≤ b) (h2 : b ≤ 96) : russI 1040 1025 (b - 64) = twoI 132 b := by
  unfold russI
  split
  · exact two_at (132, 70, 70, 1025) (by decide +kernel) rfl (by first | (simp only; done) | (simp only; omega)) (by first | (simp only; done) | (simp only; omega)) (by first | (simp only; done) | (simp only; omega))
  split
  · exact two_at (132, 71, 96, 1046) (by decide +kernel) rfl (by first | (simp only; done) | (simp only; omega)) (by first | (simp only; done) | (simp only; omega)) (by first | (simp only; done) | (simp only; omega))
  · exact two_at (132, 64, 69, 1040) (by decide +kernel) rfl (by first | (simp only; done) | (simp only; omega)) (by first | (simp only; done) | (simp only; omega)) (by first | (simp only; done) | (simp only; omega))
theorem two_ru2 {b : Int} (h1 : 112 ≤ b) (h2 : b < 127) : russI 1072 1105 (b - 112) = twoI 132 b := by
  unfold russI
  split
  · exact two_at (132, 118, 118, 1105) (by decide +kernel) rfl (by first | (simp only; done) | (simp only; omega)) (by first | (simp only; done) | (simp only; omega)) (by first | (simp only; done) | (simp only; omega))
  split
  · exact two_at (132, 119, 126, 1078) (by decide +kernel) rfl (by first | (simp only; done) | (simp only; omega)) (by first | (simp only; done) | (simp only; omega)) (by first | (simp only; done) | (simp only; omega))
  · exact two_at (132, 112, 117, 1072) (by decide +kernel) rfl (by first | (simp only; done) | (simp only; omega)) (by first | (simp only; done) | (simp only; omega)) (by first | (simp only; done) | (simp only; omega))
theorem two_ru3 {b : Int} (h1 : 127 < b) (h2 : b ≤ 145) : russI 1072 1105 (b - 112 - 1) = twoI 132 b := by
  unfold russI
  rw [if_neg (by omega), if_pos (by omega)]
  exact two_at (132, 128, 145, 1086) (by decide +kernel) rfl (by first | (simp only; done) | (simp only; omega)) (by first | (simp only; done) | (simp only; omega)) (by first | (simp only; done) | (simp only; omega))
theorem two_miss {a b : Int} (h : ¬ (a = 130 ∧ ((79 ≤ b ∧ b ≤ 88) ∨ (96 ≤ b ∧ b ≤ 121) ∨ (129 ≤ b ∧ b ≤ 154) ∨ (159 ≤ b ∧ b ≤ 241)))) (h1 : ¬ (a = 131 ∧ ((64 ≤ b ∧ b ≤ 150 ∧ b ≠ 127) ∨ (159 ≤ b ∧ b ≤ 182) ∨ (191 ≤ b ∧ b ≤ 214))))
    (h2 : ¬ (a = 132 ∧ ((64 ≤ b ∧ b ≤ 96) ∨ (112 ≤ b ∧ b ≤ 145 ∧ b ≠ 127)))) : -1 = twoI a b := by
  rcases two_cases a b with ⟨x, hx, hh, _⟩ | ⟨_, e⟩
  · exfalso
    have : (RT.all fun x => decide ((x.1 = 130 ∧ ((79 ≤ x.2.1 ∧ x.2.2.1 ≤ 88) ∨ (96 ≤ x.2.1 ∧ x.2.2.1 ≤ 121) ∨ (129 ≤ x.2.1 ∧ x.2.2.1 ≤ 154) ∨ (159 ≤ x.2.1 ∧ x.2.2.1 ≤ 241))) ∨
      (x.1 = 131 ∧ ((64 ≤ x.2.1 ∧ x.2.2.1 ≤ 126) ∨ (128 ≤ x.2.1 ∧ x.2.2.1 ≤ 150) ∨ (159 ≤ x.2.1 ∧ x.2.2.1 ≤ 182) ∨ (191 ≤ x.2.1 ∧ x.2.2.1 ≤ 214))) ∨
      (x.1 = 132 ∧ ((64 ≤ x.2.1 ∧ x.2.2.1 ≤ 96) ∨ (112 ≤ x.2.1 ∧ x.2.2.1 ≤ 126) ∨ (128 ≤ x.2.1 ∧ x.2.2.1 ≤ 145))))) = true := by decide +kernel
    have := of_decide_eq_true (List.all_eq_true.1 this x hx)
    unfold hitB at hh
    omega
  · exact e.symm
theorem Two.fin {a b v : Int} {w : World} (h : v = twoI a b) : (Ending.returned (.int .i64 v) = .returned (.int .i64 (twoI a b)) ∧ w = w) := ⟨by rw [h], rfl⟩
set_option maxHeartbeats 1600000 in
set_option maxRecDepth 100000 in
theorem two_any (a b : Int) (ha : 0 ≤ a ∧ a < 256) (hb : 0 ≤ b ∧ b < 256) (w : World) :
    Calls Try.prog 19 #[.int .i64 a, .int .i64 b] w fun e w' => e = .returned (.int .i64 (twoI a b)) ∧ w = w' := by
  obtain ⟨a0, a1⟩ := ha
  obtain ⟨b0, b1⟩ := hb
  by_cases e1 : a = 130
  · subst e1
    go_enter Try.func19, Try.ntmps19
    go_wp2
    all_goals
      go_ret
      first
        | exact Two.fin (two_at (130, 79, 88, 65296) (by decide +kernel) rfl (by first | (simp only; done) | (simp only; omega)) (by first | (simp only; done) | (simp only; omega)) (by first | rfl | (simp only; omega)))
        | exact Two.fin (two_at (130, 96, 121, 65313) (by decide +kernel) rfl (by first | (simp only; done) | (simp only; omega)) (by first | (simp only; done) | (simp only; omega)) (by first | rfl | (simp only; omega)))
        | exact Two.fin (two_at (130, 129, 154, 65345) (by decide +kernel) rfl (by first | (simp only; done) | (simp only; omega)) (by first | (simp only; done) | (simp only; omega)) (by first | rfl | (simp only; omega)))
        | exact Two.fin (two_at (130, 159, 241, 12353) (by decide +kernel) rfl (by first | (simp only; done) | (simp only; omega)) (by first | (simp only; done) | (simp only; omega)) (by first | rfl | (simp only; omega)))
        | exact Two.fin (two_miss (by omega) (by omega) (by omega))
  by_cases e2 : a = 131
  · subst e2
    by_cases c1 : 64 ≤ b ∧ b < 127
    · obtain ⟨c1, c2⟩ := c1
      have hb1 : (b != 127) = true := by simp; omega
      go_enter Try.func19, Try.ntmps19
      go_wp2
      go_ret
      exact Two.fin (two_at (131, 64, 126, 12449) (by decide +kernel) rfl (by first | (simp only; done) | (simp only; omega)) (by first | (simp only; done) | (simp only; omega)) (by first | rfl | (simp only; omega)))
    by_cases c3 : 128 ≤ b ∧ b ≤ 150
    · obtain ⟨c3, c4⟩ := c3
      have hb1 : (b != 127) = true := by simp; omega
      clear c1
      go_enter Try.func19, Try.ntmps19
      go_wp2
      go_ret
      exact Two.fin (two_at (131, 128, 150, 12512) (by decide +kernel) rfl (by first | (simp only; done) | (simp only; omega)) (by first | (simp only; done) | (simp only; omega)) (by first | rfl | (simp only; omega)))
    have c5 : b < 64 ∨ b = 127 ∨ 150 < b := by omega
    clear c1 c3
    rcases c5 with c5 | rfl | c5
    all_goals
      go_enter Try.func19, Try.ntmps19
      go_wp2_with (go_at_call 34; refine (greek_any _ _ (by omega) (by omega) _).mono ?_; rintro e w1 ⟨rfl, rfl⟩)
      all_goals
        go_ret
        first
          | exact Two.fin (two_miss (by omega) (by omega) (by omega))
          | exact Two.fin (two_gr1 (by omega) (by omega))
          | exact Two.fin (two_gr2 (by omega) (by omega))
  by_cases e3 : a = 132
  · subst e3
    by_cases c1 : 112 ≤ b ∧ b < 127
    · obtain ⟨c1, c2⟩ := c1
      have hb1 : (b != 127) = true := by simp; omega
      go_enter Try.func19, Try.ntmps19
      go_wp2_with (go_at_call 35; refine (russ_any _ _ _ (by omega) (by omega) _).mono ?_; rintro e w1 ⟨rfl, rfl⟩)
      go_ret
      exact Two.fin (two_ru2 (by omega) (by omega))
    by_cases c3 : 128 ≤ b ∧ b ≤ 145
    · obtain ⟨c3, c4⟩ := c3
      have hb1 : (b != 127) = true := by simp; omega
      clear c1
      go_enter Try.func19, Try.ntmps19
      go_wp2_with (go_at_call 35; refine (russ_any _ _ _ (by omega) (by omega) _).mono ?_; rintro e w1 ⟨rfl, rfl⟩)
      go_ret
      exact Two.fin (two_ru3 (by omega) (by omega))
    have c5 : b < 112 ∨ b = 127 ∨ 145 < b := by omega
    clear c1 c3
    rcases c5 with c5 | rfl | c5
    all_goals
      go_enter Try.func19, Try.ntmps19
      go_wp2_with (go_at_call 35; refine (russ_any _ _ _ (by omega) (by omega) _).mono ?_; rintro e w1 ⟨rfl, rfl⟩)
      all_goals
        go_ret
        first
          | exact Two.fin (two_miss (by omega) (by omega) (by omega))
          | exact Two.fin (two_ru1 (by omega) (by omega))
  · have g1 : (a == 130) = false := by simp [e1]
    have g2 : (a == 131) = false := by simp [e2]
    have g3 : (a == 132) = false := by simp [e3]
    have HZ : Hid (-1 = twoI a b) := two_miss (by omega) (by omega) (by omega)
    clear e1 e2 e3
    go_enter Try.func19, Try.ntmps19
    go_wp2
    go_ret
    exact Two.fin HZ.out
end Go.Proofs.Ytakddihadfdkpaa
