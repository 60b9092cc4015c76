/- The reference's Apart: bubbles, plainly; its Class; the walk. -/
import Derived.Test.YtmfmnlioojkjgaaSrtQ
namespace Go.Proofs.Ytmfmnlioojkjgaa
open Go.RowKit
set_option linter.unusedVariables false
set_option linter.unnecessarySimpa false
set_option linter.unusedSimpArgs false

/-! ### bubbles -/
def bub : List Int → List Int
  | [] => []
  | [x] => [x]
  | x :: y :: l => if 0 < clsI y ∧ clsI y < clsI x then y :: bub (x :: l) else x :: bub (y :: l)
termination_by l => l.length
theorem bub_swap {x y : Int} (l : List Int) (h : 0 < clsI y ∧ clsI y < clsI x) : bub (x :: y :: l) = y :: bub (x :: l) := by rw [bub, if_pos h]
theorem bub_stay {x y : Int} (l : List Int) (h : ¬ (0 < clsI y ∧ clsI y < clsI x)) : bub (x :: y :: l) = x :: bub (y :: l) := by rw [bub, if_neg h]
theorem bub_one (x : Int) : bub [x] = [x] := by rw [bub]
theorem bub_nil : bub [] = [] := by rw [bub]
theorem bub_ord : ∀ (n : Nat) (l : List Int), l.length ≤ n → ordA (bub l) = ordA l
  | _, [], _ => by rw [bub_nil]
  | _, [x], _ => by rw [bub_one]
  | 0, x :: y :: l, h => by simp at h
  | n + 1, x :: y :: l, h => by
    simp at h
    by_cases q : 0 < clsI y ∧ clsI y < clsI x
    · rw [bub_swap l q]
      have e1 : ordA (y :: bub (x :: l)) = ordA (y :: x :: l) := ordA_pre [y] (bub_ord n (x :: l) (by simp; omega))
      rw [e1]
      exact (ordA_swap [] l q).symm
    · rw [bub_stay l q]
      exact ordA_pre [x] (bub_ord n (y :: l) (by simp; omega))
theorem bub_len : ∀ (n : Nat) (l : List Int), l.length ≤ n → (bub l).length = l.length
  | _, [], _ => by rw [bub_nil]
  | _, [x], _ => by rw [bub_one]
  | 0, x :: y :: l, h => by simp at h
  | n + 1, x :: y :: l, h => by
    simp at h
    by_cases q : 0 < clsI y ∧ clsI y < clsI x
    · rw [bub_swap l q, List.length_cons, bub_len n (x :: l) (by simp; omega)]; simp
    · rw [bub_stay l q, List.length_cons, bub_len n (y :: l) (by simp; omega)]; simp
/-- of each 202 the number of the 230s ahead of it in its run: the greatest -/
def mz : Nat → List Int → Nat
  | _, [] => 0
  | z, x :: l => if clsI x = 230 then mz (z + 1) l else if clsI x = 202 then max z (mz z l) else mz 0 l
theorem mz_le : ∀ (l : List Int) (z : Nat), mz z l ≤ z + l.length
  | [], z => by simp [mz]
  | x :: l, z => by
    have h1 := mz_le l (z + 1)
    have h2 := mz_le l z
    have h3 := mz_le l 0
    unfold mz
    simp only [List.length_cons]
    split
    · omega
    split
    · omega
    · omega
theorem mz_nf : ∀ {l : List Int} {z : Nat}, mz z l = 0 → Nf l
  | [], _, _ => trivial
  | [x], _, _ => trivial
  | x :: y :: l, z, h => by
    have hx := cls_three x
    have hy := cls_three y
    refine ⟨fun q => ?_, ?_⟩
    · have ex : clsI x = 230 := by omega
      have ey : clsI y = 202 := by omega
      simp [mz, ex, ey] at h
    · unfold mz at h
      split at h
      · exact mz_nf h
      split at h
      · exact mz_nf (z := z) (by omega)
      · exact mz_nf h
theorem bub_keep {x : Int} (hx : clsI x ≠ 230) (l : List Int) : bub (x :: l) = x :: bub l := by
  cases l with
  | nil => rw [bub_one, bub_nil]
  | cons y l =>
    have := cls_three x
    have := cls_three y
    rw [bub_stay l (by omega)]
theorem bub_mz : ∀ l : List Int, (∀ (z : Nat) (x : Int), clsI x = 230 → mz z (bub (x :: l)) ≤ mz (z + 1) l - 1) ∧ mz 0 (bub l) ≤ mz 0 l - 1
  | [] => ⟨fun z x hx => by rw [bub_one]; simp [mz, hx], by rw [bub_nil]; simp [mz]⟩
  | y :: l => by
    obtain ⟨ih1, ih2⟩ := bub_mz l
    have hy := cls_three y
    refine ⟨fun z x hx => ?_, ?_⟩
    · rcases hy with e | e | e
      · rw [bub_stay l (by omega), bub_keep (by omega)]
        have e1 : mz z (x :: y :: bub l) = mz 0 (bub l) := by simp [mz, hx, e]
        have e2 : mz (z + 1) (y :: l) = mz 0 l := by simp [mz, e]
        rw [e1, e2]; exact ih2
      · rw [bub_swap l (by omega)]
        have e1 : mz z (y :: bub (x :: l)) = max z (mz z (bub (x :: l))) := by simp [mz, e]
        have e2 : mz (z + 1) (y :: l) = max (z + 1) (mz (z + 1) l) := by simp [mz, e]
        have := ih1 z x hx
        rw [e1, e2]; omega
      · rw [bub_stay l (by omega)]
        have e1 : mz z (x :: bub (y :: l)) = mz (z + 1) (bub (y :: l)) := by simp [mz, hx]
        have e2 : mz (z + 1) (y :: l) = mz (z + 1 + 1) l := by simp [mz, e]
        have := ih1 (z + 1) y e
        rw [e1, e2]; exact this
    · rcases hy with e | e | e
      · rw [bub_keep (by omega)]
        simp [mz, e]; exact ih2
      · rw [bub_keep (by omega)]
        simp [mz, e]; exact ih2
      · have := ih1 0 y e
        have e2 : mz 0 (y :: l) = mz (0 + 1) l := by simp [mz, e]
        rw [e2]; exact this
def bubs : Nat → List Int → List Int
  | 0, l => l
  | k + 1, l => bub (bubs k l)
theorem bubs_ord (k : Nat) (l : List Int) : ordA (bubs k l) = ordA l := by
  induction k with
  | zero => rfl
  | succ k ih => show ordA (bub (bubs k l)) = _; rw [bub_ord _ _ (Nat.le_refl _), ih]
theorem bubs_len (k : Nat) (l : List Int) : (bubs k l).length = l.length := by
  induction k with
  | zero => rfl
  | succ k ih => show (bub (bubs k l)).length = _; rw [bub_len _ _ (Nat.le_refl _), ih]
theorem bubs_mz (k : Nat) (l : List Int) : mz 0 (bubs k l) ≤ mz 0 l - k := by
  induction k with
  | zero => exact Nat.le_refl _
  | succ k ih =>
    have := (bub_mz (bubs k l)).2
    show mz 0 (bub (bubs k l)) ≤ _
    omega
theorem bubs_all (l : List Int) : bubs l.length l = ordA l := by
  have h1 := bubs_mz l.length l
  have h2 := mz_le l 0
  have h3 : Nf (bubs l.length l) := mz_nf (z := 0) (by omega)
  rw [← nf_ord h3, bubs_ord]

/-! ### the reference's Class touches nothing -/
def ClsRel2 (r : Int) (w : World) (i : Value) (wr : World) : Prop := ∃ k : Nat, i = .int .i64 k ∧ k ≤ 13 ∧ (∀ j : Nat, j < k → mkI j ≠ r) ∧ wr = w
set_option maxHeartbeats 800000 in
theorem refClass_same (r : Int) (w : World) : Calls Try.prog 16 #[.int .i32 r] w fun e w' => e = .returned (.int .i64 (clsI r)) ∧ w = w' := by
  go_enter Try.func16, Try.ntmps16
  go_wp2
  go_loopw [3] (fun i wr => ClsRel2 r w i wr) (fun i _ => 13 - (intOf i).toNat)
  case atStart => exact ⟨0, rfl, by omega, fun j hj => absurd hj (Nat.not_lt_zero _), rfl⟩
  case round =>
    obtain ⟨k, rfl, hk, he, rfl⟩ := hrel
    have HE := Lib.hid he
    clear he
    by_cases hlt : k < 13
    · go_wp2_with fail
      refine (line_any hlt _).mono ?_
      rintro e w1 ⟨rfl, rfl⟩
      have hc := cls_mk hlt
      generalize lsS k = L
      generalize msS k = M
      generalize hmk : mkI k = mk at hc
      have HMK := Lib.hid hmk
      have HC := Lib.hid hc
      clear hmk hc
      by_cases hm : mk = r
      · have hb : (mk == r) = true := by simp [hm]
        have HM := Lib.hid hm
        clear hm
        by_cases h11 : k < 11
        · have HZ := Lib.hid (show (230 : Int) = clsI r by rw [← HM.out, HC.out, if_pos h11])
          go_wp2
          go_ret
          exact ⟨ret_int HZ.out, rfl⟩
        · have HZ := Lib.hid (show (202 : Int) = clsI r by rw [← HM.out, HC.out, if_neg h11])
          go_wp2
          go_ret
          exact ⟨ret_int HZ.out, rfl⟩
      · have hb : (mk == r) = false := by simp [hm]
        have HM := Lib.hid hm
        clear hm
        go_wp2
        refine ⟨⟨k + 1, by rw [Int.natCast_add]; rfl, by omega, fun j hj => ?_, rfl⟩, by simp [intOf]; omega⟩
        by_cases hjk : j = k
        · rw [hjk, HMK.out]; exact HM.out
        · exact HE.out j (by omega)
    · have HZ := Lib.hid (show clsI r = 0 from cls_no (fun j hj => HE.out j (by omega)))
      go_wp2
      go_ret
      exact ⟨ret_int HZ.out.symm, rfl⟩
theorem rsplit_yes {r a b : Int} (h : splitI r = some (a, b)) (hr : -2147483648 ≤ r ∧ r < 2147483648) (w : World) : Calls Try.prog 13 #[.int .i32 r] w fun e w' => e = .returned (.tuple #[.int .i32 a, .int .i32 b, .bool true]) ∧ Fresh w w' :=
  (refSplit_any r w hr).mono fun e w' ⟨he, hf⟩ => ⟨by unfold OptP at he; rw [h] at he; exact he, hf⟩
theorem rsplit_not {r : Int} (h : splitI r = none) (hr : -2147483648 ≤ r ∧ r < 2147483648) (w : World) : Calls Try.prog 13 #[.int .i32 r] w fun e w' => e = .returned (.tuple #[.int .i32 0, .int .i32 0, .bool false]) ∧ Fresh w w' :=
  (refSplit_any r w hr).mono fun e w' ⟨he, hf⟩ => ⟨by unfold OptP at he; rw [h] at he; exact he, hf⟩
end Go.Proofs.Ytmfmnlioojkjgaa
