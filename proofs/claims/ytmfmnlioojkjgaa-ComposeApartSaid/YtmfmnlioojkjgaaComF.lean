/- ComposePairs and ComposeBack: the walks. -/
import Derived.Test.YtmfmnlioojkjgaaComE
namespace Go.Proofs.Ytmfmnlioojkjgaa
open Go.RowKit
set_option linter.unusedVariables false

theorem wf32 {r : Int} (h : (Lit.int .i32 r).wf = true) : -2147483648 ≤ r ∧ r < 2147483648 := by
  simp [Lit.wf, IntKind.min, IntKind.max, IntKind.bits, IntKind.signed] at h
  omega
theorem pairI_pos {a b q : Int} (h : pairI a b = some q) : 0 < q ∧ q < 55204 := by
  unfold pairI at h
  cases ht : T.find? (isAB a b) with
  | some t =>
    rw [ht] at h
    have := T_of (List.mem_of_find?_eq_some ht)
    simp at h
    omega
  | none =>
    rw [ht] at h
    unfold hanI at h
    simp only at h
    split at h
    · simp at h; omega
    split at h
    · simp at h; omega
    · cases h
theorem find_ab {a b : Int} {t : Int × Int × Int} (h : T.find? (isAB a b) = some t) : t.1 = a ∧ t.2.1 = b := by
  have := List.find?_some h
  simpa [isAB] using this
theorem find_r {r : Int} {t : Int × Int × Int} (h : T.find? (isR r) = some t) : t.2.2 = r := by
  have := List.find?_some h
  simpa [isR] using this
theorem no_ab {a b : Int} (h : 4352 ≤ a ∨ 4352 ≤ b) : T.find? (isAB a b) = none := by
  cases ht : T.find? (isAB a b) with
  | none => rfl
  | some t =>
    have := T_of (List.mem_of_find?_eq_some ht)
    have := find_ab ht
    omega
theorem no_r {r : Int} (h : 4352 ≤ r) : T.find? (isR r) = none := by
  cases ht : T.find? (isR r) with
  | none => rfl
  | some t =>
    have := T_of (List.mem_of_find?_eq_some ht)
    have := find_r ht
    omega
/-- what two make is split into them -/
theorem split_pair {a b x : Int} (h : pairI a b = some x) : splitI x = some (a, b) := by
  unfold pairI at h
  cases ht : T.find? (isAB a b) with
  | some t =>
    rw [ht] at h
    have ht2 := T_of (List.mem_of_find?_eq_some ht)
    have hab := find_ab ht
    simp only [Option.some.injEq] at h
    unfold splitI
    rw [← h, ht2.1]
    simp only [hab]
  | none =>
    rw [ht] at h
    simp only at h
    unfold hanI at h
    split at h
    · rename_i g
      simp only [Option.some.injEq] at h
      unfold splitI
      rw [no_r (by omega)]
      simp only
      unfold hanS
      rw [if_pos (by omega), if_neg (by omega)]
      simp only [Option.some.injEq, Prod.mk.injEq]
      omega
    split at h
    · rename_i g
      simp only [Option.some.injEq] at h
      unfold splitI
      rw [no_r (by omega)]
      simp only
      unfold hanS
      rw [if_pos (by omega), if_pos (by omega)]
      simp only [Option.some.injEq, Prod.mk.injEq]
      omega
    · cases h
/-- what one is split into makes it -/
theorem pair_split {r p q : Int} (h : splitI r = some (p, q)) : pairI p q = some r := by
  unfold splitI at h
  cases ht : T.find? (isR r) with
  | some t =>
    rw [ht] at h
    have ht2 := T_of (List.mem_of_find?_eq_some ht)
    have hr := find_r ht
    simp only [Option.some.injEq, Prod.mk.injEq] at h
    unfold pairI
    rw [← h.1, ← h.2, ht2.2.1]
    simp only [hr]
  | none =>
    rw [ht] at h
    simp only at h
    unfold hanS at h
    split at h
    · rename_i g
      split at h
      · simp only [Option.some.injEq, Prod.mk.injEq] at h
        unfold pairI
        rw [no_ab (by omega)]
        simp only
        unfold hanI
        rw [if_neg (by omega), if_pos (by omega)]
        simp only [Option.some.injEq]
        omega
      · simp only [Option.some.injEq, Prod.mk.injEq] at h
        unfold pairI
        rw [no_ab (by omega)]
        simp only
        unfold hanI
        rw [if_pos (by omega)]
        simp only [Option.some.injEq]
        omega
    · cases h
theorem splitI_range {r p q : Int} (h : splitI r = some (p, q)) : 0 ≤ p ∧ p < 55204 ∧ 0 ≤ q ∧ q < 55204 := by
  unfold splitI at h
  cases ht : T.find? (isR r) with
  | some t =>
    rw [ht] at h
    have ht2 := T_of (List.mem_of_find?_eq_some ht)
    simp only [Option.some.injEq, Prod.mk.injEq] at h
    omega
  | none =>
    rw [ht] at h
    simp only at h
    unfold hanS at h
    split at h
    · split at h
      · simp only [Option.some.injEq, Prod.mk.injEq] at h; omega
      · simp only [Option.some.injEq, Prod.mk.injEq] at h; omega
    · cases h

theorem p233 : pairI 101 769 = some 233 := by decide +kernel
set_option maxHeartbeats 400000 in
theorem awake03 (w : World) : Calls Try.prog 14 #[] w fun e w' => e = .returned (.bool true) ∧ Fresh w w' := by
  go_enter Try.func14, Try.ntmps14
  go_wp2_with fail
  refine (pair_any _ _ _ (by omega) (by omega)).mono ?_
  rintro e w1 ⟨he, h1⟩
  unfold OptI at he
  rw [p233] at he
  subst he
  go_wp2_with fail
  refine (class_any _ _).mono ?_
  rintro e w2 ⟨rfl, rfl⟩
  rw [show clsI 807 = 202 from rfl]
  go_wp2
  go_ret
  exact ⟨rfl, h1⟩
set_option maxHeartbeats 800000 in
theorem walk_ComposePairs (a b r : Int) (w : World) (ha : (Lit.int .i32 a).wf = true) (hb : (Lit.int .i32 b).wf = true) (hr : (Lit.int .i32 r).wf = true) :
    Calls Try.prog 3 #[.int .i32 a, .int .i32 b, .int .i32 r] w fun e w' => e = .returned (.bool true) ∧ Below w.heap.size w w' := by
  have HA := Lib.hid (wf32 ha)
  have HB := Lib.hid (wf32 hb)
  have HR := Lib.hid (wf32 hr)
  have HP : Hid (∀ q : Int, pairI a b = some q → 0 < q ∧ q < 55204) := fun q h => pairI_pos h
  clear ha hb hr
  go_enter Try.func3, Try.ntmps3
  go_wp2_with fail
  refine (pair_any _ _ _ HA.out HB.out).mono ?_
  rintro e w1 ⟨he, h1⟩
  unfold OptI at he
  subst he
  go_wp2_with fail
  refine (split_any _ _ HR.out).mono ?_
  rintro e w2 ⟨he, h2⟩
  unfold OptP at he
  subst he
  go_wp2_with fail
  refine (refPair_any _ _ _ HA.out HB.out).mono ?_
  rintro e w3 ⟨rfl, h3⟩
  go_wp2_with fail
  refine (refSplit_any _ _ HR.out).mono ?_
  rintro e w4 ⟨he, h4⟩
  unfold OptP at he
  subst he
  go_wp2_with fail
  refine (awake03 _).mono ?_
  rintro e w5 ⟨rfl, h5⟩
  go_wp2_with fail
  refine (class_any _ _).mono ?_
  rintro e w6 ⟨rfl, rfl⟩
  go_wp2_with fail
  refine (refClass_any _ _).mono ?_
  rintro e w7 ⟨rfl, h7⟩
  have HB : Hid (Below w.heap.size w w7) := (((((h1.trans h2).trans h3).trans h4).trans h5).trans h7).below
  generalize clsI r = c
  generalize splitI r = o
  cases hp : pairI a b with
  | none =>
    clear hp
    go_wp2
    go_ret
    exact ⟨ret_bool (by simp), HB.out⟩
  | some q =>
    have hq := HP.out q hp
    obtain ⟨hq1, hq2⟩ := hq
    clear hp
    go_wp2
    go_ret
    exact ⟨ret_bool (by simp; try omega), HB.out⟩

set_option maxHeartbeats 800000 in
theorem walk_ComposeBack (a b r : Int) (w : World) (ha : (Lit.int .i32 a).wf = true) (hb : (Lit.int .i32 b).wf = true) (hr : (Lit.int .i32 r).wf = true) :
    Calls Try.prog 4 #[.int .i32 a, .int .i32 b, .int .i32 r] w fun e w' => e = .returned (.bool true) ∧ Below w.heap.size w w' := by
  have HA := Lib.hid (wf32 ha)
  have HB := Lib.hid (wf32 hb)
  have HR := Lib.hid (wf32 hr)
  clear ha hb hr
  suffices tail : ∀ (p q : Int) (is : Bool) (w1 : World), Fresh w w1 → True by
    cases hp : pairI a b with
    | none =>
      have HP := Lib.hid hp
      clear hp
      cases hs : splitI r with
      | none =>
        have HS := Lib.hid hs
        clear hs
        go_enter Try.func4, Try.ntmps4
        go_wp2_with fail
        refine (pair_any _ _ _ HA.out HB.out).mono ?_
        rintro e w1 ⟨he, h1⟩
        unfold OptI at he
        rw [HP.out] at he
        subst he
        go_wp2_with fail
        refine (split_any _ _ HR.out).mono ?_
        rintro e w2 ⟨he, h2⟩
        unfold OptP at he
        rw [HS.out] at he
        subst he
        go_wp2_with fail
        refine (awake03 _).mono ?_
        rintro e w3 ⟨rfl, h3⟩
        go_wp2
        go_ret
        exact ⟨rfl, ((h1.trans h2).trans h3).below⟩
      | some v =>
        obtain ⟨p, q⟩ := v
        have HG := Lib.hid (splitI_range hs)
        have HK := Lib.hid (pair_split hs)
        have HS := Lib.hid hs
        clear hs
        go_enter Try.func4, Try.ntmps4
        go_wp2_with fail
        refine (pair_any _ _ _ HA.out HB.out).mono ?_
        rintro e w1 ⟨he, h1⟩
        unfold OptI at he
        rw [HP.out] at he
        subst he
        go_wp2_with fail
        refine (split_any _ _ HR.out).mono ?_
        rintro e w2 ⟨he, h2⟩
        unfold OptP at he
        rw [HS.out] at he
        subst he
        go_wp2_with fail
        refine (pair_any _ _ _ (by have := HG.out; omega) (by have := HG.out; omega)).mono ?_
        rintro e w3 ⟨he, h3⟩
        unfold OptI at he
        rw [HK.out] at he
        subst he
        go_wp2_with fail
        refine (awake03 _).mono ?_
        rintro e w4 ⟨rfl, h4⟩
        go_wp2
        go_ret
        exact ⟨ret_bool (by simp), (((h1.trans h2).trans h3).trans h4).below⟩
    | some x =>
      have HX := Lib.hid (pairI_pos hp)
      have HQ := Lib.hid (split_pair hp)
      have HP := Lib.hid hp
      clear hp
      cases hs : splitI r with
      | none =>
        have HS := Lib.hid hs
        clear hs
        go_enter Try.func4, Try.ntmps4
        go_wp2_with fail
        refine (pair_any _ _ _ HA.out HB.out).mono ?_
        rintro e w1 ⟨he, h1⟩
        unfold OptI at he
        rw [HP.out] at he
        subst he
        go_wp2_with fail
        refine (split_any _ _ (by have := HX.out; omega)).mono ?_
        rintro e w2 ⟨he, h2⟩
        unfold OptP at he
        rw [HQ.out] at he
        subst he
        go_wp2_with fail
        refine (split_any _ _ HR.out).mono ?_
        rintro e w3 ⟨he, h3⟩
        unfold OptP at he
        rw [HS.out] at he
        subst he
        go_wp2_with fail
        refine (awake03 _).mono ?_
        rintro e w4 ⟨rfl, h4⟩
        go_wp2
        go_ret
        exact ⟨rfl, (((h1.trans h2).trans h3).trans h4).below⟩
      | some v =>
        obtain ⟨p, q⟩ := v
        have HG := Lib.hid (splitI_range hs)
        have HK := Lib.hid (pair_split hs)
        have HS := Lib.hid hs
        clear hs
        go_enter Try.func4, Try.ntmps4
        go_wp2_with fail
        refine (pair_any _ _ _ HA.out HB.out).mono ?_
        rintro e w1 ⟨he, h1⟩
        unfold OptI at he
        rw [HP.out] at he
        subst he
        go_wp2_with fail
        refine (split_any _ _ (by have := HX.out; omega)).mono ?_
        rintro e w2 ⟨he, h2⟩
        unfold OptP at he
        rw [HQ.out] at he
        subst he
        go_wp2_with fail
        refine (split_any _ _ HR.out).mono ?_
        rintro e w3 ⟨he, h3⟩
        unfold OptP at he
        rw [HS.out] at he
        subst he
        go_wp2_with fail
        refine (pair_any _ _ _ (by have := HG.out; omega) (by have := HG.out; omega)).mono ?_
        rintro e w4 ⟨he, h4⟩
        unfold OptI at he
        rw [HK.out] at he
        subst he
        go_wp2_with fail
        refine (awake03 _).mono ?_
        rintro e w5 ⟨rfl, h5⟩
        go_wp2
        go_ret
        exact ⟨ret_bool (by simp), ((((h1.trans h2).trans h3).trans h4).trans h5).below⟩
  intros
  trivial
end Go.Proofs.Ytmfmnlioojkjgaa
