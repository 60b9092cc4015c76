/- A region that draws its order, by an invariant over what is listed. -/
import Derived.Test.YtakddihadfdkpaaChaQ
import Derived.OrdersHeld
import Derived.Deep.RegionHeld3
namespace Go.Proofs.Ytakddihadfdkpaa
open Go.RowKit
set_option linter.unusedVariables false

section
variable {P : Program} {ops : Array Oper} {Q : Exit → Act → World → Prop} {md : Region.Mode}
theorem count_zero_getD {L : Array Bool} (h : L.toList.count false = 0) (i : Nat) : L.getD i true = true := by
  rw [Array.getD_eq_getD_getElem?]
  cases e : L[i]? with
  | none => rfl
  | some b =>
    cases b with
    | true => rfl
    | false =>
      rw [List.count_eq_zero] at h
      exfalso
      apply h
      rw [← Array.mem_def]
      exact Array.mem_of_getElem? e
theorem wpAny_inv (Inv : (Nat → Bool) → Act → World → Prop)
    (hstep : ∀ (L : Array Bool) (a : Act) (w : World), L.size = ops.size → Inv (fun j => L.getD j false) a w → ∀ i ∈ Region.ready md ops L, wpOp P ops Q i (Inv (fun j => if j = i then true else L.getD j false)) a w)
    (hdone : ∀ (L : Array Bool) (a : Act) (w : World), L.size = ops.size → Inv (fun j => L.getD j false) a w → Region.ready md ops L = [] → Q .normal a w) :
    ∀ (fuel : Nat) (L : Array Bool) (a : Act) (w : World), L.size = ops.size → L.toList.count false ≤ fuel → Inv (fun j => L.getD j false) a w → wpAny P md ops Q fuel L a w := by
  intro fuel
  induction fuel with
  | zero =>
    intro L a w hs hc hi
    have hr : Region.ready md ops L = [] := by
      unfold Region.ready
      rw [List.filter_eq_nil_iff]
      intro i _
      rw [count_zero_getD (by omega)]
      simp
    exact ⟨hr, hdone L a w hs hi hr⟩
  | succ fuel ih =>
    intro L a w hs hc hi
    refine ⟨hdone L a w hs hi, fun i hir => ?_⟩
    have hun := (mem_ready.1 hir).1
    refine wpOp_mono (fun a' w' h => ?_) (hstep L a w hs hi i hir)
    have hi2 : i < L.size := by
      rcases Nat.lt_or_ge i L.size with h | h
      · exact h
      · rw [Array.getD_eq_getD_getElem?, Array.getElem?_eq_none h] at hun; cases hun
    refine ih _ a' w' (by simpa using hs) ?_ ?_
    · have e : L[i] = false := by
        rw [Array.getD_eq_getD_getElem?, Array.getElem?_eq_getElem hi2] at hun
        exact hun
      rw [Array.toList_setIfInBounds, List.count_set (by simpa using hi2)]
      have : L.toList[i]'(by simpa using hi2) = false := by simpa using e
      rw [this]
      have hpos : 0 < L.toList.count false := by
        rw [List.count_pos_iff, ← this]
        exact List.getElem_mem _
      simp
      simp at hpos hc
      omega
    · have : (fun j => (L.setIfInBounds i true).getD j false) = fun j => if j = i then true else L.getD j false := by
        funext j
        rw [Array.getD_eq_getD_getElem?, Array.getElem?_setIfInBounds]
        by_cases hj : i = j
        · subst hj; simp [hi2]
        · rw [if_neg hj, if_neg (Ne.symm hj), Array.getD_eq_getD_getElem?]
      rw [this]
      exact h
end
end Go.Proofs.Ytakddihadfdkpaa
