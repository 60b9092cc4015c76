/- symMergeCmpFunc. -/
import Derived.Test.YtmfmnlioojkjgaaSrtE
namespace Go.Proofs.Ytmfmnlioojkjgaa
open Go.RowKit
set_option linter.unusedVariables false
set_option linter.unnecessarySimpa false

/-- the halves of a merge, put together -/
theorem merge_fin {A1 A2 B1 B2 M1 M2 : List Int} (hA : Srt (A1 ++ A2)) (hB : Srt (B1 ++ B2)) (h1 : ∀ x ∈ A1, ∀ y ∈ B2, clsI x ≤ clsI y) (h2 : ∀ x ∈ A2, ∀ y ∈ B1, clsI y < clsI x)
    (s1 : SP (A1 ++ B1) M1) (t1 : Srt M1) (s2 : SP (A2 ++ B2) M2) (t2 : Srt M2) : SP (A1 ++ A2 ++ (B1 ++ B2)) (M1 ++ M2) ∧ Srt (M1 ++ M2) := by
  refine ⟨?_, Srt.append t1 t2 fun x hx y hy => ?_⟩
  · have hf : SP (A2 ++ B1) (B1 ++ A2) := SP.flip fun x hx y hy => by have := h2 x hx y hy; omega
    have e1 : SP (A1 ++ A2 ++ (B1 ++ B2)) (A1 ++ (B1 ++ A2) ++ B2) := by
      have := ((SP.refl A1).append hf).append (SP.refl B2)
      simpa using this
    have e2 := s1.append s2
    exact e1.trans (by simpa using e2)
  · have hx := s1.symm.mem hx
    have hy := s2.symm.mem hy
    rcases List.mem_append.1 hx with hx | hx <;> rcases List.mem_append.1 hy with hy | hy
    · exact hA.cross x hx y hy
    · exact h1 x hx y hy
    · have := h2 y hy x hx; omega
    · exact hB.cross x hx y hy
def CutRel (w0 : World) (g off n : Nat) (ys : List Int) (s0 r0 p : Nat) (s r : Value) (wr : World) : Prop :=
  ∃ i j : Nat, s = .int .i64 (i : Nat) ∧ r = .int .i64 (j : Nat) ∧ s0 ≤ i ∧ i ≤ j ∧ j ≤ r0 ∧ (i = s0 ∨ (s0 < i ∧ clsI (ys.getD (i - 1) 0) ≤ clsI (ys.getD (p - (i - 1)) 0))) ∧ (j = r0 ∨ clsI (ys.getD (p - j) 0) < clsI (ys.getD j 0)) ∧ Arr w0 g off n ys wr
/-- the two rows are cut -/
def Cut (A B A1 A2 B1 B2 : List Int) : Prop := A = A1 ++ A2 ∧ B = B1 ++ B2 ∧ (∀ x ∈ A1, ∀ y ∈ B2, clsI x ≤ clsI y) ∧ (∀ x ∈ A2, ∀ y ∈ B1, clsI y < clsI x)
theorem getD_A {P A R : List Int} {k : Nat} (h : k < A.length) : (P ++ A ++ R).getD (P.length + k) 0 = A.getD k 0 := by
  rw [List.getD_eq_getElem?_getD, List.getD_eq_getElem?_getD, List.append_assoc, List.getElem?_append_right (by omega), List.getElem?_append_left (by omega)]
  congr 2; omega
theorem srt_getD {A : List Int} (h : Srt A) {i j : Nat} (hij : i ≤ j) (hj : j < A.length) : clsI (A.getD i 0) ≤ clsI (A.getD j 0) := by
  by_cases e : i = j
  · rw [e]; exact Int.le_refl _
  · have := List.pairwise_iff_getElem.1 h i j (by omega) hj (by omega)
    simpa [List.getD_eq_getElem?_getD, List.getElem?_eq_getElem hj, List.getElem?_eq_getElem (show i < A.length by omega)] using this
theorem mem_take_getD {A : List Int} {k : Nat} {x : Int} (h : x ∈ A.take k) : ∃ i, i < k ∧ i < A.length ∧ x = A.getD i 0 := by
  obtain ⟨i, hi, rfl⟩ := List.getElem_of_mem h
  rw [List.length_take] at hi
  exact ⟨i, by omega, by omega, by simp [List.getD_eq_getElem?_getD, List.getElem?_eq_getElem (show i < A.length by omega)]⟩
theorem mem_drop_getD {A : List Int} {k : Nat} {x : Int} (h : x ∈ A.drop k) : ∃ i, k ≤ i ∧ i < A.length ∧ x = A.getD i 0 := by
  obtain ⟨i, hi, rfl⟩ := List.getElem_of_mem h
  rw [List.length_drop] at hi
  exact ⟨k + i, by omega, by omega, by simp [List.getD_eq_getElem?_getD, List.getElem?_eq_getElem (show k + i < A.length by omega)]⟩
theorem cut_law {P A B S : List Int} {a m b mid nn s0 r0 s : Nat} (hsA : Srt A) (hsB : Srt B) (ha : a = P.length) (hm : m = a + A.length) (hb : b = m + B.length) (hmid : mid = (a + b) / 2) (hnn : nn = mid + m)
    (h0 : (m ≤ mid ∧ s0 = a ∧ r0 = m) ∨ (mid < m ∧ s0 = nn - b ∧ r0 = mid)) (hs0 : s0 ≤ s) (hs1 : s ≤ r0)
    (hl : s = s0 ∨ (s0 < s ∧ clsI ((P ++ A ++ B ++ S).getD (s - 1) 0) ≤ clsI ((P ++ A ++ B ++ S).getD (nn - 1 - (s - 1)) 0)))
    (hr : s = r0 ∨ clsI ((P ++ A ++ B ++ S).getD (nn - 1 - s) 0) < clsI ((P ++ A ++ B ++ S).getD s 0)) :
    ∃ A1 A2 B1 B2, Cut A B A1 A2 B1 B2 ∧ A1.length = s - a ∧ B1.length = mid - s ∧ a ≤ s ∧ s ≤ mid ∧ s ≤ m ∧ mid - s ≤ b - m := by
  have q1 : a ≤ s ∧ s ≤ mid ∧ s ≤ m ∧ mid - s ≤ b - m := by omega
  obtain ⟨q1, q2, q3, q4⟩ := q1
  have gA : ∀ k, k < A.length → (P ++ A ++ B ++ S).getD (a + k) 0 = A.getD k 0 := fun k hk => by
    have := getD_A (P := P) (A := A) (R := B ++ S) hk
    rw [← ha] at this
    simpa using this
  have gB : ∀ k, k < B.length → (P ++ A ++ B ++ S).getD (m + k) 0 = B.getD k 0 := fun k hk => by
    have := getD_A (P := P ++ A) (A := B) (R := S) hk
    rw [List.length_append, ← ha, ← hm] at this
    exact this
  refine ⟨A.take (s - a), A.drop (s - a), B.take (mid - s), B.drop (mid - s), ⟨(List.take_append_drop _ _).symm, (List.take_append_drop _ _).symm, fun x hx y hy => ?_, fun x hx y hy => ?_⟩, by rw [List.length_take]; omega, by rw [List.length_take]; omega, q1, q2, q3, q4⟩
  · obtain ⟨i, i1, i2, rfl⟩ := mem_take_getD hx
    obtain ⟨j, j1, j2, rfl⟩ := mem_drop_getD hy
    rcases hl with hl | ⟨hl1, hl2⟩
    · omega
    · have e1 := gA (s - 1 - a) (by omega)
      have e2 := gB (mid - s) (by omega)
      rw [show a + (s - 1 - a) = s - 1 by omega] at e1
      rw [show m + (mid - s) = nn - 1 - (s - 1) by omega] at e2
      rw [e1, e2] at hl2
      have h1 := srt_getD hsA (i := i) (j := s - 1 - a) (by omega) (by omega)
      have h2 := srt_getD hsB (i := mid - s) (j := j) (by omega) (by omega)
      omega
  · obtain ⟨i, i1, i2, rfl⟩ := mem_drop_getD hx
    obtain ⟨j, j1, j2, rfl⟩ := mem_take_getD hy
    rcases hr with hr | hr
    · omega
    · have e1 := gA (s - a) (by omega)
      have e2 := gB (mid - s - 1) (by omega)
      rw [show a + (s - a) = s by omega] at e1
      rw [show m + (mid - s - 1) = nn - 1 - s by omega] at e2
      rw [e1, e2] at hr
      have h1 := srt_getD hsA (i := s - a) (j := i) (by omega) (by omega)
      have h2 := srt_getD hsB (i := j) (j := mid - s - 1) (by omega) (by omega)
      omega
end Go.Proofs.Ytmfmnlioojkjgaa
