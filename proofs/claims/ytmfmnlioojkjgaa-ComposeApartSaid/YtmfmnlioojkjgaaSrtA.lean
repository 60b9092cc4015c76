/- The sort: what lies in memory; plain words on stable orders; order$1, swaps. -/
import Derived.Test.YtmfmnlioojkjgaaComF
import Derived.BigRegion
namespace Go.Proofs.Ytmfmnlioojkjgaa
open Go.RowKit
set_option linter.unusedVariables false
set_option linter.unusedSimpArgs false

/-- block g holds the n numbers ys from off on; all else is as in w0 -/
structure Arr (w0 : World) (g off n : Nat) (ys : List Int) (w : World) : Prop where
  len : ys.length = n
  grown : w0.grownBy w (some g)
  mem : ∃ cs0 cs, Blk w0 g 21 cs0 ∧ Blk w g 21 cs ∧ cs.size = cs0.size ∧ off + n ≤ cs.size ∧ (∀ i, (i < off ∨ off + n ≤ i) → cs[i]? = cs0[i]?) ∧ ∀ j, j < n → cs[off + j]? = some (.int .i32 (ys.getD j 0))
theorem Arr.cell {w0 w : World} {g off n : Nat} {ys : List Int} (h : Arr w0 g off n ys w) {j : Nat} (hj : j < n) : w.cell? ⟨g, off + j, none⟩ = some (.int .i32 (ys.getD j 0)) := by
  obtain ⟨cs0, cs, _, h2, _, _, _, h6⟩ := h.mem
  rw [h2.cell]; exact h6 j hj
theorem Arr.frozen {w0 w : World} {g off n : Nat} {ys : List Int} (h : Arr w0 g off n ys w) (i : Nat) : w.frozen? ⟨g, i, none⟩ = false := by
  obtain ⟨cs0, cs, _, h2, _⟩ := h.mem
  unfold Blk at h2; simp [World.frozen?, h2]
theorem Arr.lt {w0 w : World} {g off n : Nat} {ys : List Int} (h : Arr w0 g off n ys w) : g < w.heap.size := by
  obtain ⟨cs0, cs, _, h2, _⟩ := h.mem
  exact h2.lt
theorem Blk.set {W : World} {g i : Nat} {t : TypeId} {cs : Array Value} {u : Value} (h : Blk W g t cs) : Blk (W.setCell ⟨g, i, none⟩ u) g t (cs.setIfInBounds i u) := by
  unfold Blk at h ⊢
  simp [World.setCell, Array.getElem?_modify, h]
theorem Arr.set {w0 w : World} {g off n : Nat} {ys : List Int} (h : Arr w0 g off n ys w) {j : Nat} (hj : j < n) (v : Int) : Arr w0 g off n (ys.set j v) (w.setCell ⟨g, off + j, none⟩ (.int .i32 v)) := by
  obtain ⟨cs0, cs, h1, h2, h3, h4, h5, h6⟩ := h.mem
  refine ⟨by rw [List.length_set]; exact h.len, ⟨h.grown.os, h.grown.tape, h.grown.output, by simpa [World.setCell] using h.grown.size, fun k hk hne => ?_⟩, cs0, _, h1, h2.set, by simpa using h3, by simpa using h4, fun i hi => ?_, fun i hi => ?_⟩
  · have hkg : k ≠ g := fun e => hne (by rw [e])
    exact (Below.heap_setCell w ⟨g, off + j, none⟩ _ k hkg).trans (h.grown.block k hk hne)
  · rw [Array.getElem?_setIfInBounds_ne (by omega)]; exact h5 i hi
  · by_cases e : i = j
    · subst e
      rw [Array.getElem?_setIfInBounds_self_of_lt (by omega)]
      have := h.len
      simp [List.getD_eq_getElem?_getD, List.getElem?_set, show i < ys.length by omega]
    · rw [Array.getElem?_setIfInBounds_ne (by omega), h6 i hi]
      simp [List.getD_eq_getElem?_getD, List.getElem?_set, Ne.symm e]
theorem Arr.drew {w0 w : World} {g off n : Nat} {ys : List Int} (h : Arr w0 g off n ys w) : Arr w0 g off n ys w.drew := ⟨h.len, ⟨h.grown.os, h.grown.tape, h.grown.output, h.grown.size, h.grown.block⟩, h.mem⟩
theorem Arr.drewN {w0 w : World} {g off n : Nat} {ys : List Int} (h : Arr w0 g off n ys w) (m : Nat) : Arr w0 g off n ys (w.drewN m) := ⟨h.len, ⟨h.grown.os, h.grown.tape, h.grown.output, h.grown.size, h.grown.block⟩, h.mem⟩
/-- two numbers change places -/
theorem Arr.swap {w0 w : World} {g off n : Nat} {P Q S : List Int} {x y : Int} (h : Arr w0 g off n (P ++ x :: Q ++ y :: S) w) {i j : Nat} (hi : i = P.length) (hj : j = P.length + 1 + Q.length) :
    Arr w0 g off n (P ++ y :: Q ++ x :: S) ((w.setCell ⟨g, off + i, none⟩ (.int .i32 y)).setCell ⟨g, off + j, none⟩ (.int .i32 x)) := by
  subst hi hj
  have hl := h.len
  simp at hl
  have := (h.set (j := P.length) (by omega) y).set (j := P.length + 1 + Q.length) (by omega) x
  have e : ((P ++ x :: Q ++ y :: S).set P.length y).set (P.length + 1 + Q.length) x = P ++ y :: Q ++ x :: S := by
    rw [show P.length + 1 + Q.length = (P ++ y :: Q).length by simp; omega]
    have e1 : (P ++ x :: Q ++ y :: S).set P.length y = P ++ y :: Q ++ y :: S := by
      rw [List.append_assoc, List.set_append_right _ _ (Nat.le_refl _)]; simp
    rw [e1, List.set_append_right _ _ (Nat.le_refl _)]; simp
  rwa [e] at this
theorem Arr.swap' {w0 w : World} {g off n : Nat} {P Q S : List Int} {x y : Int} (h : Arr w0 g off n (P ++ x :: Q ++ y :: S) w) {i j : Nat} (hi : i = P.length) (hj : j = P.length + 1 + Q.length) :
    Arr w0 g off n (P ++ y :: Q ++ x :: S) ((w.setCell ⟨g, off + j, none⟩ (.int .i32 x)).setCell ⟨g, off + i, none⟩ (.int .i32 y)) := by
  subst hi hj
  have hl := h.len
  simp at hl
  have := (h.set (j := P.length + 1 + Q.length) (by omega) x).set (j := P.length) (by omega) y
  have e : ((P ++ x :: Q ++ y :: S).set (P.length + 1 + Q.length) x).set P.length y = P ++ y :: Q ++ x :: S := by
    have e1 : (P ++ x :: Q ++ y :: S).set (P.length + 1 + Q.length) x = P ++ x :: Q ++ x :: S := by
      rw [show P.length + 1 + Q.length = (P ++ x :: Q).length by simp; omega, List.set_append_right _ _ (Nat.le_refl _)]; simp
    rw [e1, List.append_assoc, List.set_append_right _ _ (Nat.le_refl _)]; simp
  rwa [e] at this

/-! ### stable orders -/
def Srt (xs : List Int) : Prop := xs.Pairwise fun a b => clsI a ≤ clsI b
def SP (xs ys : List Int) : Prop := ∀ c : Int, xs.filter (fun x => clsI x == c) = ys.filter (fun x => clsI x == c)
theorem SP.refl (xs : List Int) : SP xs xs := fun _ => rfl
theorem SP.symm {xs ys : List Int} (h : SP xs ys) : SP ys xs := fun c => (h c).symm
theorem SP.trans {xs ys zs : List Int} (h : SP xs ys) (k : SP ys zs) : SP xs zs := fun c => (h c).trans (k c)
theorem SP.append {a b c d : List Int} (h : SP a b) (k : SP c d) : SP (a ++ c) (b ++ d) := fun x => by rw [List.filter_append, List.filter_append, h x, k x]
theorem SP.flip {a b : List Int} (h : ∀ x ∈ a, ∀ y ∈ b, clsI x ≠ clsI y) : SP (a ++ b) (b ++ a) := fun c => by
  rw [List.filter_append, List.filter_append]
  by_cases ha : a.filter (fun x => clsI x == c) = []
  · rw [ha]; simp
  · obtain ⟨x, hx⟩ := List.exists_mem_of_ne_nil _ ha
    rw [List.mem_filter] at hx
    have hb : b.filter (fun x => clsI x == c) = [] := by
      rw [List.filter_eq_nil_iff]
      intro y hy e
      have h1 : clsI x = c := by simpa using hx.2
      have h2 : clsI y = c := by simpa using e
      exact h x hx.1 y hy (h1.trans h2.symm)
    rw [hb]; simp
theorem SP.mem {xs ys : List Int} (h : SP xs ys) {x : Int} (hx : x ∈ xs) : x ∈ ys := by
  have : x ∈ xs.filter (fun y => clsI y == clsI x) := by rw [List.mem_filter]; exact ⟨hx, by simp⟩
  rw [h (clsI x), List.mem_filter] at this
  exact this.1
theorem cls_three (r : Int) : clsI r = 0 ∨ clsI r = 202 ∨ clsI r = 230 := by
  unfold clsI
  split
  · right; right; rfl
  · split
    · right; left; rfl
    · left; rfl
theorem SP.length {xs ys : List Int} (h : SP xs ys) : xs.length = ys.length := by
  have key : ∀ l : List Int, l.length = (l.filter (fun x => clsI x == 0)).length + (l.filter (fun x => clsI x == 202)).length + (l.filter (fun x => clsI x == 230)).length := by
    intro l
    induction l with
    | nil => rfl
    | cons x l ih =>
      have hc := cls_three x
      rcases hc with e | e | e <;> simp [List.filter_cons, e, ih] <;> omega
  rw [key xs, key ys, h 0, h 202, h 230]
theorem srt_unique : ∀ {xs ys : List Int}, Srt xs → Srt ys → SP xs ys → xs = ys
  | [], ys, _, _, h => by
    have := h.length
    exact (List.eq_nil_of_length_eq_zero this.symm).symm
  | x :: xs, [], _, _, h => by have := h.length; simp at this
  | x :: xs, y :: ys, h1, h2, h => by
    have hx := List.pairwise_cons.1 h1
    have hy := List.pairwise_cons.1 h2
    have m1 : x ∈ y :: ys := h.mem (by simp)
    have m2 : y ∈ x :: xs := h.symm.mem (by simp)
    have c1 : clsI y ≤ clsI x := by
      rcases List.mem_cons.1 m1 with e | e
      · rw [e]; exact Int.le_refl _
      · exact hy.1 x e
    have c2 : clsI x ≤ clsI y := by
      rcases List.mem_cons.1 m2 with e | e
      · rw [e]; exact Int.le_refl _
      · exact hx.1 y e
    have ce : clsI x = clsI y := by omega
    have e := h (clsI x)
    rw [List.filter_cons, List.filter_cons, if_pos (by simp), if_pos (by simp [ce])] at e
    injection e with e1 e2
    subst e1
    congr 1
    refine srt_unique hx.2 hy.2 fun c => ?_
    have := h c
    rw [List.filter_cons, List.filter_cons] at this
    by_cases hc : (clsI x == c) = true
    · rw [if_pos hc, if_pos hc] at this; injection this
    · rw [if_neg hc, if_neg hc] at this; exact this
theorem Srt.append {a b : List Int} (ha : Srt a) (hb : Srt b) (h : ∀ x ∈ a, ∀ y ∈ b, clsI x ≤ clsI y) : Srt (a ++ b) := List.pairwise_append.2 ⟨ha, hb, h⟩
theorem Srt.left {a b : List Int} (h : Srt (a ++ b)) : Srt a := (List.pairwise_append.1 h).1
theorem Srt.right {a b : List Int} (h : Srt (a ++ b)) : Srt b := (List.pairwise_append.1 h).2.1
theorem Srt.cross {a b : List Int} (h : Srt (a ++ b)) : ∀ x ∈ a, ∀ y ∈ b, clsI x ≤ clsI y := (List.pairwise_append.1 h).2.2
theorem cls_range (r : Int) : 0 ≤ clsI r ∧ clsI r ≤ 230 := by unfold clsI; repeat' split <;> omega
set_option maxHeartbeats 400000 in
theorem cmp_any (a b : Int) (w : World) : Calls Try.prog 34 #[.int .i32 a, .int .i32 b] w fun e w' => e = .returned (.int .i64 (clsI a - clsI b)) ∧ w = w' := by
  have ha := cls_range a
  have hb := cls_range b
  have HA := Lib.hid (class_any a)
  have HB := Lib.hid (class_any b)
  generalize clsI a = x at HA ha
  generalize clsI b = y at HB hb
  go_enter Try.func34, Try.ntmps34
  go_wp2_with fail
  refine (HA.out _).mono ?_
  rintro e w1 ⟨rfl, rfl⟩
  go_wp2_with fail
  refine (HB.out _).mono ?_
  rintro e w1 ⟨rfl, rfl⟩
  go_wp2
  go_ret
  exact ⟨rfl, rfl⟩
end Go.Proofs.Ytmfmnlioojkjgaa
