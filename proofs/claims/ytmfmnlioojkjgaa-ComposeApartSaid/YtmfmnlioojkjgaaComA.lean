/- Contracts of layer 3's small functions. -/
import Derived.Test.YtmfmnlioojkjgaaUtfM
import Derived.Test.YtmfmnlioojkjgaaComP
import Derived.Laws.IdiomStrings
import Derived.Laws.RangeAny
namespace Go.Proofs.Ytmfmnlioojkjgaa
open Go.RowKit
set_option linter.unusedVariables false

/-- a block that is known whole -/
def Blk (w : World) (g : Nat) (t : TypeId) (cs : Array Value) : Prop := w.heap[g]? = some (.cells cs t (0, 0))
theorem Blk.lt {w : World} {g : Nat} {t : TypeId} {cs : Array Value} (h : Blk w g t cs) : g < w.heap.size := by
  rcases Nat.lt_or_ge g w.heap.size with q | q
  · exact q
  · unfold Blk at h; rw [Array.getElem?_eq_none q] at h; cases h
theorem Blk.keep {w w' : World} {g : Nat} {t : TypeId} {cs : Array Value} (h : Blk w g t cs) (hf : Fresh w w') : Blk w' g t cs := (hf.block g h.lt).trans h
theorem Blk.cell {w : World} {g : Nat} {t : TypeId} {cs : Array Value} (h : Blk w g t cs) (i : Nat) : w.cell? ⟨g, i, none⟩ = cs[i]? := by unfold Blk at h; simp [World.cell?, h]
def tabCells : List Value := (List.range 13).flatMap fun k => [.int .i32 (mkI k), .string (lsS k), .string (msS k)]
theorem tab_cells {k : Nat} (h : k < 13) : tabCells[k * 3]? = some (.int .i32 (mkI k)) ∧ tabCells[k * 3 + 1]? = some (.string (lsS k)) ∧ tabCells[k * 3 + 2]? = some (.string (msS k)) := by
  match k, h with
  | 0, _ => exact ⟨rfl, rfl, rfl⟩
  | 1, _ => exact ⟨rfl, rfl, rfl⟩
  | 2, _ => exact ⟨rfl, rfl, rfl⟩
  | 3, _ => exact ⟨rfl, rfl, rfl⟩
  | 4, _ => exact ⟨rfl, rfl, rfl⟩
  | 5, _ => exact ⟨rfl, rfl, rfl⟩
  | 6, _ => exact ⟨rfl, rfl, rfl⟩
  | 7, _ => exact ⟨rfl, rfl, rfl⟩
  | 8, _ => exact ⟨rfl, rfl, rfl⟩
  | 9, _ => exact ⟨rfl, rfl, rfl⟩
  | 10, _ => exact ⟨rfl, rfl, rfl⟩
  | 11, _ => exact ⟨rfl, rfl, rfl⟩
  | 12, _ => exact ⟨rfl, rfl, rfl⟩
set_option maxHeartbeats 800000 in
theorem lines_any (w : World) :
    Calls Try.prog 23 #[] w fun e w' => e = .returned (.slice (some ⟨w.heap.size, 0, none⟩) 13 13) ∧ Fresh w w' ∧ Blk w' w.heap.size 39 tabCells.toArray := by
  go_enter Try.func23, Try.ntmps23
  go_wp2
  go_ret
  refine ⟨rfl, (Fresh.refl _).alloc _, ?_⟩
  exact heap_alloc_new w _
set_option maxHeartbeats 400000 in
theorem class_any (r : Int) (w : World) : Calls Try.prog 15 #[.int .i32 r] w fun e w' => e = .returned (.int .i64 (clsI r)) ∧ w = w' := by
  by_cases e1 : r = 807
  · subst e1
    go_enter Try.func15, Try.ntmps15
    go_wp2
    go_ret
    exact ⟨rfl, rfl⟩
  by_cases e2 : r = 808
  · subst e2
    go_enter Try.func15, Try.ntmps15
    go_wp2
    go_ret
    exact ⟨rfl, rfl⟩
  have b1 : (r == 807) = false := by simp [e1]
  have b2 : (r == 808) = false := by simp [e2]
  have E1 := Lib.hid e1
  have E2 := Lib.hid e2
  clear e1 e2
  go_enter Try.func15, Try.ntmps15
  go_wp2
  all_goals (go_ret; exact ⟨ret_int (by have := E1.out; have := E2.out; unfold clsI; repeat' split
                                        all_goals omega), rfl⟩)
def openB (r : Int) : Bool := decide (44032 ≤ r ∧ r < 55204 ∧ (r - 44032) % 28 = 0)
set_option maxHeartbeats 400000 in
theorem open_any (r : Int) (w : World) : Calls Try.prog 31 #[.int .i32 r] w fun e w' => e = .returned (.bool (openB r)) ∧ w = w' := by
  by_cases h : 44032 ≤ r ∧ r < 55204
  · obtain ⟨h1, h2⟩ := h
    by_cases h3 : (r - 44032) % 28 = 0
    · have b : ((r - 44032) % 28 == 0) = true := by simp [h3]
      have H3 := Lib.hid h3
      clear h3
      go_enter Try.func31, Try.ntmps31
      go_wp2
      go_ret
      exact ⟨ret_bool (by symm; unfold openB; rw [decide_eq_true_iff]; exact ⟨h1, h2, H3.out⟩), rfl⟩
    · have b : ((r - 44032) % 28 == 0) = false := by simp [h3]
      have H3 := Lib.hid h3
      clear h3
      go_enter Try.func31, Try.ntmps31
      go_wp2
      go_ret
      exact ⟨ret_bool (by symm; unfold openB; rw [decide_eq_false_iff_not]; exact fun h => H3.out h.2.2), rfl⟩
  · have H := Lib.hid h
    by_cases h1 : 44032 ≤ r
    · have h2 : 55204 ≤ r := by omega
      clear h
      go_enter Try.func31, Try.ntmps31
      go_wp2
      go_ret
      exact ⟨ret_bool (by symm; unfold openB; rw [decide_eq_false_iff_not]; exact fun h => H.out ⟨h.1, h.2.1⟩), rfl⟩
    · clear h
      go_enter Try.func31, Try.ntmps31
      go_wp2
      go_ret
      exact ⟨ret_bool (by symm; unfold openB; rw [decide_eq_false_iff_not]; exact fun h => H.out ⟨h.1, h.2.1⟩), rfl⟩

/-- a number and whether there is one -/
def OptI (o : Option Int) (e : Ending) : Prop := e = .returned (.tuple #[.int .i32 (o.getD 0), .bool o.isSome])
theorem OptI.yes {o : Option Int} {n : Int} (h : o = some n) : OptI o (.returned (.tuple #[.int .i32 n, .bool true])) := by rw [h]; rfl
theorem OptI.no {o : Option Int} (h : o = none) : OptI o (.returned (.tuple #[.int .i32 0, .bool false])) := by rw [h]; rfl
set_option maxHeartbeats 800000 in
theorem hangul_any (a b : Int) (w : World) (ha : -2147483648 ≤ a ∧ a < 2147483648) (hb : -2147483648 ≤ b ∧ b < 2147483648) :
    Calls Try.prog 24 #[.int .i32 a, .int .i32 b] w fun e w' => OptI (hanI a b) e ∧ w = w' := by
  obtain ⟨a1, a2⟩ := ha
  obtain ⟨b1, b2⟩ := hb
  by_cases h : 4352 ≤ a ∧ a < 4371 ∧ 4449 ≤ b ∧ b < 4470
  · have hz : hanI a b = some (44032 + (a - 4352) * 588 + (b - 4449) * 28) := by unfold hanI; rw [if_pos h]
    have HZ := Lib.hid hz
    clear hz
    obtain ⟨h1, h2, h3, h4⟩ := h
    go_enter Try.func24, Try.ntmps24
    go_wp2
    go_ret2
    exact ⟨OptI.yes HZ.out, rfl⟩
  by_cases g : 44032 ≤ a ∧ a < 55204 ∧ (a - 44032) % 28 = 0 ∧ 4520 ≤ b ∧ b < 4547
  · have hz : hanI a b = some (a + b - 4520 + 1) := by unfold hanI; rw [if_neg h, if_pos g]
    have HZ := Lib.hid hz
    have ho : openB a = true := by unfold openB; simp; omega
    have HO := Lib.hid ho
    obtain ⟨g1, g2, g3, g4, g5⟩ := g
    clear hz h ho g3
    go_enter Try.func24, Try.ntmps24
    go_wp2_with fail
    refine (open_any _ _).mono ?_
    rintro e w1 ⟨rfl, rfl⟩
    rw [HO.out]
    go_wp2
    go_ret2
    exact ⟨OptI.yes HZ.out, rfl⟩
  · have hz : hanI a b = none := by unfold hanI; rw [if_neg h, if_neg g]
    have HZ := Lib.hid hz
    clear hz
    cases ho : openB a with
    | true =>
      have hq : 44032 ≤ a ∧ a < 55204 ∧ (a - 44032) % 28 = 0 := by unfold openB at ho; simpa using ho
      have hn : b < 4520 ∨ 4547 ≤ b := by omega
      have HO := Lib.hid ho
      obtain ⟨q1, q2, q3⟩ := hq
      clear h g q3 ho
      rcases hn with hn | hn
      · go_enter Try.func24, Try.ntmps24
        go_wp2_with fail
        refine (open_any _ _).mono ?_
        rintro e w1 ⟨rfl, rfl⟩
        rw [HO.out]
        go_wp2
        go_ret2
        exact ⟨OptI.no HZ.out, rfl⟩
      · go_enter Try.func24, Try.ntmps24
        go_wp2_with fail
        refine (open_any _ _).mono ?_
        rintro e w1 ⟨rfl, rfl⟩
        rw [HO.out]
        go_wp2
        go_ret2
        exact ⟨OptI.no HZ.out, rfl⟩
    | false =>
      have HO := Lib.hid ho
      clear ho g
      have H := Lib.hid h
      by_cases c1 : 4352 ≤ a
      · by_cases c2 : a < 4371
        · by_cases c3 : 4449 ≤ b
          · have c4 : 4470 ≤ b := by omega
            clear h
            go_enter Try.func24, Try.ntmps24
            go_wp2_with fail
            refine (open_any _ _).mono ?_
            rintro e w1 ⟨rfl, rfl⟩
            rw [HO.out]
            go_wp2
            go_ret2
            exact ⟨OptI.no HZ.out, rfl⟩
          · clear h
            go_enter Try.func24, Try.ntmps24
            go_wp2_with fail
            refine (open_any _ _).mono ?_
            rintro e w1 ⟨rfl, rfl⟩
            rw [HO.out]
            go_wp2
            go_ret2
            exact ⟨OptI.no HZ.out, rfl⟩
        · clear h
          go_enter Try.func24, Try.ntmps24
          go_wp2_with fail
          refine (open_any _ _).mono ?_
          rintro e w1 ⟨rfl, rfl⟩
          rw [HO.out]
          go_wp2
          go_ret2
          exact ⟨OptI.no HZ.out, rfl⟩
      · clear h
        go_enter Try.func24, Try.ntmps24
        go_wp2_with fail
        refine (open_any _ _).mono ?_
        rintro e w1 ⟨rfl, rfl⟩
        rw [HO.out]
        go_wp2
        go_ret2
        exact ⟨OptI.no HZ.out, rfl⟩
end Go.Proofs.Ytmfmnlioojkjgaa
