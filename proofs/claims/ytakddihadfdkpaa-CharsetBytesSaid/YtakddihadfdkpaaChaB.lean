/- Shift_JIS: runs, kana, fromKana. -/
import Derived.Test.YtakddihadfdkpaaChaA
import Derived.Deep.RegionHeld3
import Derived.Deep.QuietTactic
import Derived.BigQuiet
namespace Go.Proofs.Ytakddihadfdkpaa
open Go.RowKit
set_option linter.unusedVariables false

/-- a block that is known whole -/
def Blk (w : World) (g : Nat) (t : TypeId) (cs : Array Value) : Prop := w.heap[g]? = some (.cells cs t (0, 0))
theorem Blk.lt {w : World} {g : Nat} {t : TypeId} {cs : Array Value} (h : Blk w g t cs) : g < w.heap.size := by
  rcases Nat.lt_or_ge g w.heap.size with q | q
  · exact q
  · unfold Blk at h; rw [Array.getElem?_eq_none q] at h; cases h
theorem Blk.keep {w w' : World} {g : Nat} {t : TypeId} {cs : Array Value} (h : Blk w g t cs) (hf : Fresh w w') : Blk w' g t cs := (hf.block g h.lt).trans h
theorem Blk.cell {w : World} {g : Nat} {t : TypeId} {cs : Array Value} (h : Blk w g t cs) (i : Nat) : w.cell? ⟨g, i, none⟩ = cs[i]? := by unfold Blk at h; simp [World.cell?, h]
theorem Blk.frozen {w : World} {g : Nat} {t : TypeId} {cs : Array Value} (h : Blk w g t cs) (i : Nat) : w.frozen? ⟨g, i, none⟩ = false := by unfold Blk at h; simp [World.frozen?, h]
theorem Blk.new (w : World) (t : TypeId) (cs : Array Value) : Blk (w.alloc (.cells cs t)) w.heap.size t cs := heap_alloc_new w _
def runCells : List Value := RT.flatMap fun x => [.int .u8 x.1, .int .u8 x.2.1, .int .u8 x.2.2.1, .int .i32 x.2.2.2]
theorem flat4 {α β : Type} (f : α → List β) (h4 : ∀ x, (f x).length = 4) : ∀ (l : List α) (k : Nat) (hk : k < l.length) (j : Nat), j < 4 → (l.flatMap f)[k * 4 + j]? = (f (l[k]))[j]?
  | [], k, hk, _, _ => by simp at hk
  | x :: l, 0, _, j, hj => by simp [List.getElem?_append_left (show j < (f x).length by rw [h4]; exact hj)]
  | x :: l, k + 1, hk, j, hj => by
    have := flat4 f h4 l k (by simpa using hk) j hj
    rw [List.flatMap_cons, List.getElem?_append_right (by rw [h4]; omega), h4, show (k + 1) * 4 + j - 4 = k * 4 + j by omega, this]
    rfl
theorem run_cells {k : Nat} (h : k < RT.length) : runCells[k * 4]? = some (.int .u8 (RT[k]).1) ∧ runCells[k * 4 + 1]? = some (.int .u8 (RT[k]).2.1) ∧ runCells[k * 4 + 2]? = some (.int .u8 (RT[k]).2.2.1) ∧ runCells[k * 4 + 3]? = some (.int .i32 (RT[k]).2.2.2) :=
  ⟨flat4 _ (fun _ => rfl) RT k h 0 (by omega), flat4 _ (fun _ => rfl) RT k h 1 (by omega), flat4 _ (fun _ => rfl) RT k h 2 (by omega), flat4 _ (fun _ => rfl) RT k h 3 (by omega)⟩
set_option maxHeartbeats 800000 in
theorem runs_any (w : World) :
    Calls Try.prog 31 #[] w fun e w' => e = .returned (.slice (some ⟨w.heap.size, 0, none⟩) 17 17) ∧ Fresh w w' ∧ Blk w' w.heap.size 59 runCells.toArray := by
  go_enter Try.func31, Try.ntmps31
  go_wp2
  go_ret
  refine ⟨rfl, (Fresh.refl _).alloc _, ?_⟩
  exact heap_alloc_new w _

/-- the piece that some bytes begin with; two: there is a second one -/
def kanaP (c d : Int) (two : Bool) : Int × Int :=
  if c < 128 then (c, 1) else if 161 ≤ c ∧ c ≤ 223 then (65377 + (c - 161), 1) else if two = true ∧ 0 ≤ twoI c d then (twoI c d, 2) else (-1, 1)
def PieceIs (p : Int × Int) (w : World) (e : Ending) (w' : World) : Prop := e = .returned (.agg #[.int .i32 p.1, .int .i64 p.2]) ∧ Fresh w w'
theorem PieceIs.mk {p : Int × Int} {a b : Int} {w w' : World} (h : p = (a, b)) (hf : Fresh w w') : PieceIs p w (.returned (.agg #[.int .i32 a, .int .i64 b])) w' := ⟨by rw [h], hf⟩
def KanaRel (c d : Int) (w : World) (i : Value) (wr : World) : Prop := ∃ k : Nat, i = .int .i64 k ∧ k ≤ 17 ∧ (∀ x ∈ RT.take k, ¬ hitB x c d) ∧ Fresh w wr
theorem miss_more {k : Nat} (hk : k < RT.length) {p : Int × Int × Int × Int → Prop} (h : ∀ x ∈ RT.take k, ¬ p x) (h2 : ¬ p RT[k]) : ∀ x ∈ RT.take (k + 1), ¬ p x := by
  intro x hx
  rw [List.take_succ_eq_append_getElem hk, List.mem_append, List.mem_singleton] at hx
  rcases hx with hx | rfl
  · exact h x hx
  · exact h2
theorem two_none {c d : Int} (h : ∀ x ∈ RT, ¬ hitB x c d) : twoI c d = -1 := by
  rcases two_cases c d with ⟨x, hx, h1, _⟩ | ⟨_, h2⟩
  · exact absurd h1 (h x hx)
  · exact h2

end Go.Proofs.Ytakddihadfdkpaa
