/- slices.Index over runes; compose.Pair. -/
import Derived.Test.YtmfmnlioojkjgaaComA
namespace Go.Proofs.Ytmfmnlioojkjgaa
open Go.RowKit
set_option linter.unusedVariables false

/-- where a number is first: at k; or nowhere, -1 -/
def FirstAt (xs : List Int) (r k : Int) : Prop := (0 ≤ k ∧ k < xs.length ∧ xs.getD k.toNat 0 = r ∧ ∀ j : Nat, (j : Int) < k → xs.getD j 0 ≠ r) ∨ (k = -1 ∧ ∀ j : Nat, j < xs.length → xs.getD j 0 ≠ r)
def IxPost (xs : List Int) (r : Int) (w : World) (e : Ending) (w' : World) : Prop := ∃ k, e = .returned (.int .i64 k) ∧ FirstAt xs r k ∧ Fresh w w'
def IxRel (xs : List Int) (r : Int) (w : World) (i : Value) (wr : World) : Prop := ∃ k : Nat, i = .int .i64 k ∧ k ≤ xs.length ∧ (∀ j : Nat, j < k → xs.getD j 0 ≠ r) ∧ Fresh w wr
set_option maxHeartbeats 800000 in
theorem index_any (u : Value) (xs : List Int) (r : Int) (w : World) (hu : Sl w u xs) (hx : xs.length ≤ 1000000) :
    Calls Try.prog 25 #[u, .int .i32 r] w (IxPost xs r w) := by
  obtain ⟨a, ca, rfl, hu⟩ := hu
  rcases hu with rfl | ⟨b1, o1, rfl, hb1, hc1⟩
  · go_enter Try.func25, Try.ntmps25
    go_wp2
    refine wp_loop_rounds 1 ?_
    rw [rounds_succ]
    go_wp2
    go_ret
    exact ⟨-1, rfl, .inr ⟨rfl, fun j hj => absurd hj (Nat.not_lt_zero _)⟩, Fresh.refl _⟩
  have H1 := Lib.hid hc1
  clear hc1
  generalize hn : xs.length = n at hx H1
  have HN := Lib.hid hn
  clear hn
  go_enter Try.func25, Try.ntmps25
  go_wp2
  go_loopw [8] (fun i wr => IxRel xs r w i wr) (fun i _ => n - (intOf i).toNat)
  case atStart => exact ⟨0, rfl, Nat.zero_le _, fun j hj => absurd hj (Nat.not_lt_zero _), Fresh.refl _⟩
  case round =>
    obtain ⟨k, rfl, hk, he, hf⟩ := hrel
    have HE := Lib.hid he
    clear he
    have hk' : k ≤ n := by have := HN.out; omega
    clear hk
    by_cases hlt : k < n
    · have c1 : wr.cell? ⟨b1, o1 + k, none⟩ = some (.int .i32 (xs.getD k 0)) := (Below.cell hf (p := ⟨b1, o1 + k, none⟩) hb1).trans (H1.out k hlt)
      generalize hp : xs.getD k 0 = p at c1
      have HP := Lib.hid hp
      clear hp
      by_cases hpq : r = p
      · have HPQ := Lib.hid hpq
        have hb : (r == p) = true := by simp [hpq]
        clear hpq
        go_wp2
        go_ret
        exact ⟨k, rfl, .inl ⟨by omega, by have := HN.out; omega, by rw [Int.toNat_natCast, HP.out, HPQ.out], fun j hj => HE.out j (by omega)⟩, hf⟩
      · have HPQ := Lib.hid hpq
        have hb : (r == p) = false := by simp [hpq]
        clear hpq
        go_wp2
        refine ⟨⟨k + 1, by rw [Int.natCast_add]; rfl, by have := HN.out; omega, fun j hj => ?_, hf⟩, by simp [intOf]; omega⟩
        by_cases hjk : j = k
        · rw [hjk, HP.out]; exact fun h => HPQ.out h.symm
        · exact HE.out j (by omega)
    · have hkn : k = n := by omega
      go_wp2
      go_ret
      exact ⟨-1, rfl, .inr ⟨rfl, fun j hj => HE.out j (by have := HN.out; omega)⟩, hf⟩

/-- a string made runes: the new world, and that it reads as the runes -/
def runesWorld (w : World) (rs : List Int) : World :=
  w.drew.alloc (.cells ((rs.map (Value.int .i32)).toArray ++ Array.replicate (grownCap w rs.length 0 21 - rs.length) (.int .i32 0)) 21)
theorem runes_run {s : ByteArray} {rs : List Int} (h : Conv.runesFrom s s.size 0 #[] = (rs.map (Value.int .i32)).toArray) (hl : rs.length ≤ 1000000) (w : World) :
    (convert 9 30 (.string s)).run Try.prog w = .ok (.slice (some ⟨w.heap.size, 0, none⟩) rs.length (grownCap w rs.length 0 21)) (runesWorld w rs) := by
  have hz : (Conv.runesFrom s s.size 0 #[]).size = rs.length := by rw [h]; simp
  have := run_runes_of_string (P := Try.prog) w 9 30 21 s Try.underlying9 Try.underlying30 Try.underlying21 (by rw [hz]; omega)
  rw [hz, h] at this
  exact this
theorem runes_fresh (w : World) (rs : List Int) : Fresh w (runesWorld w rs) := (Fresh.refl w).drew.alloc _
theorem runes_cell (w : World) (rs : List Int) (j : Nat) (hj : j < rs.length) : (runesWorld w rs).cell? ⟨w.heap.size, j, none⟩ = some (.int .i32 (rs.getD j 0)) := by
  unfold runesWorld
  have hs : w.drew.heap.size = w.heap.size := rfl
  rw [World.cell?_alloc_at _ _ _ _ hs.symm, Array.getElem?_append_left (by simpa using hj)]
  simp [List.getD_eq_getElem?_getD, hj]
theorem runes_sl (w : World) (rs : List Int) : Sl (runesWorld w rs) (.slice (some ⟨w.heap.size, 0, none⟩) rs.length (grownCap w rs.length 0 21)) rs := by
  refine ⟨_, _, rfl, .inr ⟨w.heap.size, 0, rfl, ?_, fun j hj => ?_⟩⟩
  · unfold runesWorld; simp
  · rw [show 0 + j = j from by omega]; exact runes_cell w rs j hj
end Go.Proofs.Ytmfmnlioojkjgaa
