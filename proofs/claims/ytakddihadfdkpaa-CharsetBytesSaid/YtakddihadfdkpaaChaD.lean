/- fromKana, euro, single. -/
import Derived.Test.YtakddihadfdkpaaChaB
namespace Go.Proofs.Ytakddihadfdkpaa
open Go.RowKit
set_option linter.unusedVariables false

/-- bytes, if there are any -/
def BytesIs (o : Option (List Int)) (w : World) (e : Ending) (w' : World) : Prop :=
  e = .returned (.tuple #[.string (match o with | some l => strOfNums l | none => ByteArray.empty), .bool o.isSome]) ∧ Fresh w w'
theorem BytesIs.yes {o : Option (List Int)} {l : List Int} {w w' : World} (h : o = some l) (hf : Fresh w w') : BytesIs o w (.returned (.tuple #[.string (strOfNums l), .bool true])) w' := ⟨by rw [h]; rfl, hf⟩
theorem BytesIs.no {o : Option (List Int)} {w w' : World} (h : o = none) (hf : Fresh w w') : BytesIs o w (.returned (.tuple #[.string ByteArray.empty, .bool false])) w' := ⟨by rw [h]; rfl, hf⟩
def encK (r : Int) : Option (List Int) :=
  if r < 128 then some [r] else if 65377 ≤ r ∧ r ≤ 65439 then some [161 + r - 65377] else (pairK r).map fun x => [x.1, x.2]
def FromRel (r : Int) (w : World) (i : Value) (wr : World) : Prop := ∃ k : Nat, i = .int .i64 k ∧ k ≤ 17 ∧ (∀ x ∈ RT.take k, ¬ hitR x r) ∧ Fresh w wr
theorem miss_more2 {k : Nat} (hk : k < RT.length) {p : Int × Int × Int × Int → Prop} (h : ∀ x ∈ RT.take k, ¬ p x) (h2 : ¬ p RT[k]) : ∀ x ∈ RT.take (k + 1), ¬ p x := by
  intro x hx
  rw [List.take_succ_eq_append_getElem hk, List.mem_append, List.mem_singleton] at hx
  rcases hx with hx | rfl
  · exact h x hx
  · exact h2
theorem pair_none {r : Int} (h : ∀ x ∈ RT, ¬ hitR x r) : pairK r = none := by
  rcases echain_mem (r := r) RT with ⟨x, hx, h1, _⟩ | ⟨_, h2⟩
  · exact absurd h1 (h x hx)
  · exact h2
set_option maxHeartbeats 1600000 in
theorem fromKana_any (r : Int) (h0 : 0 ≤ r) (h1 : r < 1114112) (w : World) :
    Calls Try.prog 23 #[.int .i32 r] w (BytesIs (encK r) w) := by
  have k1 := conv1
  have k2 : ∀ (a b : Int) (X : Obj) (W : World), (convert 34 9 (.slice (some ⟨W.heap.size + 1, 0, none⟩) 2 2)).run Try.prog ((W.alloc X).alloc (.cells #[.int .u8 a, .int .u8 b] 5)) = .ok (.string (strOfNums [a, b])) ((W.alloc X).alloc (.cells #[.int .u8 a, .int .u8 b] 5)) := fun a b X W => by
    have := conv2 a b (W.alloc X)
    simpa using this
  by_cases a1 : r < 128
  · have HZ : Hid (encK r = some [r]) := by unfold encK; rw [if_pos a1]; exact rfl
    go_enter Try.func23, Try.ntmps23
    go_wp2
    go_ret2
    exact BytesIs.yes HZ.out ((Fresh.refl _).alloc _)
  by_cases a2 : 65377 ≤ r ∧ r ≤ 65439
  · have HZ : Hid (encK r = some [161 + r - 65377]) := by unfold encK; rw [if_neg a1, if_pos a2]; exact rfl
    obtain ⟨a2, a3⟩ := a2
    go_enter Try.func23, Try.ntmps23
    go_wp2
    go_ret2
    exact BytesIs.yes HZ.out ((Fresh.refl _).alloc _)
  have HK : Hid (encK r = (pairK r).map fun x => [x.1, x.2]) := by unfold encK; rw [if_neg a1, if_neg a2]; exact rfl
  have a3 : r < 65377 ∨ 65439 < r := by omega
  clear a2
  go_enter Try.func23, Try.ntmps23
  rcases a3 with a3 | a3
  all_goals
    go_wp2_with fail
    refine (runs_any _).mono ?_
    rintro e w1 ⟨rfl, hf1, hblk⟩
    go_wp2
    go_loopw [29] (fun i wr => FromRel r w1 i wr) (fun i _ => 17 - (intOf i).toNat)
    case atStart => exact ⟨0, rfl, by omega, fun x hx => by simp at hx, Fresh.refl _⟩
    case round =>
      obtain ⟨k, rfl, hk, hm, hf⟩ := hrel
      have HM := Lib.hid hm
      clear hm
      by_cases hlt : k < 17
      · have hlt' : k < RT.length := hlt
        obtain ⟨t0, t1, t2, t3⟩ := run_cells hlt'
        have hb2 := hblk.keep hf
        have HX := Lib.hid (RT_of (List.getElem_mem hlt')).1
        have HMM := Lib.hid (fun h => miss_more2 hlt' (p := fun x => hitR x r) HM.out h)
        have HT : Hid (hitR RT[k] r → pairK r = some ((RT[k]).1, (RT[k]).2.1 + (r - (RT[k]).2.2.2))) := fun h => pair_of (List.getElem_mem hlt') h
        generalize RT[k] = x at t0 t1 t2 t3 HX HMM HT
        obtain ⟨x0, x1, x2, x3⟩ := x
        have c0 : wr.cell? ⟨w.heap.size, k * 4, none⟩ = some (.int .u8 x0) := by rw [hb2.cell]; simpa using t0
        have c1 : wr.cell? ⟨w.heap.size, k * 4 + 1, none⟩ = some (.int .u8 x1) := by rw [hb2.cell]; simpa using t1
        have c2 : wr.cell? ⟨w.heap.size, k * 4 + 2, none⟩ = some (.int .u8 x2) := by rw [hb2.cell]; simpa using t2
        have c3 : wr.cell? ⟨w.heap.size, k * 4 + 3, none⟩ = some (.int .i32 x3) := by rw [hb2.cell]; simpa using t3
        generalize hq : runCells.toArray = rc at hb2
        clear t0 t1 t2 t3 hb2 hq
        have hx0 := HX.out
        simp only at hx0
        obtain ⟨y1, y2, y3, y4, y5, y6, y7, y8⟩ := hx0
        by_cases e1 : 0 ≤ r - x3
        · by_cases e2 : r - x3 ≤ x2 - x1
          · have HZ : Hid (encK r = some [x0, x1 + (r - x3)]) := by
              have := HT.out ⟨e1, e2⟩
              rw [HK.out, this]
              exact rfl
            go_wp2
            go_ret2
            exact BytesIs.yes HZ.out (((hf1.trans hf).alloc _).alloc _)
          · go_wp2
            exact ⟨⟨k + 1, by rw [Int.natCast_add]; rfl, by omega, HMM.out (fun h => by have h3 := h.2; simp only at h3; omega), hf.alloc _⟩, by simp [intOf]; omega⟩
        · go_wp2
          exact ⟨⟨k + 1, by rw [Int.natCast_add]; rfl, by omega, HMM.out (fun h => by have h3 := h.1; simp only at h3; omega), hf.alloc _⟩, by simp [intOf]; omega⟩
      · have HZ : Hid (encK r = none) := by
          have : pairK r = none := pair_none (fun x hx => HM.out x (by rw [List.take_of_length_le (by show 17 ≤ k; omega)]; exact hx))
          rw [HK.out, this]
          exact rfl
        go_wp2
        go_ret2
        exact BytesIs.no HZ.out (hf1.trans hf)
end Go.Proofs.Ytakddihadfdkpaa
