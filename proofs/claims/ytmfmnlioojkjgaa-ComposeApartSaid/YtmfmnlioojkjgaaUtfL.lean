/- Slices that are read; Same; Join, the program's and the reference's. -/
import Derived.Test.YtmfmnlioojkjgaaUtfK
import Derived.Lib.AppendStr
import Derived.Laws.BytesArg
namespace Go.Proofs.Ytmfmnlioojkjgaa
open Go.RowKit
set_option linter.unusedVariables false

/-- a slice that reads as these numbers -/
def Sl (w : World) (v : Value) (xs : List Int) : Prop :=
  ∃ a cap, v = .slice a xs.length cap ∧ (xs = [] ∨ ∃ b off, a = some ⟨b, off, none⟩ ∧ b < w.heap.size ∧ ∀ j, j < xs.length → w.cell? ⟨b, off + j, none⟩ = some (.int .i32 (xs.getD j 0)))
theorem Sl.keep {w w' : World} {v : Value} {xs : List Int} (h : Sl w v xs) (hf : Fresh w w') : Sl w' v xs := by
  obtain ⟨a, cap, hv, h⟩ := h
  refine ⟨a, cap, hv, ?_⟩
  rcases h with h | ⟨b, off, ha, hb, hc⟩
  · exact .inl h
  · exact .inr ⟨b, off, ha, Nat.lt_of_lt_of_le hb hf.size, fun j hj => (Below.cell hf (p := ⟨b, off + j, none⟩) hb).trans (hc j hj)⟩
theorem OwnR.sl {w : World} {B : Nat} {v : Value} {xs : List Int} (h : OwnR w B v xs) : Sl w v xs := by
  have h0 := h
  obtain ⟨h1, h2 | ⟨g, cap, cur, hv, hb, hh, h3⟩⟩ := h
  · obtain ⟨hv, hn⟩ := h2
    have : xs = [] := List.eq_nil_of_length_eq_zero hn
    subst this
    exact ⟨none, 0, hv, .inl rfl⟩
  · refine ⟨some ⟨g, 0, none⟩, cap, hv, .inr ⟨g, 0, rfl, ?_, fun j hj => ?_⟩⟩
    · rcases Nat.lt_or_ge g w.heap.size with q | q
      · exact q
      · rw [Array.getElem?_eq_none q] at hh; cases hh
    · subst hv
      have := World.ownsRow.cellAt h0 j (by omega)
      rw [show 0 + j = j from by omega, this, List.getElem?_map, List.getElem?_eq_getElem hj, List.getD_eq_getElem?_getD, List.getElem?_eq_getElem hj]
      rfl

def SamePost (xs ys : List Int) (w : World) (e : Ending) (w' : World) : Prop := e = .returned (.bool (decide (xs = ys))) ∧ Fresh w w'
theorem SamePost.mk {xs ys : List Int} {w w' : World} {b : Bool} (h : b = decide (xs = ys)) (hf : Fresh w w') : SamePost xs ys w (.returned (.bool b)) w' := ⟨by rw [h], hf⟩
theorem take_eq_of {xs ys : List Int} (hl : xs.length = ys.length) (h : ∀ j, j < xs.length → xs.getD j 0 = ys.getD j 0) : xs = ys := by
  apply List.ext_getElem hl
  intro i h1 h2
  have := h i h1
  rwa [List.getD_eq_getElem?_getD, List.getD_eq_getElem?_getD, List.getElem?_eq_getElem h1, List.getElem?_eq_getElem h2] at this
def SameRel (xs ys : List Int) (w : World) (i : Value) (wr : World) : Prop := ∃ k : Nat, i = .int .i64 k ∧ k ≤ xs.length ∧ (∀ j, j < k → xs.getD j 0 = ys.getD j 0) ∧ Fresh w wr
set_option maxHeartbeats 800000 in
theorem refSame_any (u v : Value) (xs ys : List Int) (w : World) (hu : Sl w u xs) (hv : Sl w v ys) (hx : xs.length ≤ 1000000) (hy : ys.length ≤ 1000000) :
    Calls Try.prog 18 #[u, v] w (SamePost xs ys w) := by
  obtain ⟨a, ca, rfl, hu⟩ := hu
  obtain ⟨b, cb, rfl, hv⟩ := hv
  by_cases hl : xs.length = ys.length
  · have hne : ((xs.length : Int) != (xs.length : Int)) = false := by simp
    rw [← hl]
    have HL := Lib.hid hl
    clear hl hy
    rcases hu with rfl | ⟨b1, o1, rfl, hb1, hc1⟩
    · have hyn : ys = [] := List.eq_nil_of_length_eq_zero (by have := HL.out; simpa using this.symm)
      subst hyn
      go_enter Try.func18, Try.ntmps18
      go_wp2
      refine wp_loop_rounds 1 ?_
      rw [rounds_succ]
      go_wp2
      go_ret
      exact SamePost.mk rfl (Fresh.refl _)
    rcases hv with rfl | ⟨b2, o2, rfl, hb2, hc2⟩
    · have hyn : xs = [] := List.eq_nil_of_length_eq_zero (by have := HL.out; simpa using this)
      subst hyn
      go_enter Try.func18, Try.ntmps18
      go_wp2
      refine wp_loop_rounds 1 ?_
      rw [rounds_succ]
      go_wp2
      go_ret
      exact SamePost.mk rfl (Fresh.refl _)
    have H1 := Lib.hid hc1
    have H2 := Lib.hid hc2
    clear hc1 hc2
    generalize hn : xs.length = n at hx hne H1
    have HN := Lib.hid hn
    clear hn
    go_enter Try.func18, Try.ntmps18
    go_wp2
    go_loopw [5] (fun i wr => SameRel xs ys w i wr) (fun i _ => n - (intOf i).toNat)
    case atStart => exact ⟨0, rfl, Nat.zero_le _, fun j hj => absurd hj (Nat.not_lt_zero _), Fresh.refl _⟩
    case round =>
      obtain ⟨k, rfl, hk, he, hf⟩ := hrel
      have HE := Lib.hid he
      clear he
      have hk' : k ≤ n := by have := HN.out; omega
      clear hk
      by_cases hlt : k < n
      · have c1 : wr.cell? ⟨b1, o1 + k, none⟩ = some (.int .i32 (xs.getD k 0)) := (Below.cell hf (p := ⟨b1, o1 + k, none⟩) hb1).trans (H1.out k hlt)
        have c2 : wr.cell? ⟨b2, o2 + k, none⟩ = some (.int .i32 (ys.getD k 0)) := (Below.cell hf (p := ⟨b2, o2 + k, none⟩) hb2).trans (H2.out k (by have := HL.out; have := HN.out; omega))
        generalize hp : xs.getD k 0 = p at c1
        generalize hq : ys.getD k 0 = q at c2
        have HP := Lib.hid hp
        have HQ := Lib.hid hq
        clear hp hq
        have q8 : (0 : Int) ≤ (k : Int) := by omega
        have q9 : (k : Int) < (n : Int) := by omega
        go_wp2
        go_quiet (fail)
        by_cases hpq : p = q
        · have HPQ := Lib.hid hpq
          have hb : (p != q) = false := by simp [hpq]
          clear hpq
          go_wp2
          refine ⟨⟨k + 1, by rw [Int.natCast_add]; rfl, by have := HN.out; omega, fun j hj => ?_, hf.drewN _⟩, by simp [intOf]; omega⟩
          by_cases hjk : j = k
          · rw [hjk, HP.out, HQ.out, HPQ.out]
          · exact HE.out j (by omega)
        · have HPQ := Lib.hid hpq
          have hb : (p != q) = true := by simp [hpq]
          clear hpq
          go_wp2
          go_ret
          exact SamePost.mk (by symm; rw [decide_eq_false_iff_not]; intro e; apply HPQ.out; rw [← HP.out, ← HQ.out, e]) (hf.drewN _)
      · have hkn : k = n := by omega
        go_wp2
        go_ret
        exact SamePost.mk (by symm; rw [decide_eq_true_iff]; exact take_eq_of HL.out (fun j hj => HE.out j (by have := HN.out; omega))) hf
  · have hne : ((xs.length : Int) != (ys.length : Int)) = true := by simp; omega
    have HD := Lib.hid hl
    generalize hn1 : xs.length = n1 at hne HD
    generalize hn2 : ys.length = n2 at hne HD
    have HN1 := Lib.hid hn1
    have HN2 := Lib.hid hn2
    clear hn1 hn2 hl
    go_enter Try.func18, Try.ntmps18
    go_wp2
    go_ret
    exact SamePost.mk (by symm; rw [decide_eq_false_iff_not]; intro e; apply HD.out; rw [← HN1.out, ← HN2.out, e]) (Fresh.refl _)

theorem strOfNums_cells (s : ByteArray) : strOfNums (s.data.toList.map fun b => (b.toNat : Int)) = s := by
  unfold strOfNums
  rw [List.map_map]
  apply ByteArray.ext
  simp [Function.comp_def]
theorem info8 : (Try.prog.info? 5).map (fun i => (i.zero, i.size, i.bytes)) = some (some (.int .u8 0), 1, 1) := by kernel_rfl
/-- a row of bytes of the call's own, made a string -/
theorem conv_own {w : World} {B : Nat} {v : Value} {s : ByteArray} (h : w.ownsRow B 5 1 v s.size (Lib.strCells s)) :
    (convert 55 9 v).run Try.prog w = .ok (.string s) w := by
  have h0 := h
  obtain ⟨h1, h2 | ⟨g, cap, cur, hv, hb, hh, h3⟩⟩ := h
  · obtain ⟨hv, hn⟩ := h2
    subst hv
    rw [run_convert_bytes_nil w 55 5 Try.underlying55 Try.underlying5 0 0 9 Try.underlying9, empty_of hn]
  · subst hv
    have := run_convert_bytes_arg (P := Try.prog) w 55 5 Try.underlying55 Try.underlying5 g 0 s.size cap (s.data.toList.map fun b => (b.toNat : Int)) (by simp) (fun i hi => by
      have hi' : i < s.data.toList.length := by simpa using hi
      have := World.ownsRow.cellAt h0 i (by omega)
      rw [show 0 + i = i from by omega, this]
      unfold Lib.strCells
      simp [List.getD_eq_getElem?_getD, hi]) 9 Try.underlying9
    rw [this, strOfNums_cells]
theorem strCells_append (a b : ByteArray) : Lib.strCells (a ++ b) = Lib.strCells a ++ Lib.strCells b := by
  unfold Lib.strCells
  rw [ByteArray.data_append, Array.toList_append, List.map_append]
theorem take_succ_getD (xs : List Int) (k : Nat) (h : k < xs.length) : xs.take (k + 1) = xs.take k ++ [xs.getD k 0] := by
  rw [List.take_succ_eq_append_getElem h, List.getD_eq_getElem?_getD, List.getElem?_eq_getElem h]; rfl
def JoinRel (xs : List Int) (w : World) (out i : Value) (wr : World) : Prop :=
  ∃ k : Nat, i = .int .i64 k ∧ k ≤ xs.length ∧ wr.ownsRow w.heap.size 5 1 out (joinS (xs.take k)).size (Lib.strCells (joinS (xs.take k))) ∧ Fresh w wr
end Go.Proofs.Ytmfmnlioojkjgaa
