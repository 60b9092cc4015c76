/- Slices that are read; Same; Join, the program's and the reference's. -/
import Derived.Test.YtakddihadfdkpaaUtfK
import Derived.Lib.AppendStr
import Derived.Laws.BytesArg
namespace Go.Proofs.Ytakddihadfdkpaa
open Go.RowKit
set_option linter.unusedVariables false

/-- a slice that reads as these numbers -/
def Sl (w : World) (v : Value) (xs : List Int) : Prop :=
  ∃ a cap, v = .slice a xs.length cap ∧ (xs = [] ∨ ∃ b off, a = some ⟨b, off, none⟩ ∧ b < w.heap.size ∧ ∀ j, j < xs.length → w.cell? ⟨b, off + j, none⟩ = some (.int .i32 (xs.getD j 0)))
theorem Sl.keep {w w' : World} {v : Value} {xs : List Int} (h : Sl w v xs) (hf : Fresh w w') : Sl w' v xs := by
  obtain ⟨a, cap, hv, h⟩ := h
  refine ⟨a, cap, hv, ?_⟩
  rcases h with h | ⟨b, off, ha, hb, hc⟩
  · exact .inl h
  · exact .inr ⟨b, off, ha, Nat.lt_of_lt_of_le hb hf.size, fun j hj => (Below.cell hf (p := ⟨b, off + j, none⟩) hb).trans (hc j hj)⟩
theorem OwnR.sl {w : World} {B : Nat} {v : Value} {xs : List Int} (h : OwnR w B v xs) : Sl w v xs := by
  have h0 := h
  obtain ⟨h1, h2 | ⟨g, cap, cur, hv, hb, hh, h3⟩⟩ := h
  · obtain ⟨hv, hn⟩ := h2
    have : xs = [] := List.eq_nil_of_length_eq_zero hn
    subst this
    exact ⟨none, 0, hv, .inl rfl⟩
  · refine ⟨some ⟨g, 0, none⟩, cap, hv, .inr ⟨g, 0, rfl, ?_, fun j hj => ?_⟩⟩
    · rcases Nat.lt_or_ge g w.heap.size with q | q
      · exact q
      · rw [Array.getElem?_eq_none q] at hh; cases hh
    · subst hv
      have := World.ownsRow.cellAt h0 j (by omega)
      rw [show 0 + j = j from by omega, this, List.getElem?_map, List.getElem?_eq_getElem hj, List.getD_eq_getElem?_getD, List.getElem?_eq_getElem hj]
      rfl


theorem strOfNums_cells (s : ByteArray) : strOfNums (s.data.toList.map fun b => (b.toNat : Int)) = s := by
  unfold strOfNums
  rw [List.map_map]
  apply ByteArray.ext
  simp [Function.comp_def]
theorem info8 : (Try.prog.info? 5).map (fun i => (i.zero, i.size, i.bytes)) = some (some (.int .u8 0), 1, 1) := by kernel_rfl
/-- a row of bytes of the call's own, made a string -/
theorem conv_own {w : World} {B : Nat} {v : Value} {s : ByteArray} (h : w.ownsRow B 5 1 v s.size (Lib.strCells s)) :
    (convert 34 9 v).run Try.prog w = .ok (.string s) w := by
  have h0 := h
  obtain ⟨h1, h2 | ⟨g, cap, cur, hv, hb, hh, h3⟩⟩ := h
  · obtain ⟨hv, hn⟩ := h2
    subst hv
    rw [run_convert_bytes_nil w 34 5 Try.underlying34 Try.underlying5 0 0 9 Try.underlying9, empty_of hn]
  · subst hv
    have := run_convert_bytes_arg (P := Try.prog) w 34 5 Try.underlying34 Try.underlying5 g 0 s.size cap (s.data.toList.map fun b => (b.toNat : Int)) (by simp) (fun i hi => by
      have hi' : i < s.data.toList.length := by simpa using hi
      have := World.ownsRow.cellAt h0 i (by omega)
      rw [show 0 + i = i from by omega, this]
      unfold Lib.strCells
      simp [List.getD_eq_getElem?_getD, hi]) 9 Try.underlying9
    rw [this, strOfNums_cells]
theorem strCells_append (a b : ByteArray) : Lib.strCells (a ++ b) = Lib.strCells a ++ Lib.strCells b := by
  unfold Lib.strCells
  rw [ByteArray.data_append, Array.toList_append, List.map_append]
theorem take_succ_getD (xs : List Int) (k : Nat) (h : k < xs.length) : xs.take (k + 1) = xs.take k ++ [xs.getD k 0] := by
  rw [List.take_succ_eq_append_getElem h, List.getD_eq_getElem?_getD, List.getElem?_eq_getElem h]; rfl
def JoinRel (xs : List Int) (w : World) (out i : Value) (wr : World) : Prop :=
  ∃ k : Nat, i = .int .i64 k ∧ k ≤ xs.length ∧ wr.ownsRow w.heap.size 5 1 out (joinS (xs.take k)).size (Lib.strCells (joinS (xs.take k))) ∧ Fresh w wr
end Go.Proofs.Ytakddihadfdkpaa
