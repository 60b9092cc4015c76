/- The reference's Join; what a slice argument is told as. -/
import Derived.Test.YtmfmnlioojkjgaaUtfL
namespace Go.Proofs.Ytmfmnlioojkjgaa
open Go.RowKit
set_option linter.unusedVariables false

def JoinRel2 (xs : List Int) (w : World) (out i : Value) (wr : World) : Prop :=
  ∃ k : Nat, i = .int .i64 k ∧ k ≤ xs.length ∧ out = .string (joinS (xs.take k)) ∧ Fresh w wr

/-- what a slice of whole numbers that came in is told as -/
def IsRow (k : IntKind) (w : World) (a : Option Addr) (len cap : Nat) (zs : List Int) : Prop :=
  (a = none ∧ len = 0 ∧ cap = 0 ∧ zs = []) ∨
  ∃ x, a = some x ∧ len ≤ cap ∧ cap ≤ maxLen ∧ zs.length = cap ∧ (∀ i, i < zs.length → w.cell? (x.add i) = some (.int k (zs.getD i 0))) ∧ ∀ n ∈ zs, (Lit.int k n).wf = true
theorem IsRow.sl {w : World} {a : Option Addr} {len cap : Nat} {zs : List Int} (h : IsRow .i32 w a len cap zs) : Sl w (.slice a len cap) (zs.take len) ∧ (zs.take len).length = len ∧ ∀ n ∈ zs.take len, -2147483648 ≤ n ∧ n < 2147483648 := by
  rcases h with ⟨rfl, rfl, rfl, rfl⟩ | ⟨x, rfl, hl, hm, hz, hcell, hwz⟩
  · exact ⟨⟨none, 0, rfl, .inl rfl⟩, rfl, fun n hn => by simp at hn⟩
  · have hlen : (zs.take len).length = len := by rw [List.length_take]; omega
    refine ⟨⟨some x, cap, by rw [hlen], ?_⟩, hlen, fun n hn => ?_⟩
    · by_cases h0 : len = 0
      · left; subst h0; simp
      · right
        obtain ⟨b, off, spot⟩ := x
        have hc := hcell 0 (by omega)
        have hspot : spot = none := by simpa [Addr.add] using World.cell?_spot hc
        subst hspot
        refine ⟨b, off, rfl, ?_, fun j hj => ?_⟩
        · rcases Nat.lt_or_ge b w.heap.size with q | q
          · exact q
          · simp [World.cell?, Addr.add, Array.getElem?_eq_none q] at hc
        · rw [hlen] at hj
          have := hcell j (by omega)
          rw [List.getD_eq_getElem?_getD, List.getElem?_take, if_pos hj, ← List.getD_eq_getElem?_getD, ← this]
          unfold Addr.add
          split
          · rename_i q; subst q; rfl
          · rfl
    · have := hwz n (List.mem_of_mem_take hn)
      simp [Lit.wf, IntKind.min, IntKind.max, IntKind.bits, IntKind.signed] at this
      omega
end Go.Proofs.Ytmfmnlioojkjgaa
