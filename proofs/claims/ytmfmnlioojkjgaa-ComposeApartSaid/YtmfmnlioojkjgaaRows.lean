/-
  No cell of these rows narrows 'for every input' (looked for: loops, veiled, ifaces, maps, wideKeys, modest, calm, conditions, laid).
  DERIVED. THE GIVEN ROWS OF THIS SEAT. 7 by the template 'for every input the law returns true; each argument reads behind the call as it read before'; 0 by the template 'total and deterministic' (their statements: YtmfmnlioojkjgaaTotals.lean).
  GIVEN WITH THE SEED: the statements are not yours to turn. If you find one false, say at which input.
  Laid BY PROGRAM, IN A SANDBOX (cutbox-rows.mjs): the forced cells as the released guide's own fill.sh prints them over the translation a6cb905301eb7fe9… (all of the seat's roots in one cut). By AI agents, Wed Nov 11 2026. No macro, syntax, notation, axiom, sorry.
-/
import Derived.Test.YtmfmnlioojkjgaaChecked
import GoSem.Claim
import GoSem.ClaimJoined
import GoSem.ClaimMapViews
import Derived.JoinedTies
import Derived.KernelRfl
namespace Go.Proofs.Ytmfmnlioojkjgaa
/- THE CELL 'sum', in the pinned program and in every row, IS THE sha256 OF THE DUMP (.gsa) THAT YtmfmnlioojkjgaaProg.lean LOADS. Nothing in Lean hashes anything: it is a label: what it is worth is what the hold of that sum in a sandbox is worth. -/
noncomputable def Try.pinned : Pinned := { name := "ytmfmnlioojkjgaa", sum := "a6cb905301eb7fe9da19971d0f13bbe4b8eb5e79dbf3a26f80052ad3628de519", checked := Try.checked }
namespace Rows
def none {H : Type} : Left H := { results := [], args := [] }

/-- 'toponymlaw03.ComposePairs': WHATEVER THE INPUT: true; the input reads as it did. -/
def composePairsSpec : ChangeSpec := { name := "composePairs", fn := fun _ => fun
  | [d1, d2, d3] => { results := [.lit (.bool true)], args := [d1, d2, d3] }
  | _ => none }
def composePairsRow : OpenClaim := { program := "ytmfmnlioojkjgaa", sum := "a6cb905301eb7fe9da19971d0f13bbe4b8eb5e79dbf3a26f80052ad3628de519", func := "toponym/toponymlaw03.ComposePairs", spec := "composePairs", apart := false }
def ComposePairsSaid : Prop := composePairsRow.holds Try.pinned (OpenSpec.ofChange composePairsSpec)

/-- ITS FALSE NEIGHBOUR: 'it returns false'. Refute it at one input. -/
def composePairsWrong : ChangeSpec := { name := "composePairs", fn := fun _ => fun
  | [d1, d2, d3] => { results := [.lit (.bool false)], args := [d1, d2, d3] }
  | _ => none }
def ComposePairsWrongFalsely : Prop := composePairsRow.holds Try.pinned (OpenSpec.ofChange composePairsWrong)

/-- 'toponymlaw03.ComposeBack': WHATEVER THE INPUT: true; the input reads as it did. -/
def composeBackSpec : ChangeSpec := { name := "composeBack", fn := fun _ => fun
  | [d1, d2, d3] => { results := [.lit (.bool true)], args := [d1, d2, d3] }
  | _ => none }
def composeBackRow : OpenClaim := { program := "ytmfmnlioojkjgaa", sum := "a6cb905301eb7fe9da19971d0f13bbe4b8eb5e79dbf3a26f80052ad3628de519", func := "toponym/toponymlaw03.ComposeBack", spec := "composeBack", apart := false }
def ComposeBackSaid : Prop := composeBackRow.holds Try.pinned (OpenSpec.ofChange composeBackSpec)

/-- ITS FALSE NEIGHBOUR: 'it returns false'. Refute it at one input. -/
def composeBackWrong : ChangeSpec := { name := "composeBack", fn := fun _ => fun
  | [d1, d2, d3] => { results := [.lit (.bool false)], args := [d1, d2, d3] }
  | _ => none }
def ComposeBackWrongFalsely : Prop := composeBackRow.holds Try.pinned (OpenSpec.ofChange composeBackWrong)

/-- 'toponymlaw03.ComposeJoins': WHATEVER THE INPUT: true; the input reads as it did. -/
def composeJoinsSpec : ChangeSpec := { name := "composeJoins", fn := fun _ => fun
  | [d1, d2] => { results := [.lit (.bool true)], args := [d1, d2] }
  | _ => none }
def composeJoinsRow : OpenClaim := { program := "ytmfmnlioojkjgaa", sum := "a6cb905301eb7fe9da19971d0f13bbe4b8eb5e79dbf3a26f80052ad3628de519", func := "toponym/toponymlaw03.ComposeJoins", spec := "composeJoins", unfollowed := true, recurses := true, apart := false }
def ComposeJoinsSaid : Prop := composeJoinsRow.holds Try.pinned (OpenSpec.ofChange composeJoinsSpec)

/-- ITS FALSE NEIGHBOUR: 'it returns false'. Refute it at one input. -/
def composeJoinsWrong : ChangeSpec := { name := "composeJoins", fn := fun _ => fun
  | [d1, d2] => { results := [.lit (.bool false)], args := [d1, d2] }
  | _ => none }
def ComposeJoinsWrongFalsely : Prop := composeJoinsRow.holds Try.pinned (OpenSpec.ofChange composeJoinsWrong)

/-- 'toponymlaw03.ComposeSame': WHATEVER THE INPUT: true; the input reads as it did. -/
def composeSameSpec : ChangeSpec := { name := "composeSame", fn := fun _ => fun
  | [d1, d2] => { results := [.lit (.bool true)], args := [d1, d2] }
  | _ => none }
def composeSameRow : OpenClaim := { program := "ytmfmnlioojkjgaa", sum := "a6cb905301eb7fe9da19971d0f13bbe4b8eb5e79dbf3a26f80052ad3628de519", func := "toponym/toponymlaw03.ComposeSame", spec := "composeSame", unfollowed := true, recurses := true, apart := false }
def ComposeSameSaid : Prop := composeSameRow.holds Try.pinned (OpenSpec.ofChange composeSameSpec)

/-- ITS FALSE NEIGHBOUR: 'it returns false'. Refute it at one input. -/
def composeSameWrong : ChangeSpec := { name := "composeSame", fn := fun _ => fun
  | [d1, d2] => { results := [.lit (.bool false)], args := [d1, d2] }
  | _ => none }
def ComposeSameWrongFalsely : Prop := composeSameRow.holds Try.pinned (OpenSpec.ofChange composeSameWrong)

/-- 'toponymlaw03.ComposeHangul': WHATEVER THE INPUT: true; the input reads as it did. -/
def composeHangulSpec : ChangeSpec := { name := "composeHangul", fn := fun _ => fun
  | [d1, d2, d3] => { results := [.lit (.bool true)], args := [d1, d2, d3] }
  | _ => none }
def composeHangulRow : OpenClaim := { program := "ytmfmnlioojkjgaa", sum := "a6cb905301eb7fe9da19971d0f13bbe4b8eb5e79dbf3a26f80052ad3628de519", func := "toponym/toponymlaw03.ComposeHangul", spec := "composeHangul", unfollowed := true, recurses := true, apart := false }
def ComposeHangulSaid : Prop := composeHangulRow.holds Try.pinned (OpenSpec.ofChange composeHangulSpec)

/-- ITS FALSE NEIGHBOUR: 'it returns false'. Refute it at one input. -/
def composeHangulWrong : ChangeSpec := { name := "composeHangul", fn := fun _ => fun
  | [d1, d2, d3] => { results := [.lit (.bool false)], args := [d1, d2, d3] }
  | _ => none }
def ComposeHangulWrongFalsely : Prop := composeHangulRow.holds Try.pinned (OpenSpec.ofChange composeHangulWrong)

/-- 'toponymlaw03.ComposeApart': WHATEVER THE INPUT: true; the input reads as it did. -/
def composeApartSpec : ChangeSpec := { name := "composeApart", fn := fun _ => fun
  | [d] => { results := [.lit (.bool true)], args := [d] }
  | _ => none }
def composeApartRow : OpenClaim := { program := "ytmfmnlioojkjgaa", sum := "a6cb905301eb7fe9da19971d0f13bbe4b8eb5e79dbf3a26f80052ad3628de519", func := "toponym/toponymlaw03.ComposeApart", spec := "composeApart", unfollowed := true, recurses := true, apart := false }
def ComposeApartSaid : Prop := composeApartRow.holds Try.pinned (OpenSpec.ofChange composeApartSpec)

/-- ITS FALSE NEIGHBOUR: 'it returns false'. Refute it at one input. -/
def composeApartWrong : ChangeSpec := { name := "composeApart", fn := fun _ => fun
  | [d] => { results := [.lit (.bool false)], args := [d] }
  | _ => none }
def ComposeApartWrongFalsely : Prop := composeApartRow.holds Try.pinned (OpenSpec.ofChange composeApartWrong)

/-- 'toponymlaw03.ComposeStable': WHATEVER THE INPUT: true; the input reads as it did. -/
def composeStableSpec : ChangeSpec := { name := "composeStable", fn := fun _ => fun
  | [d] => { results := [.lit (.bool true)], args := [d] }
  | _ => none }
def composeStableRow : OpenClaim := { program := "ytmfmnlioojkjgaa", sum := "a6cb905301eb7fe9da19971d0f13bbe4b8eb5e79dbf3a26f80052ad3628de519", func := "toponym/toponymlaw03.ComposeStable", spec := "composeStable", unfollowed := true, recurses := true, apart := false }
def ComposeStableSaid : Prop := composeStableRow.holds Try.pinned (OpenSpec.ofChange composeStableSpec)

/-- ITS FALSE NEIGHBOUR: 'it returns false'. Refute it at one input. -/
def composeStableWrong : ChangeSpec := { name := "composeStable", fn := fun _ => fun
  | [d] => { results := [.lit (.bool false)], args := [d] }
  | _ => none }
def ComposeStableWrongFalsely : Prop := composeStableRow.holds Try.pinned (OpenSpec.ofChange composeStableWrong)

/- THE SECOND FORM. 'bulk': how many values and letters a reading holds, each counted each time it is reached (what is shared counts as often as it is met; a slice's spare places count too). A statement '..UptoSaid' is the law's where the arguments, and the package variables that the reading takes, are together of bulk at most 1048576: NARROWER than '..Said'. Prove '..Said' where nothing that the law and all that it calls make is longer than what came in: it says more and counts as full. Else prove '..UptoSaid'. A law counts once. -/
mutual
def uptoBulk {H : Type} : DataW H → Nat
  | .lit (.string bytes) => bytes.length + 1
  | .lit _ => 1
  | .nil => 1
  | .ptr d => uptoBulk d + 1
  | .slice elems spare => uptoBulkAll elems + uptoBulkAll spare + 1
  | .agg parts => uptoBulkAll parts + 1
  | .iface _ d => uptoBulk d + 1
  | .map entries => uptoBulkEntries entries + 1
  | .held _ => 1
def uptoBulkAll {H : Type} : List (DataW H) → Nat
  | [] => 0
  | d :: r => uptoBulk d + uptoBulkAll r
def uptoBulkEntries {H : Type} : List (Lit × DataW H) → Nat
  | [] => 0
  | x :: r => uptoBulkEntry x + uptoBulkEntries r
def uptoBulkEntry {H : Type} : Lit × DataW H → Nat
  | (.string bytes, d) => bytes.length + uptoBulk d + 1
  | (_, d) => uptoBulk d + 1
 end
def uptoSmall : (H : Type) → List (DataW H) → Bool := fun _ ds => decide (uptoBulkAll ds ≤ 1048576)
def OpenSpec.upto (s : _root_.Go.ChangeSpec) : _root_.Go.OpenSpec := { _root_.Go.OpenSpec.ofChange s with cond := some uptoSmall }

/-- 'toponymlaw03.ComposePairs', WHERE WHAT IT READS IS OF BULK AT MOST 1048576: true; the input reads as it did. -/
def composePairsUptoRow : OpenClaim := { program := "ytmfmnlioojkjgaa", sum := "a6cb905301eb7fe9da19971d0f13bbe4b8eb5e79dbf3a26f80052ad3628de519", func := "toponym/toponymlaw03.ComposePairs", spec := "composePairs", apart := false, narrowed := true }
def ComposePairsUptoSaid : Prop := composePairsUptoRow.holds Try.pinned (OpenSpec.upto composePairsSpec)

/-- 'toponymlaw03.ComposeBack', WHERE WHAT IT READS IS OF BULK AT MOST 1048576: true; the input reads as it did. -/
def composeBackUptoRow : OpenClaim := { program := "ytmfmnlioojkjgaa", sum := "a6cb905301eb7fe9da19971d0f13bbe4b8eb5e79dbf3a26f80052ad3628de519", func := "toponym/toponymlaw03.ComposeBack", spec := "composeBack", apart := false, narrowed := true }
def ComposeBackUptoSaid : Prop := composeBackUptoRow.holds Try.pinned (OpenSpec.upto composeBackSpec)

/-- 'toponymlaw03.ComposeJoins', WHERE WHAT IT READS IS OF BULK AT MOST 1048576: true; the input reads as it did. -/
def composeJoinsUptoRow : OpenClaim := { program := "ytmfmnlioojkjgaa", sum := "a6cb905301eb7fe9da19971d0f13bbe4b8eb5e79dbf3a26f80052ad3628de519", func := "toponym/toponymlaw03.ComposeJoins", spec := "composeJoins", unfollowed := true, recurses := true, apart := false, narrowed := true }
def ComposeJoinsUptoSaid : Prop := composeJoinsUptoRow.holds Try.pinned (OpenSpec.upto composeJoinsSpec)

/-- 'toponymlaw03.ComposeSame', WHERE WHAT IT READS IS OF BULK AT MOST 1048576: true; the input reads as it did. -/
def composeSameUptoRow : OpenClaim := { program := "ytmfmnlioojkjgaa", sum := "a6cb905301eb7fe9da19971d0f13bbe4b8eb5e79dbf3a26f80052ad3628de519", func := "toponym/toponymlaw03.ComposeSame", spec := "composeSame", unfollowed := true, recurses := true, apart := false, narrowed := true }
def ComposeSameUptoSaid : Prop := composeSameUptoRow.holds Try.pinned (OpenSpec.upto composeSameSpec)

/-- 'toponymlaw03.ComposeHangul', WHERE WHAT IT READS IS OF BULK AT MOST 1048576: true; the input reads as it did. -/
def composeHangulUptoRow : OpenClaim := { program := "ytmfmnlioojkjgaa", sum := "a6cb905301eb7fe9da19971d0f13bbe4b8eb5e79dbf3a26f80052ad3628de519", func := "toponym/toponymlaw03.ComposeHangul", spec := "composeHangul", unfollowed := true, recurses := true, apart := false, narrowed := true }
def ComposeHangulUptoSaid : Prop := composeHangulUptoRow.holds Try.pinned (OpenSpec.upto composeHangulSpec)

/-- 'toponymlaw03.ComposeApart', WHERE WHAT IT READS IS OF BULK AT MOST 1048576: true; the input reads as it did. -/
def composeApartUptoRow : OpenClaim := { program := "ytmfmnlioojkjgaa", sum := "a6cb905301eb7fe9da19971d0f13bbe4b8eb5e79dbf3a26f80052ad3628de519", func := "toponym/toponymlaw03.ComposeApart", spec := "composeApart", unfollowed := true, recurses := true, apart := false, narrowed := true }
def ComposeApartUptoSaid : Prop := composeApartUptoRow.holds Try.pinned (OpenSpec.upto composeApartSpec)

/-- 'toponymlaw03.ComposeStable', WHERE WHAT IT READS IS OF BULK AT MOST 1048576: true; the input reads as it did. -/
def composeStableUptoRow : OpenClaim := { program := "ytmfmnlioojkjgaa", sum := "a6cb905301eb7fe9da19971d0f13bbe4b8eb5e79dbf3a26f80052ad3628de519", func := "toponym/toponymlaw03.ComposeStable", spec := "composeStable", unfollowed := true, recurses := true, apart := false, narrowed := true }
def ComposeStableUptoSaid : Prop := composeStableUptoRow.holds Try.pinned (OpenSpec.upto composeStableSpec)

end Rows
end Go.Proofs.Ytmfmnlioojkjgaa
