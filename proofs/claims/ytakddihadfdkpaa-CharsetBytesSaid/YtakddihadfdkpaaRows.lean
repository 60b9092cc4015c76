/-
  No cell of these rows narrows 'for every input' (looked for: loops, veiled, ifaces, maps, wideKeys, modest, calm, conditions, laid).
  DERIVED. THE GIVEN ROWS OF THIS SEAT. 5 by the template 'for every input the law returns true; each argument reads behind the call as it read before'; 0 by the template 'total and deterministic' (their statements: YtakddihadfdkpaaTotals.lean).
  GIVEN WITH THE SEED: the statements are not yours to turn. If you find one false, say at which input.
  Laid BY PROGRAM, IN A SANDBOX (cutbox-rows.mjs): the forced cells as the released guide's own fill.sh prints them over the translation e37fab3b470d912f… (all of the seat's roots in one cut). By AI agents, Wed Nov 11 2026. No macro, syntax, notation, axiom, sorry.
-/
import Derived.Test.YtakddihadfdkpaaChecked
import GoSem.Claim
import GoSem.ClaimJoined
import GoSem.ClaimMapViews
import Derived.JoinedTies
import Derived.KernelRfl
namespace Go.Proofs.Ytakddihadfdkpaa
/- THE CELL 'sum', in the pinned program and in every row, IS THE sha256 OF THE DUMP (.gsa) THAT YtakddihadfdkpaaProg.lean LOADS. Nothing in Lean hashes anything: it is a label: what it is worth is what the hold of that sum in a sandbox is worth. -/
noncomputable def Try.pinned : Pinned := { name := "ytakddihadfdkpaa", sum := "e37fab3b470d912f7e8e83969111bacd99b020fe151b1775af7edc0aaffc0f71", checked := Try.checked }
namespace Rows
def none {H : Type} : Left H := { results := [], args := [] }

/-- 'toponymlaw02.CharsetNext': WHATEVER THE INPUT: true; the input reads as it did. -/
def charsetNextSpec : ChangeSpec := { name := "charsetNext", fn := fun _ => fun
  | [d1, d2, d3] => { results := [.lit (.bool true)], args := [d1, d2, d3] }
  | _ => none }
def charsetNextRow : OpenClaim := { program := "ytakddihadfdkpaa", sum := "e37fab3b470d912f7e8e83969111bacd99b020fe151b1775af7edc0aaffc0f71", func := "toponym/toponymlaw02.CharsetNext", spec := "charsetNext", apart := false }
def CharsetNextSaid : Prop := charsetNextRow.holds Try.pinned (OpenSpec.ofChange charsetNextSpec)

/-- ITS FALSE NEIGHBOUR: 'it returns false'. Refute it at one input. -/
def charsetNextWrong : ChangeSpec := { name := "charsetNext", fn := fun _ => fun
  | [d1, d2, d3] => { results := [.lit (.bool false)], args := [d1, d2, d3] }
  | _ => none }
def CharsetNextWrongFalsely : Prop := charsetNextRow.holds Try.pinned (OpenSpec.ofChange charsetNextWrong)

/-- 'toponymlaw02.CharsetEncode': WHATEVER THE INPUT: true; the input reads as it did. -/
def charsetEncodeSpec : ChangeSpec := { name := "charsetEncode", fn := fun _ => fun
  | [d1, d2] => { results := [.lit (.bool true)], args := [d1, d2] }
  | _ => none }
def charsetEncodeRow : OpenClaim := { program := "ytakddihadfdkpaa", sum := "e37fab3b470d912f7e8e83969111bacd99b020fe151b1775af7edc0aaffc0f71", func := "toponym/toponymlaw02.CharsetEncode", spec := "charsetEncode", apart := false }
def CharsetEncodeSaid : Prop := charsetEncodeRow.holds Try.pinned (OpenSpec.ofChange charsetEncodeSpec)

/-- ITS FALSE NEIGHBOUR: 'it returns false'. Refute it at one input. -/
def charsetEncodeWrong : ChangeSpec := { name := "charsetEncode", fn := fun _ => fun
  | [d1, d2] => { results := [.lit (.bool false)], args := [d1, d2] }
  | _ => none }
def CharsetEncodeWrongFalsely : Prop := charsetEncodeRow.holds Try.pinned (OpenSpec.ofChange charsetEncodeWrong)

/-- 'toponymlaw02.CharsetBytes': WHATEVER THE INPUT: true; the input reads as it did. -/
def charsetBytesSpec : ChangeSpec := { name := "charsetBytes", fn := fun _ => fun
  | [d1, d2, d3] => { results := [.lit (.bool true)], args := [d1, d2, d3] }
  | _ => none }
def charsetBytesRow : OpenClaim := { program := "ytakddihadfdkpaa", sum := "e37fab3b470d912f7e8e83969111bacd99b020fe151b1775af7edc0aaffc0f71", func := "toponym/toponymlaw02.CharsetBytes", spec := "charsetBytes", apart := false }
def CharsetBytesSaid : Prop := charsetBytesRow.holds Try.pinned (OpenSpec.ofChange charsetBytesSpec)

/-- ITS FALSE NEIGHBOUR: 'it returns false'. Refute it at one input. -/
def charsetBytesWrong : ChangeSpec := { name := "charsetBytes", fn := fun _ => fun
  | [d1, d2, d3] => { results := [.lit (.bool false)], args := [d1, d2, d3] }
  | _ => none }
def CharsetBytesWrongFalsely : Prop := charsetBytesRow.holds Try.pinned (OpenSpec.ofChange charsetBytesWrong)

/-- 'toponymlaw02.CharsetSplits': WHATEVER THE INPUT: true; the input reads as it did. -/
def charsetSplitsSpec : ChangeSpec := { name := "charsetSplits", fn := fun _ => fun
  | [d1, d2, d3] => { results := [.lit (.bool true)], args := [d1, d2, d3] }
  | _ => none }
def charsetSplitsRow : OpenClaim := { program := "ytakddihadfdkpaa", sum := "e37fab3b470d912f7e8e83969111bacd99b020fe151b1775af7edc0aaffc0f71", func := "toponym/toponymlaw02.CharsetSplits", spec := "charsetSplits", apart := false }
def CharsetSplitsSaid : Prop := charsetSplitsRow.holds Try.pinned (OpenSpec.ofChange charsetSplitsSpec)

/-- ITS FALSE NEIGHBOUR: 'it returns false'. Refute it at one input. -/
def charsetSplitsWrong : ChangeSpec := { name := "charsetSplits", fn := fun _ => fun
  | [d1, d2, d3] => { results := [.lit (.bool false)], args := [d1, d2, d3] }
  | _ => none }
def CharsetSplitsWrongFalsely : Prop := charsetSplitsRow.holds Try.pinned (OpenSpec.ofChange charsetSplitsWrong)

/-- 'toponymlaw02.CharsetPieces': WHATEVER THE INPUT: true; the input reads as it did. -/
def charsetPiecesSpec : ChangeSpec := { name := "charsetPieces", fn := fun _ => fun
  | [d1, d2] => { results := [.lit (.bool true)], args := [d1, d2] }
  | _ => none }
def charsetPiecesRow : OpenClaim := { program := "ytakddihadfdkpaa", sum := "e37fab3b470d912f7e8e83969111bacd99b020fe151b1775af7edc0aaffc0f71", func := "toponym/toponymlaw02.CharsetPieces", spec := "charsetPieces", apart := false }
def CharsetPiecesSaid : Prop := charsetPiecesRow.holds Try.pinned (OpenSpec.ofChange charsetPiecesSpec)

/-- ITS FALSE NEIGHBOUR: 'it returns false'. Refute it at one input. -/
def charsetPiecesWrong : ChangeSpec := { name := "charsetPieces", fn := fun _ => fun
  | [d1, d2] => { results := [.lit (.bool false)], args := [d1, d2] }
  | _ => none }
def CharsetPiecesWrongFalsely : Prop := charsetPiecesRow.holds Try.pinned (OpenSpec.ofChange charsetPiecesWrong)

/- THE SECOND FORM. 'bulk': how many values and letters a reading holds, each counted each time it is reached (what is shared counts as often as it is met; a slice's spare places count too). A statement '..UptoSaid' is the law's where the arguments, and the package variables that the reading takes, are together of bulk at most 1048576: NARROWER than '..Said'. Prove '..Said' where nothing that the law and all that it calls make is longer than what came in: it says more and counts as full. Else prove '..UptoSaid'. A law counts once. -/
mutual
def uptoBulk {H : Type} : DataW H → Nat
  | .lit (.string bytes) => bytes.length + 1
  | .lit _ => 1
  | .nil => 1
  | .ptr d => uptoBulk d + 1
  | .slice elems spare => uptoBulkAll elems + uptoBulkAll spare + 1
  | .agg parts => uptoBulkAll parts + 1
  | .iface _ d => uptoBulk d + 1
  | .map entries => uptoBulkEntries entries + 1
  | .held _ => 1
def uptoBulkAll {H : Type} : List (DataW H) → Nat
  | [] => 0
  | d :: r => uptoBulk d + uptoBulkAll r
def uptoBulkEntries {H : Type} : List (Lit × DataW H) → Nat
  | [] => 0
  | x :: r => uptoBulkEntry x + uptoBulkEntries r
def uptoBulkEntry {H : Type} : Lit × DataW H → Nat
  | (.string bytes, d) => bytes.length + uptoBulk d + 1
  | (_, d) => uptoBulk d + 1
 end
def uptoSmall : (H : Type) → List (DataW H) → Bool := fun _ ds => decide (uptoBulkAll ds ≤ 1048576)
def OpenSpec.upto (s : _root_.Go.ChangeSpec) : _root_.Go.OpenSpec := { _root_.Go.OpenSpec.ofChange s with cond := some uptoSmall }

/-- 'toponymlaw02.CharsetNext', WHERE WHAT IT READS IS OF BULK AT MOST 1048576: true; the input reads as it did. -/
def charsetNextUptoRow : OpenClaim := { program := "ytakddihadfdkpaa", sum := "e37fab3b470d912f7e8e83969111bacd99b020fe151b1775af7edc0aaffc0f71", func := "toponym/toponymlaw02.CharsetNext", spec := "charsetNext", apart := false, narrowed := true }
def CharsetNextUptoSaid : Prop := charsetNextUptoRow.holds Try.pinned (OpenSpec.upto charsetNextSpec)

/-- 'toponymlaw02.CharsetEncode', WHERE WHAT IT READS IS OF BULK AT MOST 1048576: true; the input reads as it did. -/
def charsetEncodeUptoRow : OpenClaim := { program := "ytakddihadfdkpaa", sum := "e37fab3b470d912f7e8e83969111bacd99b020fe151b1775af7edc0aaffc0f71", func := "toponym/toponymlaw02.CharsetEncode", spec := "charsetEncode", apart := false, narrowed := true }
def CharsetEncodeUptoSaid : Prop := charsetEncodeUptoRow.holds Try.pinned (OpenSpec.upto charsetEncodeSpec)

/-- 'toponymlaw02.CharsetBytes', WHERE WHAT IT READS IS OF BULK AT MOST 1048576: true; the input reads as it did. -/
def charsetBytesUptoRow : OpenClaim := { program := "ytakddihadfdkpaa", sum := "e37fab3b470d912f7e8e83969111bacd99b020fe151b1775af7edc0aaffc0f71", func := "toponym/toponymlaw02.CharsetBytes", spec := "charsetBytes", apart := false, narrowed := true }
def CharsetBytesUptoSaid : Prop := charsetBytesUptoRow.holds Try.pinned (OpenSpec.upto charsetBytesSpec)

/-- 'toponymlaw02.CharsetSplits', WHERE WHAT IT READS IS OF BULK AT MOST 1048576: true; the input reads as it did. -/
def charsetSplitsUptoRow : OpenClaim := { program := "ytakddihadfdkpaa", sum := "e37fab3b470d912f7e8e83969111bacd99b020fe151b1775af7edc0aaffc0f71", func := "toponym/toponymlaw02.CharsetSplits", spec := "charsetSplits", apart := false, narrowed := true }
def CharsetSplitsUptoSaid : Prop := charsetSplitsUptoRow.holds Try.pinned (OpenSpec.upto charsetSplitsSpec)

/-- 'toponymlaw02.CharsetPieces', WHERE WHAT IT READS IS OF BULK AT MOST 1048576: true; the input reads as it did. -/
def charsetPiecesUptoRow : OpenClaim := { program := "ytakddihadfdkpaa", sum := "e37fab3b470d912f7e8e83969111bacd99b020fe151b1775af7edc0aaffc0f71", func := "toponym/toponymlaw02.CharsetPieces", spec := "charsetPieces", apart := false, narrowed := true }
def CharsetPiecesUptoSaid : Prop := charsetPiecesUptoRow.holds Try.pinned (OpenSpec.upto charsetPiecesSpec)

end Rows
end Go.Proofs.Ytakddihadfdkpaa
