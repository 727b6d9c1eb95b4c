/-
  No cell of these rows narrows 'for every input' (looked for: loops, veiled, ifaces, maps, wideKeys, modest, calm, conditions, laid).
  DERIVED. THE GIVEN ROWS OF THIS SEAT. 7 by the template 'for every input the law returns true; each argument reads behind the call as it read before'; 0 by the template 'total and deterministic' (their statements: YtgfdppkhaanfkaaTotals.lean).
  GIVEN WITH THE SEED: the statements are not yours to turn. If you find one false, say at which input.
  Laid BY PROGRAM, IN A SANDBOX (cutbox-rows.mjs): the forced cells as the released guide's own fill.sh prints them over the translation 6bf9ed5d7592784a… (all of the seat's roots in one cut). By AI agents, Wed Nov 11 2026. No macro, syntax, notation, axiom, sorry.
-/
import Derived.Test.YtgfdppkhaanfkaaChecked
import GoSem.Claim
import GoSem.ClaimJoined
import GoSem.ClaimMapViews
import Derived.JoinedTies
import Derived.KernelRfl
namespace Go.Proofs.Ytgfdppkhaanfkaa
/- THE CELL 'sum', in the pinned program and in every row, IS THE sha256 OF THE DUMP (.gsa) THAT YtgfdppkhaanfkaaProg.lean LOADS. Nothing in Lean hashes anything: it is a label: what it is worth is what the hold of that sum in a sandbox is worth. -/
noncomputable def Try.pinned : Pinned := { name := "ytgfdppkhaanfkaa", sum := "6bf9ed5d7592784a621a941973486e1f6f64f795fa44520d64745ff441fb9b1d", checked := Try.checked }
namespace Rows
def none {H : Type} : Left H := { results := [], args := [] }

/-- 'bailiwicklaw01.NumWrites': WHATEVER THE INPUT: true; the input reads as it did. -/
def numWritesSpec : ChangeSpec := { name := "numWrites", fn := fun _ => fun
  | [d1, d2, d3] => { results := [.lit (.bool true)], args := [d1, d2, d3] }
  | _ => none }
def numWritesRow : OpenClaim := { program := "ytgfdppkhaanfkaa", sum := "6bf9ed5d7592784a621a941973486e1f6f64f795fa44520d64745ff441fb9b1d", func := "bailiwick/bailiwicklaw01.NumWrites", spec := "numWrites", apart := false }
def NumWritesSaid : Prop := numWritesRow.holds Try.pinned (OpenSpec.ofChange numWritesSpec)

/-- ITS FALSE NEIGHBOUR: 'it returns false'. Refute it at one input. -/
def numWritesWrong : ChangeSpec := { name := "numWrites", fn := fun _ => fun
  | [d1, d2, d3] => { results := [.lit (.bool false)], args := [d1, d2, d3] }
  | _ => none }
def NumWritesWrongFalsely : Prop := numWritesRow.holds Try.pinned (OpenSpec.ofChange numWritesWrong)

/-- 'bailiwicklaw01.NumOrder': WHATEVER THE INPUT: true; the input reads as it did. -/
def numOrderSpec : ChangeSpec := { name := "numOrder", fn := fun _ => fun
  | [d1, d2, d3] => { results := [.lit (.bool true)], args := [d1, d2, d3] }
  | _ => none }
def numOrderRow : OpenClaim := { program := "ytgfdppkhaanfkaa", sum := "6bf9ed5d7592784a621a941973486e1f6f64f795fa44520d64745ff441fb9b1d", func := "bailiwick/bailiwicklaw01.NumOrder", spec := "numOrder", apart := false }
def NumOrderSaid : Prop := numOrderRow.holds Try.pinned (OpenSpec.ofChange numOrderSpec)

/-- ITS FALSE NEIGHBOUR: 'it returns false'. Refute it at one input. -/
def numOrderWrong : ChangeSpec := { name := "numOrder", fn := fun _ => fun
  | [d1, d2, d3] => { results := [.lit (.bool false)], args := [d1, d2, d3] }
  | _ => none }
def NumOrderWrongFalsely : Prop := numOrderRow.holds Try.pinned (OpenSpec.ofChange numOrderWrong)

/-- 'bailiwicklaw01.NumSizes': WHATEVER THE INPUT: true; the input reads as it did. -/
def numSizesSpec : ChangeSpec := { name := "numSizes", fn := fun _ => fun
  | [d1, d2] => { results := [.lit (.bool true)], args := [d1, d2] }
  | _ => none }
def numSizesRow : OpenClaim := { program := "ytgfdppkhaanfkaa", sum := "6bf9ed5d7592784a621a941973486e1f6f64f795fa44520d64745ff441fb9b1d", func := "bailiwick/bailiwicklaw01.NumSizes", spec := "numSizes", apart := false }
def NumSizesSaid : Prop := numSizesRow.holds Try.pinned (OpenSpec.ofChange numSizesSpec)

/-- ITS FALSE NEIGHBOUR: 'it returns false'. Refute it at one input. -/
def numSizesWrong : ChangeSpec := { name := "numSizes", fn := fun _ => fun
  | [d1, d2] => { results := [.lit (.bool false)], args := [d1, d2] }
  | _ => none }
def NumSizesWrongFalsely : Prop := numSizesRow.holds Try.pinned (OpenSpec.ofChange numSizesWrong)

/-- 'bailiwicklaw01.NumLists': WHATEVER THE INPUT: true; the input reads as it did. -/
def numListsSpec : ChangeSpec := { name := "numLists", fn := fun _ => fun
  | [d] => { results := [.lit (.bool true)], args := [d] }
  | _ => none }
def numListsRow : OpenClaim := { program := "ytgfdppkhaanfkaa", sum := "6bf9ed5d7592784a621a941973486e1f6f64f795fa44520d64745ff441fb9b1d", func := "bailiwick/bailiwicklaw01.NumLists", spec := "numLists", apart := false }
def NumListsSaid : Prop := numListsRow.holds Try.pinned (OpenSpec.ofChange numListsSpec)

/-- ITS FALSE NEIGHBOUR: 'it returns false'. Refute it at one input. -/
def numListsWrong : ChangeSpec := { name := "numLists", fn := fun _ => fun
  | [d] => { results := [.lit (.bool false)], args := [d] }
  | _ => none }
def NumListsWrongFalsely : Prop := numListsRow.holds Try.pinned (OpenSpec.ofChange numListsWrong)

/-- 'bailiwicklaw01.NumPieces': WHATEVER THE INPUT: true; the input reads as it did. -/
def numPiecesSpec : ChangeSpec := { name := "numPieces", fn := fun _ => fun
  | [d1, d2, d3] => { results := [.lit (.bool true)], args := [d1, d2, d3] }
  | _ => none }
def numPiecesRow : OpenClaim := { program := "ytgfdppkhaanfkaa", sum := "6bf9ed5d7592784a621a941973486e1f6f64f795fa44520d64745ff441fb9b1d", func := "bailiwick/bailiwicklaw01.NumPieces", spec := "numPieces", apart := false }
def NumPiecesSaid : Prop := numPiecesRow.holds Try.pinned (OpenSpec.ofChange numPiecesSpec)

/-- ITS FALSE NEIGHBOUR: 'it returns false'. Refute it at one input. -/
def numPiecesWrong : ChangeSpec := { name := "numPieces", fn := fun _ => fun
  | [d1, d2, d3] => { results := [.lit (.bool false)], args := [d1, d2, d3] }
  | _ => none }
def NumPiecesWrongFalsely : Prop := numPiecesRow.holds Try.pinned (OpenSpec.ofChange numPiecesWrong)

/-- 'bailiwicklaw01.NumReads': WHATEVER THE INPUT: true; the input reads as it did. -/
def numReadsSpec : ChangeSpec := { name := "numReads", fn := fun _ => fun
  | [d1, d2] => { results := [.lit (.bool true)], args := [d1, d2] }
  | _ => none }
def numReadsRow : OpenClaim := { program := "ytgfdppkhaanfkaa", sum := "6bf9ed5d7592784a621a941973486e1f6f64f795fa44520d64745ff441fb9b1d", func := "bailiwick/bailiwicklaw01.NumReads", spec := "numReads", apart := false }
def NumReadsSaid : Prop := numReadsRow.holds Try.pinned (OpenSpec.ofChange numReadsSpec)

/-- ITS FALSE NEIGHBOUR: 'it returns false'. Refute it at one input. -/
def numReadsWrong : ChangeSpec := { name := "numReads", fn := fun _ => fun
  | [d1, d2] => { results := [.lit (.bool false)], args := [d1, d2] }
  | _ => none }
def NumReadsWrongFalsely : Prop := numReadsRow.holds Try.pinned (OpenSpec.ofChange numReadsWrong)

/-- 'bailiwicklaw01.NumBack': WHATEVER THE INPUT: true; the input reads as it did. -/
def numBackSpec : ChangeSpec := { name := "numBack", fn := fun _ => fun
  | [d1, d2, d3, d4] => { results := [.lit (.bool true)], args := [d1, d2, d3, d4] }
  | _ => none }
def numBackRow : OpenClaim := { program := "ytgfdppkhaanfkaa", sum := "6bf9ed5d7592784a621a941973486e1f6f64f795fa44520d64745ff441fb9b1d", func := "bailiwick/bailiwicklaw01.NumBack", spec := "numBack", apart := false }
def NumBackSaid : Prop := numBackRow.holds Try.pinned (OpenSpec.ofChange numBackSpec)

/-- ITS FALSE NEIGHBOUR: 'it returns false'. Refute it at one input. -/
def numBackWrong : ChangeSpec := { name := "numBack", fn := fun _ => fun
  | [d1, d2, d3, d4] => { results := [.lit (.bool false)], args := [d1, d2, d3, d4] }
  | _ => none }
def NumBackWrongFalsely : Prop := numBackRow.holds Try.pinned (OpenSpec.ofChange numBackWrong)

/- THE SECOND FORM. 'bulk': how many values and letters a reading holds, each counted each time it is reached (what is shared counts as often as it is met; a slice's spare places count too). A statement '..UptoSaid' is the law's where the arguments, and the package variables that the reading takes, are together of bulk at most 1048576: NARROWER than '..Said'. Prove '..Said' where nothing that the law and all that it calls make is longer than what came in: it says more and counts as full. Else prove '..UptoSaid'. A law counts once. -/
mutual
def uptoBulk {H : Type} : DataW H → Nat
  | .lit (.string bytes) => bytes.length + 1
  | .lit _ => 1
  | .nil => 1
  | .ptr d => uptoBulk d + 1
  | .slice elems spare => uptoBulkAll elems + uptoBulkAll spare + 1
  | .agg parts => uptoBulkAll parts + 1
  | .iface _ d => uptoBulk d + 1
  | .map entries => uptoBulkEntries entries + 1
  | .held _ => 1
def uptoBulkAll {H : Type} : List (DataW H) → Nat
  | [] => 0
  | d :: r => uptoBulk d + uptoBulkAll r
def uptoBulkEntries {H : Type} : List (Lit × DataW H) → Nat
  | [] => 0
  | x :: r => uptoBulkEntry x + uptoBulkEntries r
def uptoBulkEntry {H : Type} : Lit × DataW H → Nat
  | (.string bytes, d) => bytes.length + uptoBulk d + 1
  | (_, d) => uptoBulk d + 1
 end
def uptoSmall : (H : Type) → List (DataW H) → Bool := fun _ ds => decide (uptoBulkAll ds ≤ 1048576)
def OpenSpec.upto (s : _root_.Go.ChangeSpec) : _root_.Go.OpenSpec := { _root_.Go.OpenSpec.ofChange s with cond := some uptoSmall }

/-- 'bailiwicklaw01.NumWrites', WHERE WHAT IT READS IS OF BULK AT MOST 1048576: true; the input reads as it did. -/
def numWritesUptoRow : OpenClaim := { program := "ytgfdppkhaanfkaa", sum := "6bf9ed5d7592784a621a941973486e1f6f64f795fa44520d64745ff441fb9b1d", func := "bailiwick/bailiwicklaw01.NumWrites", spec := "numWrites", apart := false, narrowed := true }
def NumWritesUptoSaid : Prop := numWritesUptoRow.holds Try.pinned (OpenSpec.upto numWritesSpec)

/-- 'bailiwicklaw01.NumOrder', WHERE WHAT IT READS IS OF BULK AT MOST 1048576: true; the input reads as it did. -/
def numOrderUptoRow : OpenClaim := { program := "ytgfdppkhaanfkaa", sum := "6bf9ed5d7592784a621a941973486e1f6f64f795fa44520d64745ff441fb9b1d", func := "bailiwick/bailiwicklaw01.NumOrder", spec := "numOrder", apart := false, narrowed := true }
def NumOrderUptoSaid : Prop := numOrderUptoRow.holds Try.pinned (OpenSpec.upto numOrderSpec)

/-- 'bailiwicklaw01.NumSizes', WHERE WHAT IT READS IS OF BULK AT MOST 1048576: true; the input reads as it did. -/
def numSizesUptoRow : OpenClaim := { program := "ytgfdppkhaanfkaa", sum := "6bf9ed5d7592784a621a941973486e1f6f64f795fa44520d64745ff441fb9b1d", func := "bailiwick/bailiwicklaw01.NumSizes", spec := "numSizes", apart := false, narrowed := true }
def NumSizesUptoSaid : Prop := numSizesUptoRow.holds Try.pinned (OpenSpec.upto numSizesSpec)

/-- 'bailiwicklaw01.NumLists', WHERE WHAT IT READS IS OF BULK AT MOST 1048576: true; the input reads as it did. -/
def numListsUptoRow : OpenClaim := { program := "ytgfdppkhaanfkaa", sum := "6bf9ed5d7592784a621a941973486e1f6f64f795fa44520d64745ff441fb9b1d", func := "bailiwick/bailiwicklaw01.NumLists", spec := "numLists", apart := false, narrowed := true }
def NumListsUptoSaid : Prop := numListsUptoRow.holds Try.pinned (OpenSpec.upto numListsSpec)

/-- 'bailiwicklaw01.NumPieces', WHERE WHAT IT READS IS OF BULK AT MOST 1048576: true; the input reads as it did. -/
def numPiecesUptoRow : OpenClaim := { program := "ytgfdppkhaanfkaa", sum := "6bf9ed5d7592784a621a941973486e1f6f64f795fa44520d64745ff441fb9b1d", func := "bailiwick/bailiwicklaw01.NumPieces", spec := "numPieces", apart := false, narrowed := true }
def NumPiecesUptoSaid : Prop := numPiecesUptoRow.holds Try.pinned (OpenSpec.upto numPiecesSpec)

/-- 'bailiwicklaw01.NumReads', WHERE WHAT IT READS IS OF BULK AT MOST 1048576: true; the input reads as it did. -/
def numReadsUptoRow : OpenClaim := { program := "ytgfdppkhaanfkaa", sum := "6bf9ed5d7592784a621a941973486e1f6f64f795fa44520d64745ff441fb9b1d", func := "bailiwick/bailiwicklaw01.NumReads", spec := "numReads", apart := false, narrowed := true }
def NumReadsUptoSaid : Prop := numReadsUptoRow.holds Try.pinned (OpenSpec.upto numReadsSpec)

/-- 'bailiwicklaw01.NumBack', WHERE WHAT IT READS IS OF BULK AT MOST 1048576: true; the input reads as it did. -/
def numBackUptoRow : OpenClaim := { program := "ytgfdppkhaanfkaa", sum := "6bf9ed5d7592784a621a941973486e1f6f64f795fa44520d64745ff441fb9b1d", func := "bailiwick/bailiwicklaw01.NumBack", spec := "numBack", apart := false, narrowed := true }
def NumBackUptoSaid : Prop := numBackUptoRow.holds Try.pinned (OpenSpec.upto numBackSpec)

end Rows
end Go.Proofs.Ytgfdppkhaanfkaa
