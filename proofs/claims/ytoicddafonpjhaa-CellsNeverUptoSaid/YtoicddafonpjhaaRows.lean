/-
  No cell of these rows narrows 'for every input' (looked for: loops, veiled, ifaces, maps, wideKeys, modest, calm, conditions, laid).
  DERIVED. THE GIVEN ROWS OF THIS SEAT. 4 by the template 'for every input the law returns true; each argument reads behind the call as it read before'; 0 by the template 'total and deterministic' (their statements: YtoicddafonpjhaaTotals.lean).
  GIVEN WITH THE SEED: the statements are not yours to turn. If you find one false, say at which input.
  Laid BY PROGRAM, IN A SANDBOX (cutbox-rows.mjs): the forced cells as the released guide's own fill.sh prints them over the translation abddd3489025988e… (all of the seat's roots in one cut). By AI agents, Wed Nov 11 2026. No macro, syntax, notation, axiom, sorry.
-/
import Derived.Test.YtoicddafonpjhaaChecked
import GoSem.Claim
import GoSem.ClaimJoined
import GoSem.ClaimMapViews
import Derived.JoinedTies
import Derived.KernelRfl
namespace Go.Proofs.Ytoicddafonpjhaa
/- THE CELL 'sum', in the pinned program and in every row, IS THE sha256 OF THE DUMP (.gsa) THAT YtoicddafonpjhaaProg.lean LOADS. Nothing in Lean hashes anything: it is a label: what it is worth is what the hold of that sum in a sandbox is worth. -/
noncomputable def Try.pinned : Pinned := { name := "ytoicddafonpjhaa", sum := "abddd3489025988e3531737bb457dbc90bd98fcc5c1363f52623c9d60d090aa2", checked := Try.checked }
namespace Rows
def none {H : Type} : Left H := { results := [], args := [] }

/-- 'brazierlaw12.CellsAll': WHATEVER THE INPUT: true; the input reads as it did. -/
def cellsAllSpec : ChangeSpec := { name := "cellsAll", fn := fun _ => fun
  | [d] => { results := [.lit (.bool true)], args := [d] }
  | _ => none }
def cellsAllRow : OpenClaim := { program := "ytoicddafonpjhaa", sum := "abddd3489025988e3531737bb457dbc90bd98fcc5c1363f52623c9d60d090aa2", func := "brazier/brazierlaw12.CellsAll", spec := "cellsAll", apart := false }
def CellsAllSaid : Prop := cellsAllRow.holds Try.pinned (OpenSpec.ofChange cellsAllSpec)

/-- ITS FALSE NEIGHBOUR: 'it returns false'. Refute it at one input. -/
def cellsAllWrong : ChangeSpec := { name := "cellsAll", fn := fun _ => fun
  | [d] => { results := [.lit (.bool false)], args := [d] }
  | _ => none }
def CellsAllWrongFalsely : Prop := cellsAllRow.holds Try.pinned (OpenSpec.ofChange cellsAllWrong)

/-- 'brazierlaw12.CellsNever': WHATEVER THE INPUT: true; the input reads as it did. -/
def cellsNeverSpec : ChangeSpec := { name := "cellsNever", fn := fun _ => fun
  | [d1, d2] => { results := [.lit (.bool true)], args := [d1, d2] }
  | _ => none }
def cellsNeverRow : OpenClaim := { program := "ytoicddafonpjhaa", sum := "abddd3489025988e3531737bb457dbc90bd98fcc5c1363f52623c9d60d090aa2", func := "brazier/brazierlaw12.CellsNever", spec := "cellsNever", apart := false }
def CellsNeverSaid : Prop := cellsNeverRow.holds Try.pinned (OpenSpec.ofChange cellsNeverSpec)

/-- ITS FALSE NEIGHBOUR: 'it returns false'. Refute it at one input. -/
def cellsNeverWrong : ChangeSpec := { name := "cellsNever", fn := fun _ => fun
  | [d1, d2] => { results := [.lit (.bool false)], args := [d1, d2] }
  | _ => none }
def CellsNeverWrongFalsely : Prop := cellsNeverRow.holds Try.pinned (OpenSpec.ofChange cellsNeverWrong)

/-- 'brazierlaw12.CellsChain': WHATEVER THE INPUT: true; the input reads as it did. -/
def cellsChainSpec : ChangeSpec := { name := "cellsChain", fn := fun _ => fun
  | [d1, d2] => { results := [.lit (.bool true)], args := [d1, d2] }
  | _ => none }
def cellsChainRow : OpenClaim := { program := "ytoicddafonpjhaa", sum := "abddd3489025988e3531737bb457dbc90bd98fcc5c1363f52623c9d60d090aa2", func := "brazier/brazierlaw12.CellsChain", spec := "cellsChain", apart := false }
def CellsChainSaid : Prop := cellsChainRow.holds Try.pinned (OpenSpec.ofChange cellsChainSpec)

/-- ITS FALSE NEIGHBOUR: 'it returns false'. Refute it at one input. -/
def cellsChainWrong : ChangeSpec := { name := "cellsChain", fn := fun _ => fun
  | [d1, d2] => { results := [.lit (.bool false)], args := [d1, d2] }
  | _ => none }
def CellsChainWrongFalsely : Prop := cellsChainRow.holds Try.pinned (OpenSpec.ofChange cellsChainWrong)

/-- 'brazierlaw12.CellsApart': WHATEVER THE INPUT: true; the input reads as it did. -/
def cellsApartSpec : ChangeSpec := { name := "cellsApart", fn := fun _ => fun
  | [d1, d2] => { results := [.lit (.bool true)], args := [d1, d2] }
  | _ => none }
def cellsApartRow : OpenClaim := { program := "ytoicddafonpjhaa", sum := "abddd3489025988e3531737bb457dbc90bd98fcc5c1363f52623c9d60d090aa2", func := "brazier/brazierlaw12.CellsApart", spec := "cellsApart", apart := false }
def CellsApartSaid : Prop := cellsApartRow.holds Try.pinned (OpenSpec.ofChange cellsApartSpec)

/-- ITS FALSE NEIGHBOUR: 'it returns false'. Refute it at one input. -/
def cellsApartWrong : ChangeSpec := { name := "cellsApart", fn := fun _ => fun
  | [d1, d2] => { results := [.lit (.bool false)], args := [d1, d2] }
  | _ => none }
def CellsApartWrongFalsely : Prop := cellsApartRow.holds Try.pinned (OpenSpec.ofChange cellsApartWrong)

/- THE SECOND FORM. 'bulk': how many values and letters a reading holds, each counted each time it is reached (what is shared counts as often as it is met; a slice's spare places count too). A statement '..UptoSaid' is the law's where the arguments, and the package variables that the reading takes, are together of bulk at most 1048576: NARROWER than '..Said'. Prove '..Said' where nothing that the law and all that it calls make is longer than what came in: it says more and counts as full. Else prove '..UptoSaid'. A law counts once. -/
mutual
def uptoBulk {H : Type} : DataW H → Nat
  | .lit (.string bytes) => bytes.length + 1
  | .lit _ => 1
  | .nil => 1
  | .ptr d => uptoBulk d + 1
  | .slice elems spare => uptoBulkAll elems + uptoBulkAll spare + 1
  | .agg parts => uptoBulkAll parts + 1
  | .iface _ d => uptoBulk d + 1
  | .map entries => uptoBulkEntries entries + 1
  | .held _ => 1
def uptoBulkAll {H : Type} : List (DataW H) → Nat
  | [] => 0
  | d :: r => uptoBulk d + uptoBulkAll r
def uptoBulkEntries {H : Type} : List (Lit × DataW H) → Nat
  | [] => 0
  | x :: r => uptoBulkEntry x + uptoBulkEntries r
def uptoBulkEntry {H : Type} : Lit × DataW H → Nat
  | (.string bytes, d) => bytes.length + uptoBulk d + 1
  | (_, d) => uptoBulk d + 1
 end
def uptoSmall : (H : Type) → List (DataW H) → Bool := fun _ ds => decide (uptoBulkAll ds ≤ 1048576)
def OpenSpec.upto (s : _root_.Go.ChangeSpec) : _root_.Go.OpenSpec := { _root_.Go.OpenSpec.ofChange s with cond := some uptoSmall }

/-- 'brazierlaw12.CellsAll', WHERE WHAT IT READS IS OF BULK AT MOST 1048576: true; the input reads as it did. -/
def cellsAllUptoRow : OpenClaim := { program := "ytoicddafonpjhaa", sum := "abddd3489025988e3531737bb457dbc90bd98fcc5c1363f52623c9d60d090aa2", func := "brazier/brazierlaw12.CellsAll", spec := "cellsAll", apart := false, narrowed := true }
def CellsAllUptoSaid : Prop := cellsAllUptoRow.holds Try.pinned (OpenSpec.upto cellsAllSpec)

/-- 'brazierlaw12.CellsNever', WHERE WHAT IT READS IS OF BULK AT MOST 1048576: true; the input reads as it did. -/
def cellsNeverUptoRow : OpenClaim := { program := "ytoicddafonpjhaa", sum := "abddd3489025988e3531737bb457dbc90bd98fcc5c1363f52623c9d60d090aa2", func := "brazier/brazierlaw12.CellsNever", spec := "cellsNever", apart := false, narrowed := true }
def CellsNeverUptoSaid : Prop := cellsNeverUptoRow.holds Try.pinned (OpenSpec.upto cellsNeverSpec)

/-- 'brazierlaw12.CellsChain', WHERE WHAT IT READS IS OF BULK AT MOST 1048576: true; the input reads as it did. -/
def cellsChainUptoRow : OpenClaim := { program := "ytoicddafonpjhaa", sum := "abddd3489025988e3531737bb457dbc90bd98fcc5c1363f52623c9d60d090aa2", func := "brazier/brazierlaw12.CellsChain", spec := "cellsChain", apart := false, narrowed := true }
def CellsChainUptoSaid : Prop := cellsChainUptoRow.holds Try.pinned (OpenSpec.upto cellsChainSpec)

/-- 'brazierlaw12.CellsApart', WHERE WHAT IT READS IS OF BULK AT MOST 1048576: true; the input reads as it did. -/
def cellsApartUptoRow : OpenClaim := { program := "ytoicddafonpjhaa", sum := "abddd3489025988e3531737bb457dbc90bd98fcc5c1363f52623c9d60d090aa2", func := "brazier/brazierlaw12.CellsApart", spec := "cellsApart", apart := false, narrowed := true }
def CellsApartUptoSaid : Prop := cellsApartUptoRow.holds Try.pinned (OpenSpec.upto cellsApartSpec)

end Rows
end Go.Proofs.Ytoicddafonpjhaa
