/-
  No cell of these rows narrows 'for every input' (looked for: loops, veiled, ifaces, maps, wideKeys, modest, calm, conditions, laid).
  DERIVED. THE GIVEN ROWS OF THIS SEAT. 6 by the template 'for every input the law returns true; each argument reads behind the call as it read before'; 0 by the template 'total and deterministic' (their statements: YtebclfplejjloaaTotals.lean).
  GIVEN WITH THE SEED: the statements are not yours to turn. If you find one false, say at which input.
  Laid BY PROGRAM, IN A SANDBOX (cutbox-rows.mjs): the forced cells as the released guide's own fill.sh prints them over the translation 43c9d0258648ee10… (all of the seat's roots in one cut). By AI agents, Wed Nov 11 2026. No macro, syntax, notation, axiom, sorry.
-/
import Derived.Test.YtebclfplejjloaaChecked
import GoSem.Claim
import GoSem.ClaimJoined
import GoSem.ClaimMapViews
import Derived.JoinedTies
import Derived.KernelRfl
namespace Go.Proofs.Ytebclfplejjloaa
/- THE CELL 'sum', in the pinned program and in every row, IS THE sha256 OF THE DUMP (.gsa) THAT YtebclfplejjloaaProg.lean LOADS. Nothing in Lean hashes anything: it is a label: what it is worth is what the hold of that sum in a sandbox is worth. -/
noncomputable def Try.pinned : Pinned := { name := "ytebclfplejjloaa", sum := "43c9d0258648ee10e6d9a279537bfc61f3a8ee3e4d4370882746fb4b4aac798f", checked := Try.checked }
namespace Rows
def none {H : Type} : Left H := { results := [], args := [] }

/-- 'brazierlaw03.WordMakes': WHATEVER THE INPUT: true; the input reads as it did. -/
def wordMakesSpec : ChangeSpec := { name := "wordMakes", fn := fun _ => fun
  | [d1, d2, d3] => { results := [.lit (.bool true)], args := [d1, d2, d3] }
  | _ => none }
def wordMakesRow : OpenClaim := { program := "ytebclfplejjloaa", sum := "43c9d0258648ee10e6d9a279537bfc61f3a8ee3e4d4370882746fb4b4aac798f", func := "brazier/brazierlaw03.WordMakes", spec := "wordMakes", apart := false }
def WordMakesSaid : Prop := wordMakesRow.holds Try.pinned (OpenSpec.ofChange wordMakesSpec)

/-- ITS FALSE NEIGHBOUR: 'it returns false'. Refute it at one input. -/
def wordMakesWrong : ChangeSpec := { name := "wordMakes", fn := fun _ => fun
  | [d1, d2, d3] => { results := [.lit (.bool false)], args := [d1, d2, d3] }
  | _ => none }
def WordMakesWrongFalsely : Prop := wordMakesRow.holds Try.pinned (OpenSpec.ofChange wordMakesWrong)

/-- 'brazierlaw03.WordOnce': WHATEVER THE INPUT: true; the input reads as it did. -/
def wordOnceSpec : ChangeSpec := { name := "wordOnce", fn := fun _ => fun
  | [d1, d2] => { results := [.lit (.bool true)], args := [d1, d2] }
  | _ => none }
def wordOnceRow : OpenClaim := { program := "ytebclfplejjloaa", sum := "43c9d0258648ee10e6d9a279537bfc61f3a8ee3e4d4370882746fb4b4aac798f", func := "brazier/brazierlaw03.WordOnce", spec := "wordOnce", apart := false }
def WordOnceSaid : Prop := wordOnceRow.holds Try.pinned (OpenSpec.ofChange wordOnceSpec)

/-- ITS FALSE NEIGHBOUR: 'it returns false'. Refute it at one input. -/
def wordOnceWrong : ChangeSpec := { name := "wordOnce", fn := fun _ => fun
  | [d1, d2] => { results := [.lit (.bool false)], args := [d1, d2] }
  | _ => none }
def WordOnceWrongFalsely : Prop := wordOnceRow.holds Try.pinned (OpenSpec.ofChange wordOnceWrong)

/-- 'brazierlaw03.WordWholes': WHATEVER THE INPUT: true; the input reads as it did. -/
def wordWholesSpec : ChangeSpec := { name := "wordWholes", fn := fun _ => fun
  | [d] => { results := [.lit (.bool true)], args := [d] }
  | _ => none }
def wordWholesRow : OpenClaim := { program := "ytebclfplejjloaa", sum := "43c9d0258648ee10e6d9a279537bfc61f3a8ee3e4d4370882746fb4b4aac798f", func := "brazier/brazierlaw03.WordWholes", spec := "wordWholes", apart := false }
def WordWholesSaid : Prop := wordWholesRow.holds Try.pinned (OpenSpec.ofChange wordWholesSpec)

/-- ITS FALSE NEIGHBOUR: 'it returns false'. Refute it at one input. -/
def wordWholesWrong : ChangeSpec := { name := "wordWholes", fn := fun _ => fun
  | [d] => { results := [.lit (.bool false)], args := [d] }
  | _ => none }
def WordWholesWrongFalsely : Prop := wordWholesRow.holds Try.pinned (OpenSpec.ofChange wordWholesWrong)

/-- 'brazierlaw03.WordApart': WHATEVER THE INPUT: true; the input reads as it did. -/
def wordApartSpec : ChangeSpec := { name := "wordApart", fn := fun _ => fun
  | [d] => { results := [.lit (.bool true)], args := [d] }
  | _ => none }
def wordApartRow : OpenClaim := { program := "ytebclfplejjloaa", sum := "43c9d0258648ee10e6d9a279537bfc61f3a8ee3e4d4370882746fb4b4aac798f", func := "brazier/brazierlaw03.WordApart", spec := "wordApart", apart := false }
def WordApartSaid : Prop := wordApartRow.holds Try.pinned (OpenSpec.ofChange wordApartSpec)

/-- ITS FALSE NEIGHBOUR: 'it returns false'. Refute it at one input. -/
def wordApartWrong : ChangeSpec := { name := "wordApart", fn := fun _ => fun
  | [d] => { results := [.lit (.bool false)], args := [d] }
  | _ => none }
def WordApartWrongFalsely : Prop := wordApartRow.holds Try.pinned (OpenSpec.ofChange wordApartWrong)

/-- 'brazierlaw03.WordNumbers': WHATEVER THE INPUT: true; the input reads as it did. -/
def wordNumbersSpec : ChangeSpec := { name := "wordNumbers", fn := fun _ => fun
  | [d] => { results := [.lit (.bool true)], args := [d] }
  | _ => none }
def wordNumbersRow : OpenClaim := { program := "ytebclfplejjloaa", sum := "43c9d0258648ee10e6d9a279537bfc61f3a8ee3e4d4370882746fb4b4aac798f", func := "brazier/brazierlaw03.WordNumbers", spec := "wordNumbers", inPlace := ["math.Float64frombits", "math.archFloor", "math.Float64bits", "math.archTrunc"], apart := false }
def WordNumbersSaid : Prop := wordNumbersRow.holds Try.pinned (OpenSpec.ofChange wordNumbersSpec)

/-- ITS FALSE NEIGHBOUR: 'it returns false'. Refute it at one input. -/
def wordNumbersWrong : ChangeSpec := { name := "wordNumbers", fn := fun _ => fun
  | [d] => { results := [.lit (.bool false)], args := [d] }
  | _ => none }
def WordNumbersWrongFalsely : Prop := wordNumbersRow.holds Try.pinned (OpenSpec.ofChange wordNumbersWrong)

/-- 'brazierlaw03.WordReads': WHATEVER THE INPUT: true; the input reads as it did. -/
def wordReadsSpec : ChangeSpec := { name := "wordReads", fn := fun _ => fun
  | [d] => { results := [.lit (.bool true)], args := [d] }
  | _ => none }
def wordReadsRow : OpenClaim := { program := "ytebclfplejjloaa", sum := "43c9d0258648ee10e6d9a279537bfc61f3a8ee3e4d4370882746fb4b4aac798f", func := "brazier/brazierlaw03.WordReads", spec := "wordReads", inPlace := ["math.Float64frombits", "math.archFloor", "math.Float64bits", "math.archTrunc"], apart := false }
def WordReadsSaid : Prop := wordReadsRow.holds Try.pinned (OpenSpec.ofChange wordReadsSpec)

/-- ITS FALSE NEIGHBOUR: 'it returns false'. Refute it at one input. -/
def wordReadsWrong : ChangeSpec := { name := "wordReads", fn := fun _ => fun
  | [d] => { results := [.lit (.bool false)], args := [d] }
  | _ => none }
def WordReadsWrongFalsely : Prop := wordReadsRow.holds Try.pinned (OpenSpec.ofChange wordReadsWrong)

/- THE SECOND FORM. 'bulk': how many values and letters a reading holds, each counted each time it is reached (what is shared counts as often as it is met; a slice's spare places count too). A statement '..UptoSaid' is the law's where the arguments, and the package variables that the reading takes, are together of bulk at most 1048576: NARROWER than '..Said'. Prove '..Said' where nothing that the law and all that it calls make is longer than what came in: it says more and counts as full. Else prove '..UptoSaid'. A law counts once. -/
mutual
def uptoBulk {H : Type} : DataW H → Nat
  | .lit (.string bytes) => bytes.length + 1
  | .lit _ => 1
  | .nil => 1
  | .ptr d => uptoBulk d + 1
  | .slice elems spare => uptoBulkAll elems + uptoBulkAll spare + 1
  | .agg parts => uptoBulkAll parts + 1
  | .iface _ d => uptoBulk d + 1
  | .map entries => uptoBulkEntries entries + 1
  | .held _ => 1
def uptoBulkAll {H : Type} : List (DataW H) → Nat
  | [] => 0
  | d :: r => uptoBulk d + uptoBulkAll r
def uptoBulkEntries {H : Type} : List (Lit × DataW H) → Nat
  | [] => 0
  | x :: r => uptoBulkEntry x + uptoBulkEntries r
def uptoBulkEntry {H : Type} : Lit × DataW H → Nat
  | (.string bytes, d) => bytes.length + uptoBulk d + 1
  | (_, d) => uptoBulk d + 1
 end
def uptoSmall : (H : Type) → List (DataW H) → Bool := fun _ ds => decide (uptoBulkAll ds ≤ 1048576)
def OpenSpec.upto (s : _root_.Go.ChangeSpec) : _root_.Go.OpenSpec := { _root_.Go.OpenSpec.ofChange s with cond := some uptoSmall }

/-- 'brazierlaw03.WordMakes', WHERE WHAT IT READS IS OF BULK AT MOST 1048576: true; the input reads as it did. -/
def wordMakesUptoRow : OpenClaim := { program := "ytebclfplejjloaa", sum := "43c9d0258648ee10e6d9a279537bfc61f3a8ee3e4d4370882746fb4b4aac798f", func := "brazier/brazierlaw03.WordMakes", spec := "wordMakes", apart := false, narrowed := true }
def WordMakesUptoSaid : Prop := wordMakesUptoRow.holds Try.pinned (OpenSpec.upto wordMakesSpec)

/-- 'brazierlaw03.WordOnce', WHERE WHAT IT READS IS OF BULK AT MOST 1048576: true; the input reads as it did. -/
def wordOnceUptoRow : OpenClaim := { program := "ytebclfplejjloaa", sum := "43c9d0258648ee10e6d9a279537bfc61f3a8ee3e4d4370882746fb4b4aac798f", func := "brazier/brazierlaw03.WordOnce", spec := "wordOnce", apart := false, narrowed := true }
def WordOnceUptoSaid : Prop := wordOnceUptoRow.holds Try.pinned (OpenSpec.upto wordOnceSpec)

/-- 'brazierlaw03.WordWholes', WHERE WHAT IT READS IS OF BULK AT MOST 1048576: true; the input reads as it did. -/
def wordWholesUptoRow : OpenClaim := { program := "ytebclfplejjloaa", sum := "43c9d0258648ee10e6d9a279537bfc61f3a8ee3e4d4370882746fb4b4aac798f", func := "brazier/brazierlaw03.WordWholes", spec := "wordWholes", apart := false, narrowed := true }
def WordWholesUptoSaid : Prop := wordWholesUptoRow.holds Try.pinned (OpenSpec.upto wordWholesSpec)

/-- 'brazierlaw03.WordApart', WHERE WHAT IT READS IS OF BULK AT MOST 1048576: true; the input reads as it did. -/
def wordApartUptoRow : OpenClaim := { program := "ytebclfplejjloaa", sum := "43c9d0258648ee10e6d9a279537bfc61f3a8ee3e4d4370882746fb4b4aac798f", func := "brazier/brazierlaw03.WordApart", spec := "wordApart", apart := false, narrowed := true }
def WordApartUptoSaid : Prop := wordApartUptoRow.holds Try.pinned (OpenSpec.upto wordApartSpec)

/-- 'brazierlaw03.WordNumbers', WHERE WHAT IT READS IS OF BULK AT MOST 1048576: true; the input reads as it did. -/
def wordNumbersUptoRow : OpenClaim := { program := "ytebclfplejjloaa", sum := "43c9d0258648ee10e6d9a279537bfc61f3a8ee3e4d4370882746fb4b4aac798f", func := "brazier/brazierlaw03.WordNumbers", spec := "wordNumbers", inPlace := ["math.Float64frombits", "math.archFloor", "math.Float64bits", "math.archTrunc"], apart := false, narrowed := true }
def WordNumbersUptoSaid : Prop := wordNumbersUptoRow.holds Try.pinned (OpenSpec.upto wordNumbersSpec)

/-- 'brazierlaw03.WordReads', WHERE WHAT IT READS IS OF BULK AT MOST 1048576: true; the input reads as it did. -/
def wordReadsUptoRow : OpenClaim := { program := "ytebclfplejjloaa", sum := "43c9d0258648ee10e6d9a279537bfc61f3a8ee3e4d4370882746fb4b4aac798f", func := "brazier/brazierlaw03.WordReads", spec := "wordReads", inPlace := ["math.Float64frombits", "math.archFloor", "math.Float64bits", "math.archTrunc"], apart := false, narrowed := true }
def WordReadsUptoSaid : Prop := wordReadsUptoRow.holds Try.pinned (OpenSpec.upto wordReadsSpec)

end Rows
end Go.Proofs.Ytebclfplejjloaa
