/-
  No cell of these rows narrows 'for every input' (looked for: loops, veiled, ifaces, maps, wideKeys, modest, calm, conditions, laid).
  DERIVED. THE GIVEN ROWS OF THIS SEAT. 7 by the template 'for every input the law returns true; each argument reads behind the call as it read before'; 0 by the template 'total and deterministic' (their statements: YtmemefjhefmfhaaTotals.lean).
  GIVEN WITH THE SEED: the statements are not yours to turn. If you find one false, say at which input.
  Laid BY PROGRAM, IN A SANDBOX (cutbox-rows.mjs): the forced cells as the released guide's own fill.sh prints them over the translation 9d6e8915e36ee131… (all of the seat's roots in one cut). By AI agents, Wed Nov 11 2026. No macro, syntax, notation, axiom, sorry.
-/
import Derived.Test.YtmemefjhefmfhaaChecked
import GoSem.Claim
import GoSem.ClaimJoined
import GoSem.ClaimMapViews
import Derived.JoinedTies
import Derived.KernelRfl
namespace Go.Proofs.Ytmemefjhefmfhaa
/- THE CELL 'sum', in the pinned program and in every row, IS THE sha256 OF THE DUMP (.gsa) THAT YtmemefjhefmfhaaProg.lean LOADS. Nothing in Lean hashes anything: it is a label: what it is worth is what the hold of that sum in a sandbox is worth. -/
noncomputable def Try.pinned : Pinned := { name := "ytmemefjhefmfhaa", sum := "9d6e8915e36ee131d2d3038f68aba8629cae26ca8214709458a48186e7ce444d", checked := Try.checked }
namespace Rows
def none {H : Type} : Left H := { results := [], args := [] }

/-- 'brazierlaw01.SoftOrders': WHATEVER THE INPUT: true; the input reads as it did. -/
def softOrdersSpec : ChangeSpec := { name := "softOrders", fn := fun _ => fun
  | [d1, d2] => { results := [.lit (.bool true)], args := [d1, d2] }
  | _ => none }
def softOrdersRow : OpenClaim := { program := "ytmemefjhefmfhaa", sum := "9d6e8915e36ee131d2d3038f68aba8629cae26ca8214709458a48186e7ce444d", func := "brazier/brazierlaw01.SoftOrders", spec := "softOrders", inPlace := ["math.Float64frombits", "math/bits.Add64", "math.Float64bits"], named := ["math/bits.divideError", "math/bits.overflowError"], apart := false }
def SoftOrdersSaid : Prop := softOrdersRow.holds Try.pinned (OpenSpec.ofChange softOrdersSpec)

/-- ITS FALSE NEIGHBOUR: 'it returns false'. Refute it at one input. -/
def softOrdersWrong : ChangeSpec := { name := "softOrders", fn := fun _ => fun
  | [d1, d2] => { results := [.lit (.bool false)], args := [d1, d2] }
  | _ => none }
def SoftOrdersWrongFalsely : Prop := softOrdersRow.holds Try.pinned (OpenSpec.ofChange softOrdersWrong)

/-- 'brazierlaw01.SoftSums': WHATEVER THE INPUT: true; the input reads as it did. -/
def softSumsSpec : ChangeSpec := { name := "softSums", fn := fun _ => fun
  | [d1, d2] => { results := [.lit (.bool true)], args := [d1, d2] }
  | _ => none }
def softSumsRow : OpenClaim := { program := "ytmemefjhefmfhaa", sum := "9d6e8915e36ee131d2d3038f68aba8629cae26ca8214709458a48186e7ce444d", func := "brazier/brazierlaw01.SoftSums", spec := "softSums", inPlace := ["math.Float64frombits", "math/bits.Add64", "math.Float64bits"], named := ["math/bits.divideError", "math/bits.overflowError"], apart := false }
def SoftSumsSaid : Prop := softSumsRow.holds Try.pinned (OpenSpec.ofChange softSumsSpec)

/-- ITS FALSE NEIGHBOUR: 'it returns false'. Refute it at one input. -/
def softSumsWrong : ChangeSpec := { name := "softSums", fn := fun _ => fun
  | [d1, d2] => { results := [.lit (.bool false)], args := [d1, d2] }
  | _ => none }
def SoftSumsWrongFalsely : Prop := softSumsRow.holds Try.pinned (OpenSpec.ofChange softSumsWrong)

/-- 'brazierlaw01.SoftLaws': WHATEVER THE INPUT: true; the input reads as it did. -/
def softLawsSpec : ChangeSpec := { name := "softLaws", fn := fun _ => fun
  | [d1, d2, d3] => { results := [.lit (.bool true)], args := [d1, d2, d3] }
  | _ => none }
def softLawsRow : OpenClaim := { program := "ytmemefjhefmfhaa", sum := "9d6e8915e36ee131d2d3038f68aba8629cae26ca8214709458a48186e7ce444d", func := "brazier/brazierlaw01.SoftLaws", spec := "softLaws", inPlace := ["math/bits.Add64"], named := ["math/bits.divideError", "math/bits.overflowError"], apart := false }
def SoftLawsSaid : Prop := softLawsRow.holds Try.pinned (OpenSpec.ofChange softLawsSpec)

/-- ITS FALSE NEIGHBOUR: 'it returns false'. Refute it at one input. -/
def softLawsWrong : ChangeSpec := { name := "softLaws", fn := fun _ => fun
  | [d1, d2, d3] => { results := [.lit (.bool false)], args := [d1, d2, d3] }
  | _ => none }
def SoftLawsWrongFalsely : Prop := softLawsRow.holds Try.pinned (OpenSpec.ofChange softLawsWrong)

/-- 'brazierlaw01.SoftNears': WHATEVER THE INPUT: true; the input reads as it did. -/
def softNearsSpec : ChangeSpec := { name := "softNears", fn := fun _ => fun
  | [d1, d2, d3] => { results := [.lit (.bool true)], args := [d1, d2, d3] }
  | _ => none }
def softNearsRow : OpenClaim := { program := "ytmemefjhefmfhaa", sum := "9d6e8915e36ee131d2d3038f68aba8629cae26ca8214709458a48186e7ce444d", func := "brazier/brazierlaw01.SoftNears", spec := "softNears", inPlace := ["math/bits.Add64", "math.Float64bits", "math.Float64frombits"], named := ["math/bits.divideError", "math/bits.overflowError"], apart := false }
def SoftNearsSaid : Prop := softNearsRow.holds Try.pinned (OpenSpec.ofChange softNearsSpec)

/-- ITS FALSE NEIGHBOUR: 'it returns false'. Refute it at one input. -/
def softNearsWrong : ChangeSpec := { name := "softNears", fn := fun _ => fun
  | [d1, d2, d3] => { results := [.lit (.bool false)], args := [d1, d2, d3] }
  | _ => none }
def SoftNearsWrongFalsely : Prop := softNearsRow.holds Try.pinned (OpenSpec.ofChange softNearsWrong)

/-- 'brazierlaw01.SoftBack': WHATEVER THE INPUT: true; the input reads as it did. -/
def softBackSpec : ChangeSpec := { name := "softBack", fn := fun _ => fun
  | [d1, d2, d3] => { results := [.lit (.bool true)], args := [d1, d2, d3] }
  | _ => none }
def softBackRow : OpenClaim := { program := "ytmemefjhefmfhaa", sum := "9d6e8915e36ee131d2d3038f68aba8629cae26ca8214709458a48186e7ce444d", func := "brazier/brazierlaw01.SoftBack", spec := "softBack", inPlace := ["math/bits.Add64"], named := ["math/bits.divideError", "math/bits.overflowError"], apart := false }
def SoftBackSaid : Prop := softBackRow.holds Try.pinned (OpenSpec.ofChange softBackSpec)

/-- ITS FALSE NEIGHBOUR: 'it returns false'. Refute it at one input. -/
def softBackWrong : ChangeSpec := { name := "softBack", fn := fun _ => fun
  | [d1, d2, d3] => { results := [.lit (.bool false)], args := [d1, d2, d3] }
  | _ => none }
def SoftBackWrongFalsely : Prop := softBackRow.holds Try.pinned (OpenSpec.ofChange softBackWrong)

/-- 'brazierlaw01.SoftRems': WHATEVER THE INPUT: true; the input reads as it did. -/
def softRemsSpec : ChangeSpec := { name := "softRems", fn := fun _ => fun
  | [d1, d2] => { results := [.lit (.bool true)], args := [d1, d2] }
  | _ => none }
def softRemsRow : OpenClaim := { program := "ytmemefjhefmfhaa", sum := "9d6e8915e36ee131d2d3038f68aba8629cae26ca8214709458a48186e7ce444d", func := "brazier/brazierlaw01.SoftRems", spec := "softRems", inPlace := ["math/bits.Add64", "math.Float64frombits", "math.Float64bits"], named := ["math/bits.divideError", "math/bits.overflowError"], apart := false }
def SoftRemsSaid : Prop := softRemsRow.holds Try.pinned (OpenSpec.ofChange softRemsSpec)

/-- ITS FALSE NEIGHBOUR: 'it returns false'. Refute it at one input. -/
def softRemsWrong : ChangeSpec := { name := "softRems", fn := fun _ => fun
  | [d1, d2] => { results := [.lit (.bool false)], args := [d1, d2] }
  | _ => none }
def SoftRemsWrongFalsely : Prop := softRemsRow.holds Try.pinned (OpenSpec.ofChange softRemsWrong)

/-- 'brazierlaw01.SoftWholes': WHATEVER THE INPUT: true; the input reads as it did. -/
def softWholesSpec : ChangeSpec := { name := "softWholes", fn := fun _ => fun
  | [d1, d2] => { results := [.lit (.bool true)], args := [d1, d2] }
  | _ => none }
def softWholesRow : OpenClaim := { program := "ytmemefjhefmfhaa", sum := "9d6e8915e36ee131d2d3038f68aba8629cae26ca8214709458a48186e7ce444d", func := "brazier/brazierlaw01.SoftWholes", spec := "softWholes", inPlace := ["math.Float64frombits", "math.archTrunc", "math.Float64bits", "math/bits.Add64", "math.archFloor"], named := ["math/bits.divideError", "math/bits.overflowError"], apart := false }
def SoftWholesSaid : Prop := softWholesRow.holds Try.pinned (OpenSpec.ofChange softWholesSpec)

/-- ITS FALSE NEIGHBOUR: 'it returns false'. Refute it at one input. -/
def softWholesWrong : ChangeSpec := { name := "softWholes", fn := fun _ => fun
  | [d1, d2] => { results := [.lit (.bool false)], args := [d1, d2] }
  | _ => none }
def SoftWholesWrongFalsely : Prop := softWholesRow.holds Try.pinned (OpenSpec.ofChange softWholesWrong)

/- THE SECOND FORM. 'bulk': how many values and letters a reading holds, each counted each time it is reached (what is shared counts as often as it is met; a slice's spare places count too). A statement '..UptoSaid' is the law's where the arguments, and the package variables that the reading takes, are together of bulk at most 1048576: NARROWER than '..Said'. Prove '..Said' where nothing that the law and all that it calls make is longer than what came in: it says more and counts as full. Else prove '..UptoSaid'. A law counts once. -/
mutual
def uptoBulk {H : Type} : DataW H → Nat
  | .lit (.string bytes) => bytes.length + 1
  | .lit _ => 1
  | .nil => 1
  | .ptr d => uptoBulk d + 1
  | .slice elems spare => uptoBulkAll elems + uptoBulkAll spare + 1
  | .agg parts => uptoBulkAll parts + 1
  | .iface _ d => uptoBulk d + 1
  | .map entries => uptoBulkEntries entries + 1
  | .held _ => 1
def uptoBulkAll {H : Type} : List (DataW H) → Nat
  | [] => 0
  | d :: r => uptoBulk d + uptoBulkAll r
def uptoBulkEntries {H : Type} : List (Lit × DataW H) → Nat
  | [] => 0
  | x :: r => uptoBulkEntry x + uptoBulkEntries r
def uptoBulkEntry {H : Type} : Lit × DataW H → Nat
  | (.string bytes, d) => bytes.length + uptoBulk d + 1
  | (_, d) => uptoBulk d + 1
 end
def uptoSmall : (H : Type) → List (DataW H) → Bool := fun _ ds => decide (uptoBulkAll ds ≤ 1048576)
def OpenSpec.upto (s : _root_.Go.ChangeSpec) : _root_.Go.OpenSpec := { _root_.Go.OpenSpec.ofChange s with cond := some uptoSmall }

/-- 'brazierlaw01.SoftOrders', WHERE WHAT IT READS IS OF BULK AT MOST 1048576: true; the input reads as it did. -/
def softOrdersUptoRow : OpenClaim := { program := "ytmemefjhefmfhaa", sum := "9d6e8915e36ee131d2d3038f68aba8629cae26ca8214709458a48186e7ce444d", func := "brazier/brazierlaw01.SoftOrders", spec := "softOrders", inPlace := ["math.Float64frombits", "math/bits.Add64", "math.Float64bits"], named := ["math/bits.divideError", "math/bits.overflowError"], apart := false, narrowed := true }
def SoftOrdersUptoSaid : Prop := softOrdersUptoRow.holds Try.pinned (OpenSpec.upto softOrdersSpec)

/-- 'brazierlaw01.SoftSums', WHERE WHAT IT READS IS OF BULK AT MOST 1048576: true; the input reads as it did. -/
def softSumsUptoRow : OpenClaim := { program := "ytmemefjhefmfhaa", sum := "9d6e8915e36ee131d2d3038f68aba8629cae26ca8214709458a48186e7ce444d", func := "brazier/brazierlaw01.SoftSums", spec := "softSums", inPlace := ["math.Float64frombits", "math/bits.Add64", "math.Float64bits"], named := ["math/bits.divideError", "math/bits.overflowError"], apart := false, narrowed := true }
def SoftSumsUptoSaid : Prop := softSumsUptoRow.holds Try.pinned (OpenSpec.upto softSumsSpec)

/-- 'brazierlaw01.SoftLaws', WHERE WHAT IT READS IS OF BULK AT MOST 1048576: true; the input reads as it did. -/
def softLawsUptoRow : OpenClaim := { program := "ytmemefjhefmfhaa", sum := "9d6e8915e36ee131d2d3038f68aba8629cae26ca8214709458a48186e7ce444d", func := "brazier/brazierlaw01.SoftLaws", spec := "softLaws", inPlace := ["math/bits.Add64"], named := ["math/bits.divideError", "math/bits.overflowError"], apart := false, narrowed := true }
def SoftLawsUptoSaid : Prop := softLawsUptoRow.holds Try.pinned (OpenSpec.upto softLawsSpec)

/-- 'brazierlaw01.SoftNears', WHERE WHAT IT READS IS OF BULK AT MOST 1048576: true; the input reads as it did. -/
def softNearsUptoRow : OpenClaim := { program := "ytmemefjhefmfhaa", sum := "9d6e8915e36ee131d2d3038f68aba8629cae26ca8214709458a48186e7ce444d", func := "brazier/brazierlaw01.SoftNears", spec := "softNears", inPlace := ["math/bits.Add64", "math.Float64bits", "math.Float64frombits"], named := ["math/bits.divideError", "math/bits.overflowError"], apart := false, narrowed := true }
def SoftNearsUptoSaid : Prop := softNearsUptoRow.holds Try.pinned (OpenSpec.upto softNearsSpec)

/-- 'brazierlaw01.SoftBack', WHERE WHAT IT READS IS OF BULK AT MOST 1048576: true; the input reads as it did. -/
def softBackUptoRow : OpenClaim := { program := "ytmemefjhefmfhaa", sum := "9d6e8915e36ee131d2d3038f68aba8629cae26ca8214709458a48186e7ce444d", func := "brazier/brazierlaw01.SoftBack", spec := "softBack", inPlace := ["math/bits.Add64"], named := ["math/bits.divideError", "math/bits.overflowError"], apart := false, narrowed := true }
def SoftBackUptoSaid : Prop := softBackUptoRow.holds Try.pinned (OpenSpec.upto softBackSpec)

/-- 'brazierlaw01.SoftRems', WHERE WHAT IT READS IS OF BULK AT MOST 1048576: true; the input reads as it did. -/
def softRemsUptoRow : OpenClaim := { program := "ytmemefjhefmfhaa", sum := "9d6e8915e36ee131d2d3038f68aba8629cae26ca8214709458a48186e7ce444d", func := "brazier/brazierlaw01.SoftRems", spec := "softRems", inPlace := ["math/bits.Add64", "math.Float64frombits", "math.Float64bits"], named := ["math/bits.divideError", "math/bits.overflowError"], apart := false, narrowed := true }
def SoftRemsUptoSaid : Prop := softRemsUptoRow.holds Try.pinned (OpenSpec.upto softRemsSpec)

/-- 'brazierlaw01.SoftWholes', WHERE WHAT IT READS IS OF BULK AT MOST 1048576: true; the input reads as it did. -/
def softWholesUptoRow : OpenClaim := { program := "ytmemefjhefmfhaa", sum := "9d6e8915e36ee131d2d3038f68aba8629cae26ca8214709458a48186e7ce444d", func := "brazier/brazierlaw01.SoftWholes", spec := "softWholes", inPlace := ["math.Float64frombits", "math.archTrunc", "math.Float64bits", "math/bits.Add64", "math.archFloor"], named := ["math/bits.divideError", "math/bits.overflowError"], apart := false, narrowed := true }
def SoftWholesUptoSaid : Prop := softWholesUptoRow.holds Try.pinned (OpenSpec.upto softWholesSpec)

end Rows
end Go.Proofs.Ytmemefjhefmfhaa
