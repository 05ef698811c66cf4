/-
  No cell of these rows narrows 'for every input' (looked for: loops, veiled, ifaces, maps, wideKeys, modest, calm, conditions, laid).
  DERIVED. THE GIVEN ROWS OF THIS SEAT. 7 by the template 'for every input the law returns true; each argument reads behind the call as it read before'; 0 by the template 'total and deterministic' (their statements: YtkiakflmoplmeaaTotals.lean).
  GIVEN WITH THE SEED: the statements are not yours to turn. If you find one false, say at which input.
  Laid BY PROGRAM, IN A SANDBOX (cutbox-rows.mjs): the forced cells as the released guide's own fill.sh prints them over the translation f11605c90bbe8564… (all of the seat's roots in one cut). By AI agents, Wed Nov 11 2026. No macro, syntax, notation, axiom, sorry.
-/
import Derived.Test.YtkiakflmoplmeaaChecked
import GoSem.Claim
import GoSem.ClaimJoined
import GoSem.ClaimMapViews
import Derived.JoinedTies
import Derived.KernelRfl
namespace Go.Proofs.Ytkiakflmoplmeaa
/- THE CELL 'sum', in the pinned program and in every row, IS THE sha256 OF THE DUMP (.gsa) THAT YtkiakflmoplmeaaProg.lean LOADS. Nothing in Lean hashes anything: it is a label: what it is worth is what the hold of that sum in a sandbox is worth. -/
noncomputable def Try.pinned : Pinned := { name := "ytkiakflmoplmeaa", sum := "f11605c90bbe8564a45d28262035e204465155cebed149d5abc446685e9785da", checked := Try.checked }
namespace Rows
def none {H : Type} : Left H := { results := [], args := [] }

/-- 'brazierlaw04.SmallTurned': WHATEVER THE INPUT: true; the input reads as it did. -/
def smallTurnedSpec : ChangeSpec := { name := "smallTurned", fn := fun _ => fun
  | [d1, d2, d3] => { results := [.lit (.bool true)], args := [d1, d2, d3] }
  | _ => none }
def smallTurnedRow : OpenClaim := { program := "ytkiakflmoplmeaa", sum := "f11605c90bbe8564a45d28262035e204465155cebed149d5abc446685e9785da", func := "brazier/brazierlaw04.SmallTurned", spec := "smallTurned", inPlace := ["math/bits.Add64"], named := ["math/bits.divideError", "math/bits.overflowError"], apart := false }
def SmallTurnedSaid : Prop := smallTurnedRow.holds Try.pinned (OpenSpec.ofChange smallTurnedSpec)

/-- ITS FALSE NEIGHBOUR: 'it returns false'. Refute it at one input. -/
def smallTurnedWrong : ChangeSpec := { name := "smallTurned", fn := fun _ => fun
  | [d1, d2, d3] => { results := [.lit (.bool false)], args := [d1, d2, d3] }
  | _ => none }
def SmallTurnedWrongFalsely : Prop := smallTurnedRow.holds Try.pinned (OpenSpec.ofChange smallTurnedWrong)

/-- 'brazierlaw04.SmallOnly': WHATEVER THE INPUT: true; the input reads as it did. -/
def smallOnlySpec : ChangeSpec := { name := "smallOnly", fn := fun _ => fun
  | [d1, d2, d3] => { results := [.lit (.bool true)], args := [d1, d2, d3] }
  | _ => none }
def smallOnlyRow : OpenClaim := { program := "ytkiakflmoplmeaa", sum := "f11605c90bbe8564a45d28262035e204465155cebed149d5abc446685e9785da", func := "brazier/brazierlaw04.SmallOnly", spec := "smallOnly", inPlace := ["math/bits.Add64"], named := ["math/bits.divideError", "math/bits.overflowError"], apart := false }
def SmallOnlySaid : Prop := smallOnlyRow.holds Try.pinned (OpenSpec.ofChange smallOnlySpec)

/-- ITS FALSE NEIGHBOUR: 'it returns false'. Refute it at one input. -/
def smallOnlyWrong : ChangeSpec := { name := "smallOnly", fn := fun _ => fun
  | [d1, d2, d3] => { results := [.lit (.bool false)], args := [d1, d2, d3] }
  | _ => none }
def SmallOnlyWrongFalsely : Prop := smallOnlyRow.holds Try.pinned (OpenSpec.ofChange smallOnlyWrong)

/-- 'brazierlaw04.SmallSame': WHATEVER THE INPUT: true; the input reads as it did. -/
def smallSameSpec : ChangeSpec := { name := "smallSame", fn := fun _ => fun
  | [d1, d2, d3] => { results := [.lit (.bool true)], args := [d1, d2, d3] }
  | _ => none }
def smallSameRow : OpenClaim := { program := "ytkiakflmoplmeaa", sum := "f11605c90bbe8564a45d28262035e204465155cebed149d5abc446685e9785da", func := "brazier/brazierlaw04.SmallSame", spec := "smallSame", inPlace := ["math/bits.Add64", "math.Float64frombits", "math.archFloor", "math.Float64bits", "math.archTrunc"], named := ["math/bits.divideError", "math/bits.overflowError"], apart := false }
def SmallSameSaid : Prop := smallSameRow.holds Try.pinned (OpenSpec.ofChange smallSameSpec)

/-- ITS FALSE NEIGHBOUR: 'it returns false'. Refute it at one input. -/
def smallSameWrong : ChangeSpec := { name := "smallSame", fn := fun _ => fun
  | [d1, d2, d3] => { results := [.lit (.bool false)], args := [d1, d2, d3] }
  | _ => none }
def SmallSameWrongFalsely : Prop := smallSameRow.holds Try.pinned (OpenSpec.ofChange smallSameWrong)

/-- 'brazierlaw04.SmallOrder': WHATEVER THE INPUT: true; the input reads as it did. -/
def smallOrderSpec : ChangeSpec := { name := "smallOrder", fn := fun _ => fun
  | [d1, d2] => { results := [.lit (.bool true)], args := [d1, d2] }
  | _ => none }
def smallOrderRow : OpenClaim := { program := "ytkiakflmoplmeaa", sum := "f11605c90bbe8564a45d28262035e204465155cebed149d5abc446685e9785da", func := "brazier/brazierlaw04.SmallOrder", spec := "smallOrder", inPlace := ["math.Float64frombits", "math.archFloor", "math.Float64bits", "math.archTrunc", "math/bits.Add64"], named := ["math/bits.divideError", "math/bits.overflowError"], apart := false }
def SmallOrderSaid : Prop := smallOrderRow.holds Try.pinned (OpenSpec.ofChange smallOrderSpec)

/-- ITS FALSE NEIGHBOUR: 'it returns false'. Refute it at one input. -/
def smallOrderWrong : ChangeSpec := { name := "smallOrder", fn := fun _ => fun
  | [d1, d2] => { results := [.lit (.bool false)], args := [d1, d2] }
  | _ => none }
def SmallOrderWrongFalsely : Prop := smallOrderRow.holds Try.pinned (OpenSpec.ofChange smallOrderWrong)

/-- 'brazierlaw04.SmallBits': WHATEVER THE INPUT: true; the input reads as it did. -/
def smallBitsSpec : ChangeSpec := { name := "smallBits", fn := fun _ => fun
  | [d1, d2, d3] => { results := [.lit (.bool true)], args := [d1, d2, d3] }
  | _ => none }
def smallBitsRow : OpenClaim := { program := "ytkiakflmoplmeaa", sum := "f11605c90bbe8564a45d28262035e204465155cebed149d5abc446685e9785da", func := "brazier/brazierlaw04.SmallBits", spec := "smallBits", inPlace := ["math/bits.Add64", "math.Float64frombits", "math.archFloor", "math.Float64bits", "math.archTrunc"], named := ["math/bits.divideError", "math/bits.overflowError"], apart := false }
def SmallBitsSaid : Prop := smallBitsRow.holds Try.pinned (OpenSpec.ofChange smallBitsSpec)

/-- ITS FALSE NEIGHBOUR: 'it returns false'. Refute it at one input. -/
def smallBitsWrong : ChangeSpec := { name := "smallBits", fn := fun _ => fun
  | [d1, d2, d3] => { results := [.lit (.bool false)], args := [d1, d2, d3] }
  | _ => none }
def SmallBitsWrongFalsely : Prop := smallBitsRow.holds Try.pinned (OpenSpec.ofChange smallBitsWrong)

/-- 'brazierlaw04.SmallFast': WHATEVER THE INPUT: true; the input reads as it did. -/
def smallFastSpec : ChangeSpec := { name := "smallFast", fn := fun _ => fun
  | [d1, d2, d3] => { results := [.lit (.bool true)], args := [d1, d2, d3] }
  | _ => none }
def smallFastRow : OpenClaim := { program := "ytkiakflmoplmeaa", sum := "f11605c90bbe8564a45d28262035e204465155cebed149d5abc446685e9785da", func := "brazier/brazierlaw04.SmallFast", spec := "smallFast", inPlace := ["math.Float64frombits", "math.archFloor", "math.Float64bits", "math.archTrunc", "math/bits.Add64"], named := ["math/bits.divideError", "math/bits.overflowError"], apart := false }
def SmallFastSaid : Prop := smallFastRow.holds Try.pinned (OpenSpec.ofChange smallFastSpec)

/-- ITS FALSE NEIGHBOUR: 'it returns false'. Refute it at one input. -/
def smallFastWrong : ChangeSpec := { name := "smallFast", fn := fun _ => fun
  | [d1, d2, d3] => { results := [.lit (.bool false)], args := [d1, d2, d3] }
  | _ => none }
def SmallFastWrongFalsely : Prop := smallFastRow.holds Try.pinned (OpenSpec.ofChange smallFastWrong)

/-- 'brazierlaw04.SmallSlow': WHATEVER THE INPUT: true; the input reads as it did. -/
def smallSlowSpec : ChangeSpec := { name := "smallSlow", fn := fun _ => fun
  | [d1, d2, d3] => { results := [.lit (.bool true)], args := [d1, d2, d3] }
  | _ => none }
def smallSlowRow : OpenClaim := { program := "ytkiakflmoplmeaa", sum := "f11605c90bbe8564a45d28262035e204465155cebed149d5abc446685e9785da", func := "brazier/brazierlaw04.SmallSlow", spec := "smallSlow", inPlace := ["math/bits.Add64", "math.Float64frombits", "math.archFloor", "math.Float64bits", "math.archTrunc"], named := ["math/bits.divideError", "math/bits.overflowError"], apart := false }
def SmallSlowSaid : Prop := smallSlowRow.holds Try.pinned (OpenSpec.ofChange smallSlowSpec)

/-- ITS FALSE NEIGHBOUR: 'it returns false'. Refute it at one input. -/
def smallSlowWrong : ChangeSpec := { name := "smallSlow", fn := fun _ => fun
  | [d1, d2, d3] => { results := [.lit (.bool false)], args := [d1, d2, d3] }
  | _ => none }
def SmallSlowWrongFalsely : Prop := smallSlowRow.holds Try.pinned (OpenSpec.ofChange smallSlowWrong)

/- THE SECOND FORM. 'bulk': how many values and letters a reading holds, each counted each time it is reached (what is shared counts as often as it is met; a slice's spare places count too). A statement '..UptoSaid' is the law's where the arguments, and the package variables that the reading takes, are together of bulk at most 1048576: NARROWER than '..Said'. Prove '..Said' where nothing that the law and all that it calls make is longer than what came in: it says more and counts as full. Else prove '..UptoSaid'. A law counts once. -/
mutual
def uptoBulk {H : Type} : DataW H → Nat
  | .lit (.string bytes) => bytes.length + 1
  | .lit _ => 1
  | .nil => 1
  | .ptr d => uptoBulk d + 1
  | .slice elems spare => uptoBulkAll elems + uptoBulkAll spare + 1
  | .agg parts => uptoBulkAll parts + 1
  | .iface _ d => uptoBulk d + 1
  | .map entries => uptoBulkEntries entries + 1
  | .held _ => 1
def uptoBulkAll {H : Type} : List (DataW H) → Nat
  | [] => 0
  | d :: r => uptoBulk d + uptoBulkAll r
def uptoBulkEntries {H : Type} : List (Lit × DataW H) → Nat
  | [] => 0
  | x :: r => uptoBulkEntry x + uptoBulkEntries r
def uptoBulkEntry {H : Type} : Lit × DataW H → Nat
  | (.string bytes, d) => bytes.length + uptoBulk d + 1
  | (_, d) => uptoBulk d + 1
 end
def uptoSmall : (H : Type) → List (DataW H) → Bool := fun _ ds => decide (uptoBulkAll ds ≤ 1048576)
def OpenSpec.upto (s : _root_.Go.ChangeSpec) : _root_.Go.OpenSpec := { _root_.Go.OpenSpec.ofChange s with cond := some uptoSmall }

/-- 'brazierlaw04.SmallTurned', WHERE WHAT IT READS IS OF BULK AT MOST 1048576: true; the input reads as it did. -/
def smallTurnedUptoRow : OpenClaim := { program := "ytkiakflmoplmeaa", sum := "f11605c90bbe8564a45d28262035e204465155cebed149d5abc446685e9785da", func := "brazier/brazierlaw04.SmallTurned", spec := "smallTurned", inPlace := ["math/bits.Add64"], named := ["math/bits.divideError", "math/bits.overflowError"], apart := false, narrowed := true }
def SmallTurnedUptoSaid : Prop := smallTurnedUptoRow.holds Try.pinned (OpenSpec.upto smallTurnedSpec)

/-- 'brazierlaw04.SmallOnly', WHERE WHAT IT READS IS OF BULK AT MOST 1048576: true; the input reads as it did. -/
def smallOnlyUptoRow : OpenClaim := { program := "ytkiakflmoplmeaa", sum := "f11605c90bbe8564a45d28262035e204465155cebed149d5abc446685e9785da", func := "brazier/brazierlaw04.SmallOnly", spec := "smallOnly", inPlace := ["math/bits.Add64"], named := ["math/bits.divideError", "math/bits.overflowError"], apart := false, narrowed := true }
def SmallOnlyUptoSaid : Prop := smallOnlyUptoRow.holds Try.pinned (OpenSpec.upto smallOnlySpec)

/-- 'brazierlaw04.SmallSame', WHERE WHAT IT READS IS OF BULK AT MOST 1048576: true; the input reads as it did. -/
def smallSameUptoRow : OpenClaim := { program := "ytkiakflmoplmeaa", sum := "f11605c90bbe8564a45d28262035e204465155cebed149d5abc446685e9785da", func := "brazier/brazierlaw04.SmallSame", spec := "smallSame", inPlace := ["math/bits.Add64", "math.Float64frombits", "math.archFloor", "math.Float64bits", "math.archTrunc"], named := ["math/bits.divideError", "math/bits.overflowError"], apart := false, narrowed := true }
def SmallSameUptoSaid : Prop := smallSameUptoRow.holds Try.pinned (OpenSpec.upto smallSameSpec)

/-- 'brazierlaw04.SmallOrder', WHERE WHAT IT READS IS OF BULK AT MOST 1048576: true; the input reads as it did. -/
def smallOrderUptoRow : OpenClaim := { program := "ytkiakflmoplmeaa", sum := "f11605c90bbe8564a45d28262035e204465155cebed149d5abc446685e9785da", func := "brazier/brazierlaw04.SmallOrder", spec := "smallOrder", inPlace := ["math.Float64frombits", "math.archFloor", "math.Float64bits", "math.archTrunc", "math/bits.Add64"], named := ["math/bits.divideError", "math/bits.overflowError"], apart := false, narrowed := true }
def SmallOrderUptoSaid : Prop := smallOrderUptoRow.holds Try.pinned (OpenSpec.upto smallOrderSpec)

/-- 'brazierlaw04.SmallBits', WHERE WHAT IT READS IS OF BULK AT MOST 1048576: true; the input reads as it did. -/
def smallBitsUptoRow : OpenClaim := { program := "ytkiakflmoplmeaa", sum := "f11605c90bbe8564a45d28262035e204465155cebed149d5abc446685e9785da", func := "brazier/brazierlaw04.SmallBits", spec := "smallBits", inPlace := ["math/bits.Add64", "math.Float64frombits", "math.archFloor", "math.Float64bits", "math.archTrunc"], named := ["math/bits.divideError", "math/bits.overflowError"], apart := false, narrowed := true }
def SmallBitsUptoSaid : Prop := smallBitsUptoRow.holds Try.pinned (OpenSpec.upto smallBitsSpec)

/-- 'brazierlaw04.SmallFast', WHERE WHAT IT READS IS OF BULK AT MOST 1048576: true; the input reads as it did. -/
def smallFastUptoRow : OpenClaim := { program := "ytkiakflmoplmeaa", sum := "f11605c90bbe8564a45d28262035e204465155cebed149d5abc446685e9785da", func := "brazier/brazierlaw04.SmallFast", spec := "smallFast", inPlace := ["math.Float64frombits", "math.archFloor", "math.Float64bits", "math.archTrunc", "math/bits.Add64"], named := ["math/bits.divideError", "math/bits.overflowError"], apart := false, narrowed := true }
def SmallFastUptoSaid : Prop := smallFastUptoRow.holds Try.pinned (OpenSpec.upto smallFastSpec)

/-- 'brazierlaw04.SmallSlow', WHERE WHAT IT READS IS OF BULK AT MOST 1048576: true; the input reads as it did. -/
def smallSlowUptoRow : OpenClaim := { program := "ytkiakflmoplmeaa", sum := "f11605c90bbe8564a45d28262035e204465155cebed149d5abc446685e9785da", func := "brazier/brazierlaw04.SmallSlow", spec := "smallSlow", inPlace := ["math/bits.Add64", "math.Float64frombits", "math.archFloor", "math.Float64bits", "math.archTrunc"], named := ["math/bits.divideError", "math/bits.overflowError"], apart := false, narrowed := true }
def SmallSlowUptoSaid : Prop := smallSlowUptoRow.holds Try.pinned (OpenSpec.upto smallSlowSpec)

end Rows
end Go.Proofs.Ytkiakflmoplmeaa
