/-
  No cell of these rows narrows 'for every input' (looked for: loops, veiled, ifaces, maps, wideKeys, modest, calm, conditions, laid).
  DERIVED. THE GIVEN ROWS OF THIS SEAT. 4 by the template 'for every input the law returns true; each argument reads behind the call as it read before'; 0 by the template 'total and deterministic' (their statements: YtchbgececcclgaaTotals.lean).
  GIVEN WITH THE SEED: the statements are not yours to turn. If you find one false, say at which input.
  Laid BY PROGRAM, IN A SANDBOX (cutbox-rows.mjs): the forced cells as the released guide's own fill.sh prints them over the translation 7585090e4f8f8218… (all of the seat's roots in one cut). By AI agents, Wed Nov 11 2026. No macro, syntax, notation, axiom, sorry.
-/
import Derived.Test.YtchbgececcclgaaChecked
import GoSem.Claim
import GoSem.ClaimJoined
import GoSem.ClaimMapViews
import Derived.JoinedTies
import Derived.KernelRfl
namespace Go.Proofs.Ytchbgececcclgaa
/- THE CELL 'sum', in the pinned program and in every row, IS THE sha256 OF THE DUMP (.gsa) THAT YtchbgececcclgaaProg.lean LOADS. Nothing in Lean hashes anything: it is a label: what it is worth is what the hold of that sum in a sandbox is worth. -/
noncomputable def Try.pinned : Pinned := { name := "ytchbgececcclgaa", sum := "7585090e4f8f8218ffcc54a79b7e7807bec0e3a6e159d6f67b67d3874bf97439", checked := Try.checked }
namespace Rows
def none {H : Type} : Left H := { results := [], args := [] }

/-- 'brazierlaw11.ShapesOnce': WHATEVER THE INPUT: true; the input reads as it did. -/
def shapesOnceSpec : ChangeSpec := { name := "shapesOnce", fn := fun _ => fun
  | [d1, d2, d3] => { results := [.lit (.bool true)], args := [d1, d2, d3] }
  | _ => none }
def shapesOnceRow : OpenClaim := { program := "ytchbgececcclgaa", sum := "7585090e4f8f8218ffcc54a79b7e7807bec0e3a6e159d6f67b67d3874bf97439", func := "brazier/brazierlaw11.ShapesOnce", spec := "shapesOnce", unfollowed := true, recurses := true, plainKeys := false, apart := false }
def ShapesOnceSaid : Prop := shapesOnceRow.holds Try.pinned (OpenSpec.ofChange shapesOnceSpec)

/-- ITS FALSE NEIGHBOUR: 'it returns false'. Refute it at one input. -/
def shapesOnceWrong : ChangeSpec := { name := "shapesOnce", fn := fun _ => fun
  | [d1, d2, d3] => { results := [.lit (.bool false)], args := [d1, d2, d3] }
  | _ => none }
def ShapesOnceWrongFalsely : Prop := shapesOnceRow.holds Try.pinned (OpenSpec.ofChange shapesOnceWrong)

/-- 'brazierlaw11.ShapesMost': WHATEVER THE INPUT: true; the input reads as it did. -/
def shapesMostSpec : ChangeSpec := { name := "shapesMost", fn := fun _ => fun
  | [d1, d2] => { results := [.lit (.bool true)], args := [d1, d2] }
  | _ => none }
def shapesMostRow : OpenClaim := { program := "ytchbgececcclgaa", sum := "7585090e4f8f8218ffcc54a79b7e7807bec0e3a6e159d6f67b67d3874bf97439", func := "brazier/brazierlaw11.ShapesMost", spec := "shapesMost", unfollowed := true, recurses := true, plainKeys := false, apart := false }
def ShapesMostSaid : Prop := shapesMostRow.holds Try.pinned (OpenSpec.ofChange shapesMostSpec)

/-- ITS FALSE NEIGHBOUR: 'it returns false'. Refute it at one input. -/
def shapesMostWrong : ChangeSpec := { name := "shapesMost", fn := fun _ => fun
  | [d1, d2] => { results := [.lit (.bool false)], args := [d1, d2] }
  | _ => none }
def ShapesMostWrongFalsely : Prop := shapesMostRow.holds Try.pinned (OpenSpec.ofChange shapesMostWrong)

/-- 'brazierlaw11.ShapesKeys': WHATEVER THE INPUT: true; the input reads as it did. -/
def shapesKeysSpec : ChangeSpec := { name := "shapesKeys", fn := fun _ => fun
  | [d1, d2, d3] => { results := [.lit (.bool true)], args := [d1, d2, d3] }
  | _ => none }
def shapesKeysRow : OpenClaim := { program := "ytchbgececcclgaa", sum := "7585090e4f8f8218ffcc54a79b7e7807bec0e3a6e159d6f67b67d3874bf97439", func := "brazier/brazierlaw11.ShapesKeys", spec := "shapesKeys", unfollowed := true, recurses := true, plainKeys := false, apart := false }
def ShapesKeysSaid : Prop := shapesKeysRow.holds Try.pinned (OpenSpec.ofChange shapesKeysSpec)

/-- ITS FALSE NEIGHBOUR: 'it returns false'. Refute it at one input. -/
def shapesKeysWrong : ChangeSpec := { name := "shapesKeys", fn := fun _ => fun
  | [d1, d2, d3] => { results := [.lit (.bool false)], args := [d1, d2, d3] }
  | _ => none }
def ShapesKeysWrongFalsely : Prop := shapesKeysRow.holds Try.pinned (OpenSpec.ofChange shapesKeysWrong)

/-- 'brazierlaw11.ShapesStay': WHATEVER THE INPUT: true; the input reads as it did. -/
def shapesStaySpec : ChangeSpec := { name := "shapesStay", fn := fun _ => fun
  | [d1, d2, d3] => { results := [.lit (.bool true)], args := [d1, d2, d3] }
  | _ => none }
def shapesStayRow : OpenClaim := { program := "ytchbgececcclgaa", sum := "7585090e4f8f8218ffcc54a79b7e7807bec0e3a6e159d6f67b67d3874bf97439", func := "brazier/brazierlaw11.ShapesStay", spec := "shapesStay", unfollowed := true, recurses := true, plainKeys := false, apart := false }
def ShapesStaySaid : Prop := shapesStayRow.holds Try.pinned (OpenSpec.ofChange shapesStaySpec)

/-- ITS FALSE NEIGHBOUR: 'it returns false'. Refute it at one input. -/
def shapesStayWrong : ChangeSpec := { name := "shapesStay", fn := fun _ => fun
  | [d1, d2, d3] => { results := [.lit (.bool false)], args := [d1, d2, d3] }
  | _ => none }
def ShapesStayWrongFalsely : Prop := shapesStayRow.holds Try.pinned (OpenSpec.ofChange shapesStayWrong)

/- THE SECOND FORM. 'bulk': how many values and letters a reading holds, each counted each time it is reached (what is shared counts as often as it is met; a slice's spare places count too). A statement '..UptoSaid' is the law's where the arguments, and the package variables that the reading takes, are together of bulk at most 1048576: NARROWER than '..Said'. Prove '..Said' where nothing that the law and all that it calls make is longer than what came in: it says more and counts as full. Else prove '..UptoSaid'. A law counts once. -/
mutual
def uptoBulk {H : Type} : DataW H → Nat
  | .lit (.string bytes) => bytes.length + 1
  | .lit _ => 1
  | .nil => 1
  | .ptr d => uptoBulk d + 1
  | .slice elems spare => uptoBulkAll elems + uptoBulkAll spare + 1
  | .agg parts => uptoBulkAll parts + 1
  | .iface _ d => uptoBulk d + 1
  | .map entries => uptoBulkEntries entries + 1
  | .held _ => 1
def uptoBulkAll {H : Type} : List (DataW H) → Nat
  | [] => 0
  | d :: r => uptoBulk d + uptoBulkAll r
def uptoBulkEntries {H : Type} : List (Lit × DataW H) → Nat
  | [] => 0
  | x :: r => uptoBulkEntry x + uptoBulkEntries r
def uptoBulkEntry {H : Type} : Lit × DataW H → Nat
  | (.string bytes, d) => bytes.length + uptoBulk d + 1
  | (_, d) => uptoBulk d + 1
 end
def uptoSmall : (H : Type) → List (DataW H) → Bool := fun _ ds => decide (uptoBulkAll ds ≤ 1048576)
def OpenSpec.upto (s : _root_.Go.ChangeSpec) : _root_.Go.OpenSpec := { _root_.Go.OpenSpec.ofChange s with cond := some uptoSmall }

/-- 'brazierlaw11.ShapesOnce', WHERE WHAT IT READS IS OF BULK AT MOST 1048576: true; the input reads as it did. -/
def shapesOnceUptoRow : OpenClaim := { program := "ytchbgececcclgaa", sum := "7585090e4f8f8218ffcc54a79b7e7807bec0e3a6e159d6f67b67d3874bf97439", func := "brazier/brazierlaw11.ShapesOnce", spec := "shapesOnce", unfollowed := true, recurses := true, plainKeys := false, apart := false, narrowed := true }
def ShapesOnceUptoSaid : Prop := shapesOnceUptoRow.holds Try.pinned (OpenSpec.upto shapesOnceSpec)

/-- 'brazierlaw11.ShapesMost', WHERE WHAT IT READS IS OF BULK AT MOST 1048576: true; the input reads as it did. -/
def shapesMostUptoRow : OpenClaim := { program := "ytchbgececcclgaa", sum := "7585090e4f8f8218ffcc54a79b7e7807bec0e3a6e159d6f67b67d3874bf97439", func := "brazier/brazierlaw11.ShapesMost", spec := "shapesMost", unfollowed := true, recurses := true, plainKeys := false, apart := false, narrowed := true }
def ShapesMostUptoSaid : Prop := shapesMostUptoRow.holds Try.pinned (OpenSpec.upto shapesMostSpec)

/-- 'brazierlaw11.ShapesKeys', WHERE WHAT IT READS IS OF BULK AT MOST 1048576: true; the input reads as it did. -/
def shapesKeysUptoRow : OpenClaim := { program := "ytchbgececcclgaa", sum := "7585090e4f8f8218ffcc54a79b7e7807bec0e3a6e159d6f67b67d3874bf97439", func := "brazier/brazierlaw11.ShapesKeys", spec := "shapesKeys", unfollowed := true, recurses := true, plainKeys := false, apart := false, narrowed := true }
def ShapesKeysUptoSaid : Prop := shapesKeysUptoRow.holds Try.pinned (OpenSpec.upto shapesKeysSpec)

/-- 'brazierlaw11.ShapesStay', WHERE WHAT IT READS IS OF BULK AT MOST 1048576: true; the input reads as it did. -/
def shapesStayUptoRow : OpenClaim := { program := "ytchbgececcclgaa", sum := "7585090e4f8f8218ffcc54a79b7e7807bec0e3a6e159d6f67b67d3874bf97439", func := "brazier/brazierlaw11.ShapesStay", spec := "shapesStay", unfollowed := true, recurses := true, plainKeys := false, apart := false, narrowed := true }
def ShapesStayUptoSaid : Prop := shapesStayUptoRow.holds Try.pinned (OpenSpec.upto shapesStaySpec)

end Rows
end Go.Proofs.Ytchbgececcclgaa
