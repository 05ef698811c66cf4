/-
  NARROWER THAN 'FOR EVERY INPUT', by the rows' own cells (each row's printed sentence says how): CodeChecks: laid · CodeShapes: laid · CodeWithin: laid · CodeMore: laid · CodeNexts: laid · CodeCut: laid.
  DERIVED. THE GIVEN ROWS OF THIS SEAT. 6 by the template 'for every input the law returns true; each argument reads behind the call as it read before'; 0 by the template 'total and deterministic' (their statements: YteagkdmefmpokaaDoorTotals.lean).
  GIVEN WITH THE SEED: the statements are not yours to turn. If you find one false, say at which input.
  Laid BY PROGRAM, IN A SANDBOX (cutbox-rows.mjs): the forced cells as the released guide's own fill.sh prints them over the translation c1c6349a8ac1597a… (all of the seat's roots in one cut). By AI agents, Wed Nov 11 2026. No macro, syntax, notation, axiom, sorry.
-/
import Derived.Test.YteagkdmefmpokaaDoorChecked
import GoSem.Claim
import GoSem.ClaimJoined
import GoSem.ClaimMapViews
import Derived.JoinedTies
import Derived.KernelRfl
namespace Go.Proofs.YteagkdmefmpokaaDoor
/- THE CELL 'sum', in the pinned program and in every row, IS THE sha256 OF THE DUMP (.gsa) THAT YteagkdmefmpokaaDoorProg.lean LOADS. Nothing in Lean hashes anything: it is a label: what it is worth is what the hold of that sum in a sandbox is worth. -/
noncomputable def Tryd.pinned : Pinned := { name := "yteagkdmefmpokaadoor", sum := "c1c6349a8ac1597aea530c2ae7a5ee1b83d4984d448dc35068b69dcefe1c44c9", checked := Tryd.checked }
namespace Rows
def none {H : Type} : Left H := { results := [], args := [] }

/- WHAT THE LISTED PACKAGE-LEVEL VARIABLES READ AS WHEN THE CALL BEGINS. Each datum BY PROGRAM (the guide's laid-datum.mjs) off the statement by which the dump's own 'gosem.cut.vars' lays the variable. In a bare row this is a premise. The card (YteagkdmefmpokaaDoorCards.lean) ties it to the program's text. -/
def laid_brazier_code_shapes {H : Type} : DataW H := .agg [.lit (.string [45, 45, 45]), .lit (.string [119, 107, 45]), .lit (.string [119, 115, 45]), .lit (.string [119, 114, 45]), .lit (.string [119, 45, 45]), .lit (.string [119, 45, 45]), .lit (.string [119, 98, 45]), .lit (.string [119, 45, 45]), .lit (.string [119, 114, 45]), .lit (.string [114, 114, 45]), .lit (.string [119, 99, 45]), .lit (.string [114, 120, 45]), .lit (.string [119, 102, 45]), .lit (.string [119, 114, 104]), .lit (.string [119, 114, 114]), .lit (.string [119, 114, 45]), .lit (.string [119, 114, 45]), .lit (.string [119, 114, 45]), .lit (.string [119, 114, 45]), .lit (.string [119, 114, 45]), .lit (.string [119, 114, 45]), .lit (.string [119, 114, 114]), .lit (.string [119, 114, 114]), .lit (.string [119, 114, 114]), .lit (.string [119, 114, 114]), .lit (.string [119, 114, 114]), .lit (.string [119, 114, 114]), .lit (.string [119, 114, 114]), .lit (.string [119, 114, 114]), .lit (.string [119, 114, 114]), .lit (.string [119, 114, 114]), .lit (.string [119, 114, 114]), .lit (.string [119, 114, 114]), .lit (.string [119, 114, 114]), .lit (.string [119, 114, 114]), .lit (.string [119, 114, 114]), .lit (.string [119, 114, 114]), .lit (.string [119, 114, 114]), .lit (.string [119, 114, 114]), .lit (.string [119, 114, 114]), .lit (.string [119, 114, 114]), .lit (.string [114, 114, 114]), .lit (.string [119, 114, 120]), .lit (.string [114, 120, 114]), .lit (.string [119, 114, 114]), .lit (.string [119, 114, 114]), .lit (.string [119, 114, 114]), .lit (.string [119, 45, 45]), .lit (.string [119, 45, 45]), .lit (.string [114, 114, 45]), .lit (.string [114, 114, 114]), .lit (.string [114, 114, 114]), .lit (.string [114, 114, 114]), .lit (.string [119, 114, 110]), .lit (.string [119, 114, 110]), .lit (.string [114, 45, 45]), .lit (.string [114, 45, 45]), .lit (.string [116, 45, 45]), .lit (.string [114, 116, 45]), .lit (.string [114, 116, 45]), .lit (.string [119, 119, 45]), .lit (.string [119, 45, 45]), .lit (.string [114, 45, 45])]

/-- 'brazierlaw08.CodeChecks': WHATEVER THE INPUT: true; the input reads as it did. -/
def codeChecksSpec : ChangeSpec := { name := "codeChecks", fn := fun _ => fun
  | [d] => { results := [.lit (.bool true)], args := [d] }
  | _ => none }
def codeChecksRow : OpenClaim := { program := "yteagkdmefmpokaadoor", sum := "c1c6349a8ac1597aea530c2ae7a5ee1b83d4984d448dc35068b69dcefe1c44c9", func := "brazier/brazierlaw08.CodeChecks", spec := "codeChecks", unfollowed := true, recurses := true, named := ["brazier/code.shapes"], apart := false, laid := [("brazier/code.shapes", laid_brazier_code_shapes)] }
def CodeChecksSaid : Prop := codeChecksRow.holds Tryd.pinned (OpenSpec.ofChange codeChecksSpec)

/-- ITS FALSE NEIGHBOUR: 'it returns false'. Refute it at one input. -/
def codeChecksWrong : ChangeSpec := { name := "codeChecks", fn := fun _ => fun
  | [d] => { results := [.lit (.bool false)], args := [d] }
  | _ => none }
def CodeChecksWrongFalsely : Prop := codeChecksRow.holds Tryd.pinned (OpenSpec.ofChange codeChecksWrong)

/-- 'brazierlaw08.CodeShapes': WHATEVER THE INPUT: true; the input reads as it did. -/
def codeShapesSpec : ChangeSpec := { name := "codeShapes", fn := fun _ => fun
  | [d] => { results := [.lit (.bool true)], args := [d] }
  | _ => none }
def codeShapesRow : OpenClaim := { program := "yteagkdmefmpokaadoor", sum := "c1c6349a8ac1597aea530c2ae7a5ee1b83d4984d448dc35068b69dcefe1c44c9", func := "brazier/brazierlaw08.CodeShapes", spec := "codeShapes", unfollowed := true, recurses := true, named := ["brazier/code.shapes"], apart := false, laid := [("brazier/code.shapes", laid_brazier_code_shapes)] }
def CodeShapesSaid : Prop := codeShapesRow.holds Tryd.pinned (OpenSpec.ofChange codeShapesSpec)

/-- ITS FALSE NEIGHBOUR: 'it returns false'. Refute it at one input. -/
def codeShapesWrong : ChangeSpec := { name := "codeShapes", fn := fun _ => fun
  | [d] => { results := [.lit (.bool false)], args := [d] }
  | _ => none }
def CodeShapesWrongFalsely : Prop := codeShapesRow.holds Tryd.pinned (OpenSpec.ofChange codeShapesWrong)

/-- 'brazierlaw08.CodeWithin': WHATEVER THE INPUT: true; the input reads as it did. -/
def codeWithinSpec : ChangeSpec := { name := "codeWithin", fn := fun _ => fun
  | [d] => { results := [.lit (.bool true)], args := [d] }
  | _ => none }
def codeWithinRow : OpenClaim := { program := "yteagkdmefmpokaadoor", sum := "c1c6349a8ac1597aea530c2ae7a5ee1b83d4984d448dc35068b69dcefe1c44c9", func := "brazier/brazierlaw08.CodeWithin", spec := "codeWithin", unfollowed := true, recurses := true, named := ["brazier/code.shapes"], apart := false, laid := [("brazier/code.shapes", laid_brazier_code_shapes)] }
def CodeWithinSaid : Prop := codeWithinRow.holds Tryd.pinned (OpenSpec.ofChange codeWithinSpec)

/-- ITS FALSE NEIGHBOUR: 'it returns false'. Refute it at one input. -/
def codeWithinWrong : ChangeSpec := { name := "codeWithin", fn := fun _ => fun
  | [d] => { results := [.lit (.bool false)], args := [d] }
  | _ => none }
def CodeWithinWrongFalsely : Prop := codeWithinRow.holds Tryd.pinned (OpenSpec.ofChange codeWithinWrong)

/-- 'brazierlaw08.CodeMore': WHATEVER THE INPUT: true; the input reads as it did. -/
def codeMoreSpec : ChangeSpec := { name := "codeMore", fn := fun _ => fun
  | [d1, d2] => { results := [.lit (.bool true)], args := [d1, d2] }
  | _ => none }
def codeMoreRow : OpenClaim := { program := "yteagkdmefmpokaadoor", sum := "c1c6349a8ac1597aea530c2ae7a5ee1b83d4984d448dc35068b69dcefe1c44c9", func := "brazier/brazierlaw08.CodeMore", spec := "codeMore", unfollowed := true, recurses := true, named := ["brazier/code.shapes"], apart := false, laid := [("brazier/code.shapes", laid_brazier_code_shapes)] }
def CodeMoreSaid : Prop := codeMoreRow.holds Tryd.pinned (OpenSpec.ofChange codeMoreSpec)

/-- ITS FALSE NEIGHBOUR: 'it returns false'. Refute it at one input. -/
def codeMoreWrong : ChangeSpec := { name := "codeMore", fn := fun _ => fun
  | [d1, d2] => { results := [.lit (.bool false)], args := [d1, d2] }
  | _ => none }
def CodeMoreWrongFalsely : Prop := codeMoreRow.holds Tryd.pinned (OpenSpec.ofChange codeMoreWrong)

/-- 'brazierlaw08.CodeNexts': WHATEVER THE INPUT: true; the input reads as it did. -/
def codeNextsSpec : ChangeSpec := { name := "codeNexts", fn := fun _ => fun
  | [d1, d2] => { results := [.lit (.bool true)], args := [d1, d2] }
  | _ => none }
def codeNextsRow : OpenClaim := { program := "yteagkdmefmpokaadoor", sum := "c1c6349a8ac1597aea530c2ae7a5ee1b83d4984d448dc35068b69dcefe1c44c9", func := "brazier/brazierlaw08.CodeNexts", spec := "codeNexts", unfollowed := true, recurses := true, named := ["brazier/code.shapes"], apart := false, laid := [("brazier/code.shapes", laid_brazier_code_shapes)] }
def CodeNextsSaid : Prop := codeNextsRow.holds Tryd.pinned (OpenSpec.ofChange codeNextsSpec)

/-- ITS FALSE NEIGHBOUR: 'it returns false'. Refute it at one input. -/
def codeNextsWrong : ChangeSpec := { name := "codeNexts", fn := fun _ => fun
  | [d1, d2] => { results := [.lit (.bool false)], args := [d1, d2] }
  | _ => none }
def CodeNextsWrongFalsely : Prop := codeNextsRow.holds Tryd.pinned (OpenSpec.ofChange codeNextsWrong)

/-- 'brazierlaw08.CodeCut': WHATEVER THE INPUT: true; the input reads as it did. -/
def codeCutSpec : ChangeSpec := { name := "codeCut", fn := fun _ => fun
  | [d1, d2] => { results := [.lit (.bool true)], args := [d1, d2] }
  | _ => none }
def codeCutRow : OpenClaim := { program := "yteagkdmefmpokaadoor", sum := "c1c6349a8ac1597aea530c2ae7a5ee1b83d4984d448dc35068b69dcefe1c44c9", func := "brazier/brazierlaw08.CodeCut", spec := "codeCut", unfollowed := true, recurses := true, named := ["brazier/code.shapes"], apart := false, laid := [("brazier/code.shapes", laid_brazier_code_shapes)] }
def CodeCutSaid : Prop := codeCutRow.holds Tryd.pinned (OpenSpec.ofChange codeCutSpec)

/-- ITS FALSE NEIGHBOUR: 'it returns false'. Refute it at one input. -/
def codeCutWrong : ChangeSpec := { name := "codeCut", fn := fun _ => fun
  | [d1, d2] => { results := [.lit (.bool false)], args := [d1, d2] }
  | _ => none }
def CodeCutWrongFalsely : Prop := codeCutRow.holds Tryd.pinned (OpenSpec.ofChange codeCutWrong)

/- THE SECOND FORM. 'bulk': how many values and letters a reading holds, each counted each time it is reached (what is shared counts as often as it is met; a slice's spare places count too). A statement '..UptoSaid' is the law's where the arguments, and the package variables that the reading takes, are together of bulk at most 1048576: NARROWER than '..Said'. Prove '..Said' where nothing that the law and all that it calls make is longer than what came in: it says more and counts as full. Else prove '..UptoSaid'. A law counts once. -/
mutual
def uptoBulk {H : Type} : DataW H → Nat
  | .lit (.string bytes) => bytes.length + 1
  | .lit _ => 1
  | .nil => 1
  | .ptr d => uptoBulk d + 1
  | .slice elems spare => uptoBulkAll elems + uptoBulkAll spare + 1
  | .agg parts => uptoBulkAll parts + 1
  | .iface _ d => uptoBulk d + 1
  | .map entries => uptoBulkEntries entries + 1
  | .held _ => 1
def uptoBulkAll {H : Type} : List (DataW H) → Nat
  | [] => 0
  | d :: r => uptoBulk d + uptoBulkAll r
def uptoBulkEntries {H : Type} : List (Lit × DataW H) → Nat
  | [] => 0
  | x :: r => uptoBulkEntry x + uptoBulkEntries r
def uptoBulkEntry {H : Type} : Lit × DataW H → Nat
  | (.string bytes, d) => bytes.length + uptoBulk d + 1
  | (_, d) => uptoBulk d + 1
 end
def uptoSmall : (H : Type) → List (DataW H) → Bool := fun _ ds => decide (uptoBulkAll ds ≤ 1048576)
def OpenSpec.upto (s : _root_.Go.ChangeSpec) : _root_.Go.OpenSpec := { _root_.Go.OpenSpec.ofChange s with cond := some uptoSmall }

/-- 'brazierlaw08.CodeChecks', WHERE WHAT IT READS IS OF BULK AT MOST 1048576: true; the input reads as it did. -/
def codeChecksUptoRow : OpenClaim := { program := "yteagkdmefmpokaadoor", sum := "c1c6349a8ac1597aea530c2ae7a5ee1b83d4984d448dc35068b69dcefe1c44c9", func := "brazier/brazierlaw08.CodeChecks", spec := "codeChecks", unfollowed := true, recurses := true, named := ["brazier/code.shapes"], apart := false, laid := [("brazier/code.shapes", laid_brazier_code_shapes)], narrowed := true }
def CodeChecksUptoSaid : Prop := codeChecksUptoRow.holds Tryd.pinned (OpenSpec.upto codeChecksSpec)

/-- 'brazierlaw08.CodeShapes', WHERE WHAT IT READS IS OF BULK AT MOST 1048576: true; the input reads as it did. -/
def codeShapesUptoRow : OpenClaim := { program := "yteagkdmefmpokaadoor", sum := "c1c6349a8ac1597aea530c2ae7a5ee1b83d4984d448dc35068b69dcefe1c44c9", func := "brazier/brazierlaw08.CodeShapes", spec := "codeShapes", unfollowed := true, recurses := true, named := ["brazier/code.shapes"], apart := false, laid := [("brazier/code.shapes", laid_brazier_code_shapes)], narrowed := true }
def CodeShapesUptoSaid : Prop := codeShapesUptoRow.holds Tryd.pinned (OpenSpec.upto codeShapesSpec)

/-- 'brazierlaw08.CodeWithin', WHERE WHAT IT READS IS OF BULK AT MOST 1048576: true; the input reads as it did. -/
def codeWithinUptoRow : OpenClaim := { program := "yteagkdmefmpokaadoor", sum := "c1c6349a8ac1597aea530c2ae7a5ee1b83d4984d448dc35068b69dcefe1c44c9", func := "brazier/brazierlaw08.CodeWithin", spec := "codeWithin", unfollowed := true, recurses := true, named := ["brazier/code.shapes"], apart := false, laid := [("brazier/code.shapes", laid_brazier_code_shapes)], narrowed := true }
def CodeWithinUptoSaid : Prop := codeWithinUptoRow.holds Tryd.pinned (OpenSpec.upto codeWithinSpec)

/-- 'brazierlaw08.CodeMore', WHERE WHAT IT READS IS OF BULK AT MOST 1048576: true; the input reads as it did. -/
def codeMoreUptoRow : OpenClaim := { program := "yteagkdmefmpokaadoor", sum := "c1c6349a8ac1597aea530c2ae7a5ee1b83d4984d448dc35068b69dcefe1c44c9", func := "brazier/brazierlaw08.CodeMore", spec := "codeMore", unfollowed := true, recurses := true, named := ["brazier/code.shapes"], apart := false, laid := [("brazier/code.shapes", laid_brazier_code_shapes)], narrowed := true }
def CodeMoreUptoSaid : Prop := codeMoreUptoRow.holds Tryd.pinned (OpenSpec.upto codeMoreSpec)

/-- 'brazierlaw08.CodeNexts', WHERE WHAT IT READS IS OF BULK AT MOST 1048576: true; the input reads as it did. -/
def codeNextsUptoRow : OpenClaim := { program := "yteagkdmefmpokaadoor", sum := "c1c6349a8ac1597aea530c2ae7a5ee1b83d4984d448dc35068b69dcefe1c44c9", func := "brazier/brazierlaw08.CodeNexts", spec := "codeNexts", unfollowed := true, recurses := true, named := ["brazier/code.shapes"], apart := false, laid := [("brazier/code.shapes", laid_brazier_code_shapes)], narrowed := true }
def CodeNextsUptoSaid : Prop := codeNextsUptoRow.holds Tryd.pinned (OpenSpec.upto codeNextsSpec)

/-- 'brazierlaw08.CodeCut', WHERE WHAT IT READS IS OF BULK AT MOST 1048576: true; the input reads as it did. -/
def codeCutUptoRow : OpenClaim := { program := "yteagkdmefmpokaadoor", sum := "c1c6349a8ac1597aea530c2ae7a5ee1b83d4984d448dc35068b69dcefe1c44c9", func := "brazier/brazierlaw08.CodeCut", spec := "codeCut", unfollowed := true, recurses := true, named := ["brazier/code.shapes"], apart := false, laid := [("brazier/code.shapes", laid_brazier_code_shapes)], narrowed := true }
def CodeCutUptoSaid : Prop := codeCutUptoRow.holds Tryd.pinned (OpenSpec.upto codeCutSpec)

end Rows
end Go.Proofs.YteagkdmefmpokaaDoor
