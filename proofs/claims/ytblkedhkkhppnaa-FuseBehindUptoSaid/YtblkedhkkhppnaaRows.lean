/-
  No cell of these rows narrows 'for every input' (looked for: loops, veiled, ifaces, maps, wideKeys, modest, calm, conditions, laid).
  DERIVED. THE GIVEN ROWS OF THIS SEAT. 4 by the template 'for every input the law returns true; each argument reads behind the call as it read before'; 0 by the template 'total and deterministic' (their statements: YtblkedhkkhppnaaTotals.lean).
  GIVEN WITH THE SEED: the statements are not yours to turn. If you find one false, say at which input.
  Laid BY PROGRAM, IN A SANDBOX (cutbox-rows.mjs): the forced cells as the released guide's own fill.sh prints them over the translation 4e206a5316dd555b… (all of the seat's roots in one cut). By AI agents, Wed Nov 11 2026. No macro, syntax, notation, axiom, sorry.
-/
import Derived.Test.YtblkedhkkhppnaaChecked
import GoSem.Claim
import GoSem.ClaimJoined
import GoSem.ClaimMapViews
import Derived.JoinedTies
import Derived.KernelRfl
namespace Go.Proofs.Ytblkedhkkhppnaa
/- THE CELL 'sum', in the pinned program and in every row, IS THE sha256 OF THE DUMP (.gsa) THAT YtblkedhkkhppnaaProg.lean LOADS. Nothing in Lean hashes anything: it is a label: what it is worth is what the hold of that sum in a sandbox is worth. -/
noncomputable def Try.pinned : Pinned := { name := "ytblkedhkkhppnaa", sum := "4e206a5316dd555bb0a2c94e5ef044649f10e4201759678bc40d0523b4db1f0e", checked := Try.checked }
namespace Rows
def none {H : Type} : Left H := { results := [], args := [] }

/-- 'brazierlaw10.FuseGroups': WHATEVER THE INPUT: true; the input reads as it did. -/
def fuseGroupsSpec : ChangeSpec := { name := "fuseGroups", fn := fun _ => fun
  | [d] => { results := [.lit (.bool true)], args := [d] }
  | _ => none }
def fuseGroupsRow : OpenClaim := { program := "ytblkedhkkhppnaa", sum := "4e206a5316dd555bb0a2c94e5ef044649f10e4201759678bc40d0523b4db1f0e", func := "brazier/brazierlaw10.FuseGroups", spec := "fuseGroups", unfollowed := true, recurses := true, apart := false }
def FuseGroupsSaid : Prop := fuseGroupsRow.holds Try.pinned (OpenSpec.ofChange fuseGroupsSpec)

/-- ITS FALSE NEIGHBOUR: 'it returns false'. Refute it at one input. -/
def fuseGroupsWrong : ChangeSpec := { name := "fuseGroups", fn := fun _ => fun
  | [d] => { results := [.lit (.bool false)], args := [d] }
  | _ => none }
def FuseGroupsWrongFalsely : Prop := fuseGroupsRow.holds Try.pinned (OpenSpec.ofChange fuseGroupsWrong)

/-- 'brazierlaw10.FuseWhere': WHATEVER THE INPUT: true; the input reads as it did. -/
def fuseWhereSpec : ChangeSpec := { name := "fuseWhere", fn := fun _ => fun
  | [d1, d2] => { results := [.lit (.bool true)], args := [d1, d2] }
  | _ => none }
def fuseWhereRow : OpenClaim := { program := "ytblkedhkkhppnaa", sum := "4e206a5316dd555bb0a2c94e5ef044649f10e4201759678bc40d0523b4db1f0e", func := "brazier/brazierlaw10.FuseWhere", spec := "fuseWhere", unfollowed := true, recurses := true, apart := false }
def FuseWhereSaid : Prop := fuseWhereRow.holds Try.pinned (OpenSpec.ofChange fuseWhereSpec)

/-- ITS FALSE NEIGHBOUR: 'it returns false'. Refute it at one input. -/
def fuseWhereWrong : ChangeSpec := { name := "fuseWhere", fn := fun _ => fun
  | [d1, d2] => { results := [.lit (.bool false)], args := [d1, d2] }
  | _ => none }
def FuseWhereWrongFalsely : Prop := fuseWhereRow.holds Try.pinned (OpenSpec.ofChange fuseWhereWrong)

/-- 'brazierlaw10.FuseBehind': WHATEVER THE INPUT: true; the input reads as it did. -/
def fuseBehindSpec : ChangeSpec := { name := "fuseBehind", fn := fun _ => fun
  | [d1, d2] => { results := [.lit (.bool true)], args := [d1, d2] }
  | _ => none }
def fuseBehindRow : OpenClaim := { program := "ytblkedhkkhppnaa", sum := "4e206a5316dd555bb0a2c94e5ef044649f10e4201759678bc40d0523b4db1f0e", func := "brazier/brazierlaw10.FuseBehind", spec := "fuseBehind", unfollowed := true, recurses := true, apart := false }
def FuseBehindSaid : Prop := fuseBehindRow.holds Try.pinned (OpenSpec.ofChange fuseBehindSpec)

/-- ITS FALSE NEIGHBOUR: 'it returns false'. Refute it at one input. -/
def fuseBehindWrong : ChangeSpec := { name := "fuseBehind", fn := fun _ => fun
  | [d1, d2] => { results := [.lit (.bool false)], args := [d1, d2] }
  | _ => none }
def FuseBehindWrongFalsely : Prop := fuseBehindRow.holds Try.pinned (OpenSpec.ofChange fuseBehindWrong)

/-- 'brazierlaw10.FuseParts': WHATEVER THE INPUT: true; the input reads as it did. -/
def fusePartsSpec : ChangeSpec := { name := "fuseParts", fn := fun _ => fun
  | [d] => { results := [.lit (.bool true)], args := [d] }
  | _ => none }
def fusePartsRow : OpenClaim := { program := "ytblkedhkkhppnaa", sum := "4e206a5316dd555bb0a2c94e5ef044649f10e4201759678bc40d0523b4db1f0e", func := "brazier/brazierlaw10.FuseParts", spec := "fuseParts", unfollowed := true, recurses := true, apart := false }
def FusePartsSaid : Prop := fusePartsRow.holds Try.pinned (OpenSpec.ofChange fusePartsSpec)

/-- ITS FALSE NEIGHBOUR: 'it returns false'. Refute it at one input. -/
def fusePartsWrong : ChangeSpec := { name := "fuseParts", fn := fun _ => fun
  | [d] => { results := [.lit (.bool false)], args := [d] }
  | _ => none }
def FusePartsWrongFalsely : Prop := fusePartsRow.holds Try.pinned (OpenSpec.ofChange fusePartsWrong)

/- THE SECOND FORM. 'bulk': how many values and letters a reading holds, each counted each time it is reached (what is shared counts as often as it is met; a slice's spare places count too). A statement '..UptoSaid' is the law's where the arguments, and the package variables that the reading takes, are together of bulk at most 1048576: NARROWER than '..Said'. Prove '..Said' where nothing that the law and all that it calls make is longer than what came in: it says more and counts as full. Else prove '..UptoSaid'. A law counts once. -/
mutual
def uptoBulk {H : Type} : DataW H → Nat
  | .lit (.string bytes) => bytes.length + 1
  | .lit _ => 1
  | .nil => 1
  | .ptr d => uptoBulk d + 1
  | .slice elems spare => uptoBulkAll elems + uptoBulkAll spare + 1
  | .agg parts => uptoBulkAll parts + 1
  | .iface _ d => uptoBulk d + 1
  | .map entries => uptoBulkEntries entries + 1
  | .held _ => 1
def uptoBulkAll {H : Type} : List (DataW H) → Nat
  | [] => 0
  | d :: r => uptoBulk d + uptoBulkAll r
def uptoBulkEntries {H : Type} : List (Lit × DataW H) → Nat
  | [] => 0
  | x :: r => uptoBulkEntry x + uptoBulkEntries r
def uptoBulkEntry {H : Type} : Lit × DataW H → Nat
  | (.string bytes, d) => bytes.length + uptoBulk d + 1
  | (_, d) => uptoBulk d + 1
 end
def uptoSmall : (H : Type) → List (DataW H) → Bool := fun _ ds => decide (uptoBulkAll ds ≤ 1048576)
def OpenSpec.upto (s : _root_.Go.ChangeSpec) : _root_.Go.OpenSpec := { _root_.Go.OpenSpec.ofChange s with cond := some uptoSmall }

/-- 'brazierlaw10.FuseGroups', WHERE WHAT IT READS IS OF BULK AT MOST 1048576: true; the input reads as it did. -/
def fuseGroupsUptoRow : OpenClaim := { program := "ytblkedhkkhppnaa", sum := "4e206a5316dd555bb0a2c94e5ef044649f10e4201759678bc40d0523b4db1f0e", func := "brazier/brazierlaw10.FuseGroups", spec := "fuseGroups", unfollowed := true, recurses := true, apart := false, narrowed := true }
def FuseGroupsUptoSaid : Prop := fuseGroupsUptoRow.holds Try.pinned (OpenSpec.upto fuseGroupsSpec)

/-- 'brazierlaw10.FuseWhere', WHERE WHAT IT READS IS OF BULK AT MOST 1048576: true; the input reads as it did. -/
def fuseWhereUptoRow : OpenClaim := { program := "ytblkedhkkhppnaa", sum := "4e206a5316dd555bb0a2c94e5ef044649f10e4201759678bc40d0523b4db1f0e", func := "brazier/brazierlaw10.FuseWhere", spec := "fuseWhere", unfollowed := true, recurses := true, apart := false, narrowed := true }
def FuseWhereUptoSaid : Prop := fuseWhereUptoRow.holds Try.pinned (OpenSpec.upto fuseWhereSpec)

/-- 'brazierlaw10.FuseBehind', WHERE WHAT IT READS IS OF BULK AT MOST 1048576: true; the input reads as it did. -/
def fuseBehindUptoRow : OpenClaim := { program := "ytblkedhkkhppnaa", sum := "4e206a5316dd555bb0a2c94e5ef044649f10e4201759678bc40d0523b4db1f0e", func := "brazier/brazierlaw10.FuseBehind", spec := "fuseBehind", unfollowed := true, recurses := true, apart := false, narrowed := true }
def FuseBehindUptoSaid : Prop := fuseBehindUptoRow.holds Try.pinned (OpenSpec.upto fuseBehindSpec)

/-- 'brazierlaw10.FuseParts', WHERE WHAT IT READS IS OF BULK AT MOST 1048576: true; the input reads as it did. -/
def fusePartsUptoRow : OpenClaim := { program := "ytblkedhkkhppnaa", sum := "4e206a5316dd555bb0a2c94e5ef044649f10e4201759678bc40d0523b4db1f0e", func := "brazier/brazierlaw10.FuseParts", spec := "fuseParts", unfollowed := true, recurses := true, apart := false, narrowed := true }
def FusePartsUptoSaid : Prop := fusePartsUptoRow.holds Try.pinned (OpenSpec.upto fusePartsSpec)

end Rows
end Go.Proofs.Ytblkedhkkhppnaa
