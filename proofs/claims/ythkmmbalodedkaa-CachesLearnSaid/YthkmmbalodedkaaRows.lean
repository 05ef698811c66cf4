/-
  No cell of these rows narrows 'for every input' (looked for: loops, veiled, ifaces, maps, wideKeys, modest, calm, conditions, laid).
  DERIVED. THE GIVEN ROWS OF THIS SEAT. 5 by the template 'for every input the law returns true; each argument reads behind the call as it read before'; 0 by the template 'total and deterministic' (their statements: YthkmmbalodedkaaTotals.lean).
  GIVEN WITH THE SEED: the statements are not yours to turn. If you find one false, say at which input.
  Laid BY PROGRAM, IN A SANDBOX (cutbox-rows.mjs): the forced cells as the released guide's own fill.sh prints them over the translation a7fa4ea94bca5338… (all of the seat's roots in one cut). By AI agents, Wed Nov 11 2026. No macro, syntax, notation, axiom, sorry.
-/
import Derived.Test.YthkmmbalodedkaaChecked
import GoSem.Claim
import GoSem.ClaimJoined
import GoSem.ClaimMapViews
import Derived.JoinedTies
import Derived.KernelRfl
namespace Go.Proofs.Ythkmmbalodedkaa
/- THE CELL 'sum', in the pinned program and in every row, IS THE sha256 OF THE DUMP (.gsa) THAT YthkmmbalodedkaaProg.lean LOADS. Nothing in Lean hashes anything: it is a label: what it is worth is what the hold of that sum in a sandbox is worth. -/
noncomputable def Try.pinned : Pinned := { name := "ythkmmbalodedkaa", sum := "a7fa4ea94bca5338a00bc655cd3f5baa5c309e33047e5f86d72611a2cd17809c", checked := Try.checked }
namespace Rows
def none {H : Type} : Left H := { results := [], args := [] }

/-- 'brazierlaw15.CachesLearn': WHATEVER THE INPUT: true; the input reads as it did. -/
def cachesLearnSpec : ChangeSpec := { name := "cachesLearn", fn := fun _ => fun
  | [d1, d2, d3] => { results := [.lit (.bool true)], args := [d1, d2, d3] }
  | _ => none }
def cachesLearnRow : OpenClaim := { program := "ythkmmbalodedkaa", sum := "a7fa4ea94bca5338a00bc655cd3f5baa5c309e33047e5f86d72611a2cd17809c", func := "brazier/brazierlaw15.CachesLearn", spec := "cachesLearn", unfollowed := true, recurses := true, apart := false }
def CachesLearnSaid : Prop := cachesLearnRow.holds Try.pinned (OpenSpec.ofChange cachesLearnSpec)

/-- ITS FALSE NEIGHBOUR: 'it returns false'. Refute it at one input. -/
def cachesLearnWrong : ChangeSpec := { name := "cachesLearn", fn := fun _ => fun
  | [d1, d2, d3] => { results := [.lit (.bool false)], args := [d1, d2, d3] }
  | _ => none }
def CachesLearnWrongFalsely : Prop := cachesLearnRow.holds Try.pinned (OpenSpec.ofChange cachesLearnWrong)

/-- 'brazierlaw15.CachesForward': WHATEVER THE INPUT: true; the input reads as it did. -/
def cachesForwardSpec : ChangeSpec := { name := "cachesForward", fn := fun _ => fun
  | [d1, d2] => { results := [.lit (.bool true)], args := [d1, d2] }
  | _ => none }
def cachesForwardRow : OpenClaim := { program := "ythkmmbalodedkaa", sum := "a7fa4ea94bca5338a00bc655cd3f5baa5c309e33047e5f86d72611a2cd17809c", func := "brazier/brazierlaw15.CachesForward", spec := "cachesForward", unfollowed := true, recurses := true, apart := false }
def CachesForwardSaid : Prop := cachesForwardRow.holds Try.pinned (OpenSpec.ofChange cachesForwardSpec)

/-- ITS FALSE NEIGHBOUR: 'it returns false'. Refute it at one input. -/
def cachesForwardWrong : ChangeSpec := { name := "cachesForward", fn := fun _ => fun
  | [d1, d2] => { results := [.lit (.bool false)], args := [d1, d2] }
  | _ => none }
def CachesForwardWrongFalsely : Prop := cachesForwardRow.holds Try.pinned (OpenSpec.ofChange cachesForwardWrong)

/-- 'brazierlaw15.CachesFew': WHATEVER THE INPUT: true; the input reads as it did. -/
def cachesFewSpec : ChangeSpec := { name := "cachesFew", fn := fun _ => fun
  | [d] => { results := [.lit (.bool true)], args := [d] }
  | _ => none }
def cachesFewRow : OpenClaim := { program := "ythkmmbalodedkaa", sum := "a7fa4ea94bca5338a00bc655cd3f5baa5c309e33047e5f86d72611a2cd17809c", func := "brazier/brazierlaw15.CachesFew", spec := "cachesFew", unfollowed := true, recurses := true, apart := false }
def CachesFewSaid : Prop := cachesFewRow.holds Try.pinned (OpenSpec.ofChange cachesFewSpec)

/-- ITS FALSE NEIGHBOUR: 'it returns false'. Refute it at one input. -/
def cachesFewWrong : ChangeSpec := { name := "cachesFew", fn := fun _ => fun
  | [d] => { results := [.lit (.bool false)], args := [d] }
  | _ => none }
def CachesFewWrongFalsely : Prop := cachesFewRow.holds Try.pinned (OpenSpec.ofChange cachesFewWrong)

/-- 'brazierlaw15.CachesBroken': WHATEVER THE INPUT: true; the input reads as it did. -/
def cachesBrokenSpec : ChangeSpec := { name := "cachesBroken", fn := fun _ => fun
  | [d] => { results := [.lit (.bool true)], args := [d] }
  | _ => none }
def cachesBrokenRow : OpenClaim := { program := "ythkmmbalodedkaa", sum := "a7fa4ea94bca5338a00bc655cd3f5baa5c309e33047e5f86d72611a2cd17809c", func := "brazier/brazierlaw15.CachesBroken", spec := "cachesBroken", unfollowed := true, recurses := true, apart := false }
def CachesBrokenSaid : Prop := cachesBrokenRow.holds Try.pinned (OpenSpec.ofChange cachesBrokenSpec)

/-- ITS FALSE NEIGHBOUR: 'it returns false'. Refute it at one input. -/
def cachesBrokenWrong : ChangeSpec := { name := "cachesBroken", fn := fun _ => fun
  | [d] => { results := [.lit (.bool false)], args := [d] }
  | _ => none }
def CachesBrokenWrongFalsely : Prop := cachesBrokenRow.holds Try.pinned (OpenSpec.ofChange cachesBrokenWrong)

/-- 'brazierlaw15.CachesLast': WHATEVER THE INPUT: true; the input reads as it did. -/
def cachesLastSpec : ChangeSpec := { name := "cachesLast", fn := fun _ => fun
  | [d1, d2] => { results := [.lit (.bool true)], args := [d1, d2] }
  | _ => none }
def cachesLastRow : OpenClaim := { program := "ythkmmbalodedkaa", sum := "a7fa4ea94bca5338a00bc655cd3f5baa5c309e33047e5f86d72611a2cd17809c", func := "brazier/brazierlaw15.CachesLast", spec := "cachesLast", unfollowed := true, recurses := true, apart := false }
def CachesLastSaid : Prop := cachesLastRow.holds Try.pinned (OpenSpec.ofChange cachesLastSpec)

/-- ITS FALSE NEIGHBOUR: 'it returns false'. Refute it at one input. -/
def cachesLastWrong : ChangeSpec := { name := "cachesLast", fn := fun _ => fun
  | [d1, d2] => { results := [.lit (.bool false)], args := [d1, d2] }
  | _ => none }
def CachesLastWrongFalsely : Prop := cachesLastRow.holds Try.pinned (OpenSpec.ofChange cachesLastWrong)

/- THE SECOND FORM. 'bulk': how many values and letters a reading holds, each counted each time it is reached (what is shared counts as often as it is met; a slice's spare places count too). A statement '..UptoSaid' is the law's where the arguments, and the package variables that the reading takes, are together of bulk at most 1048576: NARROWER than '..Said'. Prove '..Said' where nothing that the law and all that it calls make is longer than what came in: it says more and counts as full. Else prove '..UptoSaid'. A law counts once. -/
mutual
def uptoBulk {H : Type} : DataW H → Nat
  | .lit (.string bytes) => bytes.length + 1
  | .lit _ => 1
  | .nil => 1
  | .ptr d => uptoBulk d + 1
  | .slice elems spare => uptoBulkAll elems + uptoBulkAll spare + 1
  | .agg parts => uptoBulkAll parts + 1
  | .iface _ d => uptoBulk d + 1
  | .map entries => uptoBulkEntries entries + 1
  | .held _ => 1
def uptoBulkAll {H : Type} : List (DataW H) → Nat
  | [] => 0
  | d :: r => uptoBulk d + uptoBulkAll r
def uptoBulkEntries {H : Type} : List (Lit × DataW H) → Nat
  | [] => 0
  | x :: r => uptoBulkEntry x + uptoBulkEntries r
def uptoBulkEntry {H : Type} : Lit × DataW H → Nat
  | (.string bytes, d) => bytes.length + uptoBulk d + 1
  | (_, d) => uptoBulk d + 1
 end
def uptoSmall : (H : Type) → List (DataW H) → Bool := fun _ ds => decide (uptoBulkAll ds ≤ 1048576)
def OpenSpec.upto (s : _root_.Go.ChangeSpec) : _root_.Go.OpenSpec := { _root_.Go.OpenSpec.ofChange s with cond := some uptoSmall }

/-- 'brazierlaw15.CachesLearn', WHERE WHAT IT READS IS OF BULK AT MOST 1048576: true; the input reads as it did. -/
def cachesLearnUptoRow : OpenClaim := { program := "ythkmmbalodedkaa", sum := "a7fa4ea94bca5338a00bc655cd3f5baa5c309e33047e5f86d72611a2cd17809c", func := "brazier/brazierlaw15.CachesLearn", spec := "cachesLearn", unfollowed := true, recurses := true, apart := false, narrowed := true }
def CachesLearnUptoSaid : Prop := cachesLearnUptoRow.holds Try.pinned (OpenSpec.upto cachesLearnSpec)

/-- 'brazierlaw15.CachesForward', WHERE WHAT IT READS IS OF BULK AT MOST 1048576: true; the input reads as it did. -/
def cachesForwardUptoRow : OpenClaim := { program := "ythkmmbalodedkaa", sum := "a7fa4ea94bca5338a00bc655cd3f5baa5c309e33047e5f86d72611a2cd17809c", func := "brazier/brazierlaw15.CachesForward", spec := "cachesForward", unfollowed := true, recurses := true, apart := false, narrowed := true }
def CachesForwardUptoSaid : Prop := cachesForwardUptoRow.holds Try.pinned (OpenSpec.upto cachesForwardSpec)

/-- 'brazierlaw15.CachesFew', WHERE WHAT IT READS IS OF BULK AT MOST 1048576: true; the input reads as it did. -/
def cachesFewUptoRow : OpenClaim := { program := "ythkmmbalodedkaa", sum := "a7fa4ea94bca5338a00bc655cd3f5baa5c309e33047e5f86d72611a2cd17809c", func := "brazier/brazierlaw15.CachesFew", spec := "cachesFew", unfollowed := true, recurses := true, apart := false, narrowed := true }
def CachesFewUptoSaid : Prop := cachesFewUptoRow.holds Try.pinned (OpenSpec.upto cachesFewSpec)

/-- 'brazierlaw15.CachesBroken', WHERE WHAT IT READS IS OF BULK AT MOST 1048576: true; the input reads as it did. -/
def cachesBrokenUptoRow : OpenClaim := { program := "ythkmmbalodedkaa", sum := "a7fa4ea94bca5338a00bc655cd3f5baa5c309e33047e5f86d72611a2cd17809c", func := "brazier/brazierlaw15.CachesBroken", spec := "cachesBroken", unfollowed := true, recurses := true, apart := false, narrowed := true }
def CachesBrokenUptoSaid : Prop := cachesBrokenUptoRow.holds Try.pinned (OpenSpec.upto cachesBrokenSpec)

/-- 'brazierlaw15.CachesLast', WHERE WHAT IT READS IS OF BULK AT MOST 1048576: true; the input reads as it did. -/
def cachesLastUptoRow : OpenClaim := { program := "ythkmmbalodedkaa", sum := "a7fa4ea94bca5338a00bc655cd3f5baa5c309e33047e5f86d72611a2cd17809c", func := "brazier/brazierlaw15.CachesLast", spec := "cachesLast", unfollowed := true, recurses := true, apart := false, narrowed := true }
def CachesLastUptoSaid : Prop := cachesLastUptoRow.holds Try.pinned (OpenSpec.upto cachesLastSpec)

end Rows
end Go.Proofs.Ythkmmbalodedkaa
