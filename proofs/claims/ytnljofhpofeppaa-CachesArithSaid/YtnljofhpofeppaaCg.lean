/- Caches: the document's Learn walked. -/
import Derived.Test.YtnljofhpofeppaaCf
import Derived.Test.YtnljofhpofeppaaCc
namespace Go.Proofs.Ytnljofhpofeppaa.Cz
open Go.RowKit Go
set_option linter.unusedVariables false
set_option linter.unusedSimpArgs false
/-- the memory when the document's Learn has laid its arguments. -/
def RW (w : World) (st : Int) (A : Option Addr) (m c : Nat) (e : En) : World :=
  ((w.alloc (.cells #[.int .i64 st, .slice A m c] 36)).alloc (.cells #[.int .i64 e.s, .int .i64 e.h, .int .i64 e.o, .int .i64 e.c] 39)).alloc (.cells #[.int .i64 0, .slice none 0 0] 36)
structure RWf (w W0 : World) (st : Int) (A : Option Addr) (m c : Nat) (e : En) : Prop where
  sz : W0.heap.size = w.heap.size + 3
  bel : Below w.heap.size w W0
  b0 : Blk W0 w.heap.size 36 #[.int .i64 st, .slice A m c]
  b1 : Blk W0 (w.heap.size + 1) 39 e.b
  b3 : Blk W0 (w.heap.size + 2) 36 #[.int .i64 0, .slice none 0 0]
theorem rwf (w : World) (st : Int) (A : Option Addr) (m c : Nat) (e : En) : RWf w (RW w st A m c e) st A m c e := by
  unfold RW
  refine ⟨by simp, (((Below.refl _ _).alloc (Nat.le_refl _) _).alloc (by simp) _).alloc (by simp; omega) _, ?_, ?_, ?_⟩
  · exact ((Blk.new w 36 _).alloc _).alloc _
  · have := ((Blk.new (w.alloc (.cells #[.int .i64 st, .slice A m c] 36)) 39 e.b).alloc (.cells #[.int .i64 0, .slice none 0 0] 36))
    simpa [En.b] using this
  · have := (Blk.new ((w.alloc (.cells #[.int .i64 st, .slice A m c] 36)).alloc (.cells #[.int .i64 e.s, .int .i64 e.h, .int .i64 e.o, .int .i64 e.c] 39)) 36 #[.int .i64 0, .slice none 0 0])
    simpa using this
/-- what the walk reads of its own variables. -/
structure RVars (w w2 : World) (st : Int) (A : Option Addr) (m c : Nat) (e : En) : Prop where
  s : Two w2 w.heap.size (.int .i64 st) (.slice A m c)
  e : Four w2 (w.heap.size + 1) (.int .i64 e.s) (.int .i64 e.h) (.int .i64 e.o) (.int .i64 e.c)
  r : Two w2 (w.heap.size + 1 + 1) (.int .i64 0) (.slice none 0 0)
theorem RWf.vars {w W0 w2 : World} {st : Int} {A : Option Addr} {m c : Nat} {e : En} (h : RWf w W0 st A m c e) (hb : Below W0.heap.size W0 w2) : RVars w w2 st A m c e :=
  ⟨(h.b0.below hb h.b0.lt).two, (h.b1.below hb h.b1.lt).four, (h.b3.below hb h.b3.lt).two⟩
end Go.Proofs.Ytnljofhpofeppaa.Cz
