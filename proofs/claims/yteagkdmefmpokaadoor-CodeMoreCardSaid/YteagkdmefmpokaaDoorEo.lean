/- Code: the table, off the row's condition; a world that holds it. -/
import Derived.Test.YteagkdmefmpokaaDoorEn
import Derived.Test.YteagkdmefmpokaaDoorRows
import Derived.Lib.LaidTab
import Derived.ProofKit
namespace Go.Proofs.YteagkdmefmpokaaDoor
open Go.RowKit Go.WideShapes Go.ChangeShapes Go.ChangeAt Go
set_option linter.unusedVariables false
set_option linter.unusedSimpArgs false
def strData {H : Type} (zs : List (List UInt8)) : DataW H := .agg (zs.map fun z => .lit (.string z))
theorem cells_of_strs {H : Type} {enc : TypeId × Value → H} {P : Program} {w : World} {base : Nat} {sp : Nat → Bool} {held : Bool} {fuel : Nat} {t e : TypeId} {n : Nat} {cs : List Value} {zs : List (List UInt8)} {p : List MemPlace}
    (ht : P.underlying t = some (.array n e)) (he : P.underlying e = some .string) (hce : P.cellsOf e = 1) (hct : P.cellsOf t = n)
    (h : DataW.trod enc P w base sp held fuel t cs = some (strData zs, p)) : cs = strs zs := by
  cases fuel with
  | zero => simp [DataW.trod] at h
  | succ fuel =>
    simp only [DataW.trod, ht, hce, hct, Nat.mul_one] at h
    split at h
    · rename_i hl
      obtain ⟨xs, hm, hx⟩ := Option.map_eq_some_iff.1 h
      have hxs : xs.map (·.1) = zs.map fun z => (DataW.lit (.string z) : DataW H) := by
        have := congrArg Prod.fst hx
        simpa [strData] using this
      have hxl : xs.length = n := by simpa using Lib.mapM_length hm
      have hzl : zs.length = n := by
        have := congrArg List.length hxs
        simp at this
        omega
      apply List.ext_getElem?
      intro i
      by_cases hi : i < n
      · obtain ⟨b, hb, hf⟩ := Lib.mapM_at hm i i (by simp [hi])
        obtain ⟨z, hc, rfl, _⟩ := DataW.trod_string he hf
        have h1 : cs[i]? = some (.string z) := by
          have := congrArg (·[0]?) hc
          simpa [List.getElem?_take, List.getElem?_drop] using this
        have h2 : (xs.map (·.1))[i]? = some (DataW.lit (.string z.data.toList) : DataW H) := by simp [hb]
        rw [hxs] at h2
        simp only [List.getElem?_map, Option.map_eq_some_iff, DataW.lit.injEq, Lit.string.injEq] at h2
        obtain ⟨z', hz', hzz⟩ := h2
        have : str z' = z := by unfold str; rw [hzz]
        simp [strs, h1, hz', this]
      · rw [List.getElem?_eq_none (by omega), List.getElem?_eq_none (by simp [strs]; omega)]
    · cases h
theorem gShapes : Tryd.prog.globalNamed "brazier/code.shapes" = some 0 := by kernel_rfl
theorem gShapesType : (Tryd.prog.globals[0]?).map (·.type) = some 53 := by kernel_rfl
theorem cells53 : Tryd.prog.cellsOf 53 = 63 := by kernel_rfl
theorem cells9 : Tryd.prog.cellsOf 9 = 1 := by kernel_rfl
/-- what the rows' list gives. -/
theorem tab_of {W : World} (h : laidMet Tryd.prog [("brazier/code.shapes", Rows.laid_brazier_code_shapes)] W) : Tab W := by
  obtain ⟨ps, ⟨g', t', cs, fuel, p, q, hg', ht', hvar, hd, _, _⟩, _⟩ := h
  obtain rfl := Option.some.inj (gShapes.symm.trans hg')
  obtain rfl := Option.some.inj (gShapesType.symm.trans ht')
  have hcs := cells_of_strs (zs := tbl) Tryd.underlying53 Tryd.underlying9 cells9 cells53 hd
  have hcell : ∀ (k : Nat) (l : List UInt8), tbl[k]? = some l → W.cell? ⟨0, k, none⟩ = some (.string (str l)) := by
    intro k l hk
    have := World.var?_cell gShapes hvar k
    rw [this, ← Array.getElem?_toList, hcs]
    simp [strs, hk]
  have h0 := World.block_lt_of_cell? W _ (hcell 0 _ rfl)
  exact ⟨by have : 0 < W.heap.size := h0; omega, hcell⟩
/-- a world for a witness: the settled one, the table holding what its initialiser lays. -/
noncomputable def laidWorld (os : Os) : World :=
  { World.holding Tryd.prog os ⟨#[], #[], []⟩ with heap := (World.holding Tryd.prog os ⟨#[], #[], []⟩).heap.modify 0 fun
      | .cells _ t frozen => .cells (strs tbl).toArray t frozen
      | o => o }
end Go.Proofs.YteagkdmefmpokaaDoor
