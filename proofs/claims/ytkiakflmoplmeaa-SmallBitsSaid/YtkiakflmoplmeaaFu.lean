/- Plain facts: what the model's operations hand back is no NaN; Of of it. -/
import Derived.Test.YtkiakflmoplmeaaFt
import Derived.Test.YtkiakflmoplmeaaFq
namespace Fp
open Go Go.RowKit Ieee
set_option linter.unusedVariables false
set_option linter.unusedSimpArgs false

theorem word_num (s : Bool) (r : Nat) (h : r ≤ double.infRung) : isNaN ((double.word s r : Nat) : Int) = false := by
  rw [infRung_d] at h
  obtain ⟨h1, h2, h3⟩ := word_int s r (by omega)
  rw [Bool.eq_false_iff]; intro c
  rw [nan_iff', h2] at c; omega
theorem nearest_num (s : Bool) (m : Nat) (p : Int) : isNaN ((double.nearest s m p : Nat) : Int) = false := by
  unfold Format.nearest
  split
  · exact word_num _ _ (Nat.zero_le _)
  · exact word_num _ _ (Nat.min_le_right _ _)
theorem write_num (d : Datum) (h : d.isNaN = false) : isNaN ((double.write d : Nat) : Int) = false := by
  cases d with
  | number s m p => exact nearest_num s m p
  | infinity s => exact word_num s _ (Nat.le_refl _)
  | nan s t => simp [Datum.isNaN] at h
theorem sum_num {x y d : Datum} (h : x.sum y = some d) : d.isNaN = false := by
  unfold Datum.sum at h
  split at h
  · cases h
  · cases h
  · split at h
    · cases h; rfl
    · cases h
  · cases h; rfl
  · cases h; rfl
  · cases h; rfl
theorem product_num {x y d : Datum} (h : x.product y = some d) : d.isNaN = false := by
  unfold Datum.product at h
  split at h
  · cases h
  · cases h
  · cases h; rfl
  · split at h
    · cases h
    · cases h; rfl
  · split at h
    · cases h
    · cases h; rfl
  · cases h; rfl
theorem quotient_num {k : Nat} {x y d : Datum} (h : x.quotient k y = some d) : d.isNaN = false := by
  unfold Datum.quotient at h
  split at h
  · cases h
  · cases h
  · cases h
  · cases h; rfl
  · cases h; rfl
  · split at h
    · split at h
      · cases h
      · cases h; rfl
    · cases h; rfl
/-- what Of makes of an operation's result. -/
def ofM (o : Option Nat) : Int := match o with | none => 9221120237041090560 | some r => OfG r
theorem ofM_eq (o : Option Nat) (h : ∀ r, o = some r → isNaN (r : Int) = false) : ofM o = ofO o := by
  cases o with
  | none => rfl
  | some r =>
    show OfG r = (r : Int)
    unfold OfG; rw [h r rfl]; rfl
theorem add_of {a b : Int} (ha : U64 a) (hb : U64 b) : ofM (double.add a.toNat b.toNat) = AddG a b := by
  rw [add_ok ha hb, ofM_eq]
  intro r h
  unfold Format.add at h
  rw [Option.map_eq_some_iff] at h
  obtain ⟨d, h1, rfl⟩ := h
  exact write_num d (sum_num h1)
theorem sub_of {a b : Int} (ha : U64 a) (hb : U64 b) : ofM (double.sub a.toNat b.toNat) = SubG a b := by
  rw [sub_ok ha hb, ofM_eq]
  intro r h
  unfold Format.sub at h
  rw [Option.map_eq_some_iff] at h
  obtain ⟨d, h1, rfl⟩ := h
  exact write_num d (sum_num h1)
theorem mul_of {a b : Int} (ha : U64 a) (hb : U64 b) : ofM (double.mul a.toNat b.toNat) = MulG a b := by
  rw [mul_ok ha hb, ofM_eq]
  intro r h
  unfold Format.mul at h
  rw [Option.map_eq_some_iff] at h
  obtain ⟨d, h1, rfl⟩ := h
  exact write_num d (product_num h1)
theorem div_of {a b : Int} (ha : U64 a) (hb : U64 b) : ofM (double.div a.toNat b.toNat) = DivG a b := by
  rw [div_ok ha hb, ofM_eq]
  intro r h
  unfold Format.div at h
  rw [Option.map_eq_some_iff] at h
  obtain ⟨d, h1, rfl⟩ := h
  exact write_num d (quotient_num h1)
end Fp
