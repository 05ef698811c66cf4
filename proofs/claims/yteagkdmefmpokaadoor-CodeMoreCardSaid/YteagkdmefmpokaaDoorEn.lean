/- Code: two lists that are the same; a program that may be run. -/
import Derived.Test.YteagkdmefmpokaaDoorEm
namespace Go.Proofs.YteagkdmefmpokaaDoor
open Go.RowKit Go
set_option linter.unusedVariables false
set_option linter.unusedSimpArgs false
set_option maxRecDepth 100000 in
set_option maxHeartbeats 4000000 in
theorem ints_calls (w : World) (A A2 : Option Addr) (n c n2 c2 : Nat) (L : List Int) (hr : Reads w w.heap.size 1 A n (ints L)) (hr2 : Reads w w.heap.size 1 A2 n2 (ints L)) (hn : n ≤ 17592186044000) :
    Calls Tryd.prog 15 #[.slice A n c, .slice A2 n2 c2] w fun e w' => e = .returned (.bool true) ∧ Below w.heap.size w w' := by
  have hl : L.length = n := by have := hr.1; simpa [ints] using this
  have hl2 : L.length = n2 := by have := hr2.1; simpa [ints] using this
  have e2 : n2 = n := by omega
  subst e2
  have HR := Lib.hid hr
  have HR2 := Lib.hid hr2
  have HL := Lib.hid hl
  have hz : ((n2 : Int) != n2) = false := by simp
  clear hr hr2 hl hl2
  go_enter Tryd.func15, Tryd.ntmps15
  go_wp2_with fail
  go_loopg [13] n2 (fun f i wr => ∃ k : Nat, i = .int .i64 k ∧ k + f = n2 ∧ Below w.heap.size w wr)
  case atStart => exact ⟨0, rfl, by omega, Below.refl _ _⟩
  case round =>
    obtain ⟨k, rfl, hf, hB⟩ := hrel
    have HB := Lib.hid hB
    by_cases hk : k < n2
    · obtain ⟨x, hx⟩ : ∃ x, L[k]? = some x := ⟨_, List.getElem?_eq_getElem (by have := HL.out; omega)⟩
      obtain ⟨b, off, hA, _, c0⟩ := reads_int (HR.out.below hB) hx
      obtain ⟨b2, off2, hA2, _, d0⟩ := reads_int (HR2.out.below hB) hx
      subst hA hA2
      have hk' : (k : Int) < n2 := by omega
      have hk0 : (0 : Int) ≤ k := by omega
      obtain ⟨f', hf'⟩ : ∃ f', gk = f' + 1 := ⟨gk - 1, by omega⟩
      have HF' := Lib.hid hf'
      have HF := Lib.hid hf
      have hxx : (x != x) = false := by simp
      clear hx hf hf' hB
      go_wp2_with fail
      go_quiet (fail)
      go_wp2_with fail
      go_roundg f'
      case measure => have := HF'.out; omega
      case rel => exact ⟨k + 1, by simp, by have := HF'.out; have := HF.out; omega, below_drewN HB.out _⟩
    · have hk' : ¬ (k : Int) < n2 := by omega
      clear hf hB
      go_wp2_with fail
      go_ret
      exact ⟨rfl, HB.out⟩
/-- the program of 'alive'. -/
def C0 : List En := [⟨2, 0, 0, 0⟩, ⟨55, 0, 0, 0⟩]
def h0 (g : Nat) : Hd := ⟨⟨#[]⟩, 0, 1, false, some ⟨g, 0, none⟩, 2, 2, none, 0, 0, none, 0, 0, none, 0, 0⟩
def F0 (g : Nat) : Fn := ⟨h0 g, C0, [], [], []⟩
theorem chk0 (g : Nat) : chk 1 [F0 g] = true := by
  have hs : ∀ x : Int, x = 2 → shp x = [119, 115, 45] := by intro x h; subst h; decide
  have hs2 : ∀ x : Int, x = 55 → shp x = [114, 45, 45] := by intro x h; subst h; decide
  simp [chk, headOk, first0, F0, h0, fnOk, okHead, tail, lastE, takesB, takesF, takesI, C0, okI, hs 2 rfl, hs2 55 rfl, ltr, opd, within, ends]
abbrev wal (w : World) : World := (w.alloc (.cells #[.int .i64 2, .int .i64 0, .int .i64 0, .int .i64 0, .int .i64 55, .int .i64 0, .int .i64 0, .int .i64 0] 38)).alloc (.cells (h0 w.heap.size).b 36)
theorem reads_blk {w : World} {g t size n : Nat} {cs : Array Value} (h : Blk w g t cs) (hl : cs.size = n * size) : Reads w w.heap.size size (some ⟨g, 0, none⟩) n cs.toList := by
  refine ⟨by simpa using hl, fun _ => ⟨_, rfl, h.lt, fun j u hj => ?_⟩⟩
  have e1 : (⟨g, 0, none⟩ : Addr).add j = ⟨g, j, none⟩ := by unfold Addr.add; split <;> simp_all
  rw [e1, h.cell]; simpa using hj
theorem pis0 {w wr : World} (b : Below (wal w).heap.size (wal w) wr) : PIs wr (some ⟨w.heap.size + 1, 0, none⟩) 1 [F0 w.heap.size] := by
  have B1 := (Blk.new w 38 #[.int .i64 2, .int .i64 0, .int .i64 0, .int .i64 0, .int .i64 55, .int .i64 0, .int .i64 0, .int .i64 0]).alloc (.cells (h0 w.heap.size).b 36)
  have B2 := Blk.new (w.alloc (.cells #[.int .i64 2, .int .i64 0, .int .i64 0, .int .i64 0, .int .i64 55, .int .i64 0, .int .i64 0, .int .i64 0] 38)) 36 (h0 w.heap.size).b
  rw [size_alloc] at B2
  have K1 := B1.below b B1.lt
  have K2 := B2.below b B2.lt
  refine ⟨reads_blk K2 rfl, ?_, ?_, by omega⟩
  · intro F hF
    rw [List.mem_singleton.1 hF]
    exact ⟨⟨reads_blk K1 rfl, Reads.none_, by show 2 * 32 ≤ 140737488351232; omega, by show 0 * 24 ≤ 140737488351232; omega⟩, Reads.none_, Reads.none_, by show 0 ≤ 140737488351232; omega, by show 0 ≤ 140737488351232; omega⟩
  · intro F hF e he
    rw [List.mem_singleton.1 hF] at he
    have : e = ⟨2, 0, 0, 0⟩ ∨ e = ⟨55, 0, 0, 0⟩ := by simpa [F0, C0] using he
    rcases this with rfl | rfl <;> exact ⟨by simp, by simp, by simp⟩
theorem wal_cells (w wr : World) (b : Below (wal w).heap.size (wal w) wr) :
    wr.cell? ⟨w.heap.size + 1, 0, none⟩ = some (.string ⟨#[]⟩) ∧ wr.cell? ⟨w.heap.size + 1, 1, none⟩ = some (.int .i64 0) ∧ wr.cell? ⟨w.heap.size + 1, 2, none⟩ = some (.int .i64 1) ∧ wr.cell? ⟨w.heap.size + 1, 3, none⟩ = some (.bool false) ∧ wr.cell? ⟨w.heap.size + 1, 4, none⟩ = some (.slice (some ⟨w.heap.size, 0, none⟩) 2 2) ∧ wr.cell? ⟨w.heap.size + 1, 5, none⟩ = some (.slice none 0 0) ∧ wr.cell? ⟨w.heap.size + 1, 6, none⟩ = some (.slice none 0 0) ∧ wr.cell? ⟨w.heap.size + 1, 7, none⟩ = some (.slice none 0 0) := by
  have B2 := Blk.new (w.alloc (.cells #[.int .i64 2, .int .i64 0, .int .i64 0, .int .i64 0, .int .i64 55, .int .i64 0, .int .i64 0, .int .i64 0] 38)) 36 (h0 w.heap.size).b
  rw [size_alloc] at B2
  have K2 := B2.below b B2.lt
  exact ⟨(K2.cell 0).trans rfl, (K2.cell 1).trans rfl, (K2.cell 2).trans rfl, (K2.cell 3).trans rfl, (K2.cell 4).trans rfl, (K2.cell 5).trans rfl, (K2.cell 6).trans rfl, (K2.cell 7).trans rfl⟩
theorem wal_box (w W : World) (b : Below ((wal w).alloc (.cells #[.slice (some ⟨w.heap.size + 1, 0, none⟩) 1 1] 24)).heap.size ((wal w).alloc (.cells #[.slice (some ⟨w.heap.size + 1, 0, none⟩) 1 1] 24)) W) : W.cell? ⟨w.heap.size + 1 + 1, 0, none⟩ = some (.slice (some ⟨w.heap.size + 1, 0, none⟩) 1 1) := by
  have B2 := Blk.new (wal w) 24 #[.slice (some ⟨w.heap.size + 1, 0, none⟩) 1 1]
  unfold wal at B2 b
  rw [size_alloc, size_alloc] at B2
  exact ((B2.below b (by have := B2.lt; exact this)).cell 0).trans rfl
theorem nxt0 : nxt 2 C0 [] 0 = [1] := by decide
theorem one_of {w : World} {B n : Nat} {A : Option Addr} {L : List Int} (hr : Reads w B 1 A n (ints L)) (hm : ∀ y, y ∈ L ↔ y ∈ nxt 2 C0 [] 0) (hs : Strict L) : n = 1 := by
  rw [nxt0] at hm
  have hl : L = [1] := strict_ext hs (by simp [Strict]) hm
  have := hr.1
  rw [hl] at this
  simpa [ints] using this.symm
set_option maxRecDepth 100000 in
set_option maxHeartbeats 4000000 in
theorem alive_calls (w : World) (hT : Tab w) : Calls Tryd.prog 9 #[] w fun e w' => e = .returned (.bool true) ∧ Below w.heap.size w w' := by
  have HW := Lib.hid (below_alloc (below_new w (.cells #[.int .i64 2, .int .i64 0, .int .i64 0, .int .i64 0, .int .i64 55, .int .i64 0, .int .i64 0, .int .i64 0] 38)) (.cells (h0 w.heap.size).b 36))
  have HP := Lib.hid (fun (W : World) (b : Below (wal w).heap.size (wal w) W) => pis0 b)
  have HT := Lib.hid (fun (W : World) (b : Below w.heap.size w W) => hT.later b)
  have HC := Lib.hid (fun (W : World) (b : Below (wal w).heap.size (wal w) W) => wal_cells w W b)
  have KC := check_calls ((wal w).alloc (.cells #[.slice (some ⟨w.heap.size + 1, 0, none⟩) 1 1] 24)) (some ⟨w.heap.size + 1, 0, none⟩) 1 1 [F0 w.heap.size] (HT.out _ (below_alloc HW.out _)) (HP.out _ (below_new _ _))
  rw [chk0] at KC
  have KS := fun (W : World) (h : Tab W) => shape_calls W 21 h
  rw [show shp 21 = [119, 114, 114] by decide, show str [119, 114, 114] = ⟨#[119, 114, 114]⟩ from rfl] at KS
  have KN := fun (W : World) (b : Below (wal w).heap.size (wal w) W) => next_calls W (h0 w.heap.size) C0 [] ((HP.out W b).is (F0 w.heap.size) (by simp)).his 0
  have HBA := Lib.hid (below_new (wal w) (.cells #[.slice (some ⟨w.heap.size + 1, 0, none⟩) 1 1] 24))
  have HB3 := Lib.hid (fun (W : World) (b : Below ((wal w).alloc (.cells #[.slice (some ⟨w.heap.size + 1, 0, none⟩) 1 1] 24)).heap.size ((wal w).alloc (.cells #[.slice (some ⟨w.heap.size + 1, 0, none⟩) 1 1] 24)) W) => wal_box w W b)
  unfold Hd.v h0 at KN
  unfold pv chkV at KC
  unfold wal h0 Hd.b at *
  simp only [if_true] at KC
  have KC' := Lib.hid KC
  have KS' := Lib.hid KS
  have KN' := Lib.hid KN
  clear KC KS KN hT
  go_enter Tryd.func9, Tryd.ntmps9
  go_wp2_with (first | (go_at_call 10; (with_reducible refine KC'.out.mono ?_); rintro r w1 ⟨rfl, hb1⟩; have p0 := HB3.out _ hb1) | (go_at_call 12; (with_reducible refine (KS'.out _ (HT.out _ (below_via HW.out (below_via HBA.out hb1)))).mono ?_); rintro r w' ⟨rfl, rfl⟩; obtain ⟨c0, c1, c2, c3, c4, c5, c6, c7⟩ := HC.out _ (below_via HBA.out hb1)) | (go_at_call 14; (with_reducible refine (KN'.out _ (below_via HBA.out hb1)).mono ?_); rintro r w2 ⟨A2, n2, q2, L2, rfl, hr2, ⟨hm2, hs2⟩, hn2, hb2⟩; obtain rfl := one_of hr2 hm2 hs2))
  go_ret
  exact ⟨rfl, below_via HW.out (below_via HBA.out (below_via hb1 hb2))⟩
end Go.Proofs.YteagkdmefmpokaaDoor
