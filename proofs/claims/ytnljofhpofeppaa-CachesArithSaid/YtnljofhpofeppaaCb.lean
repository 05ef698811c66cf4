/- Caches: Find walked. -/
import Derived.Test.YtnljofhpofeppaaCa
namespace Go.Proofs.Ytnljofhpofeppaa.Cz
open Go.RowKit Go
set_option linter.unusedVariables false
set_option linter.unusedSimpArgs false
theorem bcell {W w1 : World} (hb : Below W.heap.size W w1) : (∀ b o, b < W.heap.size → w1.cell? ⟨b, o, none⟩ = W.cell? ⟨b, o, none⟩) ∧ (∀ b o, b < W.heap.size → w1.frozen? ⟨b, o, none⟩ = W.frozen? ⟨b, o, none⟩) :=
  ⟨fun b o h => hb.cell (p := ⟨b, o, none⟩) h, fun b o h => hb.frozen (p := ⟨b, o, none⟩) h⟩
/-- a block of four numbers, as the walk reads it. -/
structure Four (w : World) (g : Nat) (a b c d : Value) : Prop where
  c0 : w.cell? ⟨g, 0, none⟩ = some a
  c1 : w.cell? ⟨g, 1, none⟩ = some b
  c2 : w.cell? ⟨g, 2, none⟩ = some c
  c3 : w.cell? ⟨g, 3, none⟩ = some d
  f0 : w.frozen? ⟨g, 0, none⟩ = false
  f1 : w.frozen? ⟨g, 1, none⟩ = false
  f2 : w.frozen? ⟨g, 2, none⟩ = false
  f3 : w.frozen? ⟨g, 3, none⟩ = false
theorem Blk.four {w : World} {g : Nat} {t : TypeId} {a b c d : Value} (h : Blk w g t #[a, b, c, d]) : Four w g a b c d :=
  ⟨h.cell 0, h.cell 1, h.cell 2, h.cell 3, h.frozen 0, h.frozen 1, h.frozen 2, h.frozen 3⟩
abbrev zB : Array Value := #[.int .i64 0, .int .i64 0, .int .i64 0, .int .i64 0]
def En.b (e : En) : Array Value := #[.int .i64 e.s, .int .i64 e.h, .int .i64 e.o, .int .i64 e.c]
/-- a site: its state, its entries. -/
def siteV (st : Int) (A : Option Addr) (n c : Nat) : Value := .agg #[.int .i64 st, .slice A n c]
/-- the first entry that is right. -/
def fnd (p : En → Bool) : List En → Option En
  | [] => none
  | e :: L => if p e then some e else fnd p L
def zE : En := ⟨0, 0, 0, 0⟩
/-- what Find answers. -/
def fndV (r : Option En) : Value := .tuple #[(r.getD zE).v, .bool r.isSome]
def fits (V : Int → Bool) (sh : Int) (e : En) : Bool := e.s == sh && hld V e
set_option maxRecDepth 100000 in
set_option maxHeartbeats 4000000 in
theorem find_calls (w : World) (st sh : Int) (A : Option Addr) (m c : Nat) (L : List En) (F : Nat) (caps : Array Value) (V : Int → Bool) (HA : Asks w F caps V) (hr : Reads w w.heap.size 4 A m (ef L)) (hm : m ≤ 140737488351232) :
    Calls Try.prog 13 #[siteV st A m c, .int .i64 sh, .func (.func F) #[] caps] w fun r w' => r = .returned (fndV (fnd (fits V sh) L)) ∧ Below w.heap.size w w' := by
  have hl := reads_len hr
  have B0 : Below w.heap.size w ((w.alloc (.cells #[.int .i64 st, .slice A m c] 36)).alloc (.cells #[.int .i64 0, .int .i64 0, .int .i64 0, .int .i64 0] 39)) := (((Below.refl _ _).alloc (Nat.le_refl _) _).alloc (by simp) _)
  obtain ⟨W0, hW0⟩ : ∃ W0, (w.alloc (.cells #[.int .i64 st, .slice A m c] 36)).alloc (.cells #[.int .i64 0, .int .i64 0, .int .i64 0, .int .i64 0] 39) = W0 := ⟨_, rfl⟩
  rw [hW0] at B0
  have hsz : W0.heap.size = w.heap.size + 2 := by rw [← hW0]; simp
  have hz : Blk W0 (w.heap.size + 1) 39 zB := by rw [← hW0]; have := Blk.new (w.alloc (.cells #[.int .i64 st, .slice A m c] 36)) 39 zB; simpa using this
  have HW := Lib.hid hW0
  have HB0 := Lib.hid B0
  have HZ := Lib.hid hz
  have HSZ := Lib.hid hsz
  have HAh := Lib.hid HA
  have HR := Lib.hid hr
  have HL := Lib.hid hl
  unfold siteV
  clear hW0 B0 hz hsz HA hr hl
  go_enter Try.func13, Try.ntmps13
  go_wp2
  rw [HW.out]
  go_loopg [13] m (fun f i wr => ∃ k : Nat, i = .int .i64 k ∧ k + f = m ∧ fnd (fits V sh) L = fnd (fits V sh) (L.drop k) ∧ Below W0.heap.size W0 wr)
  case atStart => exact ⟨0, rfl, by omega, rfl, Below.refl _ _⟩
  case round =>
    obtain ⟨k, rfl, hf, he, HBR⟩ := hrel
    have HE := Lib.hid he
    have HBRh := Lib.hid HBR
    have hs2 : w.heap.size + 2 ≤ wr.heap.size := by have := HBR.size; have := HSZ.out; omega
    have hz' : Blk wr (w.heap.size + 1) 39 zB := HZ.out.below HBR (by have := HSZ.out; omega)
    have HZ' := Lib.hid hz'
    have hbw : Below w.heap.size w wr := HB0.out.trans (HBR.mono (by have := HSZ.out; omega))
    have HBW := Lib.hid hbw
    clear hz' he
    by_cases hk : k < m
    · obtain ⟨e, hx⟩ : ∃ e, L[k]? = some e := ⟨_, List.getElem?_eq_getElem (by have := HL.out; omega)⟩
      have hd : L.drop k = e :: L.drop (k + 1) := by
        obtain ⟨h1, h2⟩ := List.getElem?_eq_some_iff.1 hx
        rw [← h2]; exact List.drop_eq_getElem_cons h1
      obtain ⟨b, off, rfl, hbl, ha⟩ := reads_at (HR.out.below hbw) hx
      obtain ⟨c0, c1, c2, c3⟩ := ha
      have hk' : (k : Int) < m := by omega
      have HD := Lib.hid hd
      obtain ⟨f', hf'⟩ : ∃ f', gk = f' + 1 := ⟨gk - 1, by omega⟩
      have HF' := Lib.hid hf'
      have HF := Lib.hid hf
      have HK := Lib.hid (fun w1 (h : Below wr.heap.size wr w1) => holds_calls w1 F caps V (HAh.out.later (hbw.trans (h.mono hbw.size))) e)
      clear hx hd hf hf' hbw HBR
      by_cases hs : e.s = sh
      · have hsb : (e.s == sh) = true := by simpa using hs
        have HFi := Lib.hid (show fits V sh e = hld V e by unfold fits; rw [hsb, Bool.true_and])
        have hbe : Below wr.heap.size wr (wr.alloc (.cells #[.int .i64 e.s, .int .i64 e.h, .int .i64 e.o, .int .i64 e.c] 39)) := (Below.refl _ _).alloc (Nat.le_refl _) _
        have K := HK.out _ hbe
        have HZA := Lib.hid (HZ'.out.alloc (.cells #[.int .i64 e.s, .int .i64 e.h, .int .i64 e.o, .int .i64 e.c] 39))
        have HEA := Lib.hid (Blk.new wr 39 e.b)
        unfold En.b at HEA
        have hBE := Lib.hid hbe
        unfold En.v at K
        subst hs
        clear hbe hsb
        cases hv : hld V e
        · rw [hv] at K HFi
          replace K := Lib.hid K
          clear hv
          go_wp2_with (first | ((with_reducible refine K.out.mono ?_); rintro r w1 ⟨rfl, hb1⟩))
          go_roundg f'
          case measure => have := HF'.out; omega
          case rel => exact ⟨k + 1, by simp, by have := HF'.out; have := HF.out; omega, by rw [HE.out, HD.out, fnd, HFi.out]; rfl, HBRh.out.trans ((hBE.out.trans (hb1.mono hBE.out.size)).mono HBRh.out.size)⟩
        · rw [hv] at K HFi
          replace K := Lib.hid K
          clear hv
          go_wp2_with (first | ((with_reducible refine K.out.mono ?_); rintro r w1 ⟨rfl, hb1⟩; obtain ⟨z0, z1, z2, z3, y0, y1, y2, y3⟩ := (HZA.out.below hb1 HZA.out.lt).four; obtain ⟨x0, x1, x2, x3, _, _, _, _⟩ := (HEA.out.below hb1 HEA.out.lt).four; have HB1 := Lib.hid hb1; clear hb1))
          refine bodyPost_ret (v := fndV (some e)) (by simp [results, Try.results13, go_sem, fndV, En.v, zE, z0, z1, z2, z3]) rfl ⟨?_, ?_⟩
          · rw [HE.out, HD.out, fnd, HFi.out]; rfl
          · have hfin : Below w.heap.size w w1 := HBW.out.trans ((hBE.out.trans (HB1.out.mono hBE.out.size)).mono HBW.out.size)
            repeat (first | exact hfin | refine Below.setCell ?_ (by show w.heap.size ≤ w.heap.size + 1; omega) _)
      · have hsb : (e.s == sh) = false := by simpa using hs
        clear hs
        have HFi := Lib.hid (show fits V sh e = false by unfold fits; rw [hsb, Bool.false_and])
        go_wp2
        go_roundg f'
        case measure => have := HF'.out; omega
        case rel => exact ⟨k + 1, by simp, by have := HF'.out; have := HF.out; omega, by rw [HE.out, HD.out, fnd, HFi.out]; rfl, HBRh.out.trans (((Below.refl _ _).alloc (Nat.le_refl _) _).mono HBRh.out.size)⟩
    · have hk' : ¬ (k : Int) < m := by omega
      obtain ⟨z0, z1, z2, z3, y0, y1, y2, y3⟩ := HZ'.out.four
      go_wp2
      refine bodyPost_ret (v := fndV none) (by simp [results, Try.results13, go_sem, fndV, En.v, zE, z0, z1, z2, z3]) rfl ⟨?_, ?_⟩
      · rw [HE.out, List.drop_of_length_le (by have := HL.out; omega)]; rfl
      · have hfin := HBW.out
        repeat (first | exact hfin | refine Below.setCell ?_ (by show w.heap.size ≤ w.heap.size + 1; omega) _)
end Go.Proofs.Ytnljofhpofeppaa.Cz
