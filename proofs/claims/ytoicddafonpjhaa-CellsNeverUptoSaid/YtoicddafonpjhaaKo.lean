/- Cells: how the law's loop over a script finds the memory. -/
import Derived.Test.YtoicddafonpjhaaKn
namespace Go.Proofs.Ytoicddafonpjhaa
open Go.RowKit Go
set_option linter.unusedVariables false
set_option linter.unusedSimpArgs false
/-- the script, as the call finds it. -/
structure Script (w : World) (b off n cap : Nat) (K N : Nat → Int) : Prop where
  cap : n ≤ cap
  lt : 0 < n → b < w.heap.size
  c0 : ∀ i, i < n → w.cell? ⟨b, off + i * 2, none⟩ = some (.int .i64 (K i))
  c1 : ∀ i, i < n → w.cell? ⟨b, off + i * 2 + 1, none⟩ = some (.int .i64 (N i))
theorem Script.at0 {w wr : World} {b off n cap : Nat} {K N : Nat → Int} (s : Script w b off n cap K N) (h : Below w.heap.size w wr) (i : Nat) (hi : i < n) : wr.cell? ⟨b, off + i * 2, none⟩ = some (.int .i64 (K i)) ∧ wr.cell? ⟨b, off + i * 2 + 1, none⟩ = some (.int .i64 (N i)) :=
  ⟨by rw [World.cell?_of_block (w := w) (a := ⟨b, off + i * 2, none⟩) (h.block b (s.lt (by omega)))]; exact s.c0 i hi, by rw [World.cell?_of_block (w := w) (a := ⟨b, off + i * 2 + 1, none⟩) (h.block b (s.lt (by omega)))]; exact s.c1 i hi⟩
theorem via12 {w w1 w2 : World} (h : Below w.heap.size w w1) (k : Below w1.heap.size w1 w2) : Below w.heap.size w w2 := h.trans (k.mono h.size)
/-- between two steps of the script. -/
structure SitL (w wr : World) (c rv : Value) (l : List Cl) (on : List Int) (R : List Rc) : Prop where
  has : HasS (fun q => rv.ownBlock = some q) wr w.heap.size c l
  row : wr.ownsRow w.heap.size 34 2 rv R.length (rflat R)
  bel : Below w.heap.size w wr
  ali : Alike l on R
  nz : R = [] → rv = .slice none 0 0
/-- within a step. -/
structure Sit (w wr : World) (c rv : Value) (o : Nat) (kk nn : Int) (l : List Cl) (R : List Rc) : Prop where
  has : HasS (fun q => rv.ownBlock = some q ∨ q = o) wr w.heap.size c l
  row : wr.ownsRow w.heap.size 34 2 rv R.length (rflat R)
  bel : Below w.heap.size w wr
  o0 : wr.cell? ⟨o, 0, none⟩ = some (.int .i64 kk)
  o1 : wr.cell? ⟨o, 1, none⟩ = some (.int .i64 nn)
theorem sitl_start {w wr : World} {c : Value} (h : Has wr w.heap.size c []) (hb : Below w.heap.size w wr) : SitL w wr c (.slice none 0 0) [] [] [] :=
  ⟨has_more h (Below.refl _ _) (fun k hk => by simp [Value.ownBlock] at hk), World.ownsRow_nil _ _ _ _, hb, alike_nil, fun _ => rfl⟩
theorem sit_open {w wr : World} {c rv : Value} {l : List Cl} {on : List Int} {R : List Rc} (s : SitL w wr c rv l on R) (kk nn : Int) : Sit w (wr.alloc (.cells #[.int .i64 kk, .int .i64 nn] 28)) c rv wr.heap.size kk nn l R := by
  have hb : Below wr.heap.size wr (wr.alloc (.cells #[.int .i64 kk, .int .i64 nn] 28)) := (Below.refl _ wr).alloc (Nat.le_refl _) _
  have hn := heap_alloc_new wr (.cells #[.int .i64 kk, .int .i64 nn] 28)
  refine ⟨has_more s.has hb ?_, s.row.alloc _, s.bel.alloc s.bel.size _, by rw [cell_of_row _ _ _ _ _ _ hn]; rfl, by rw [cell_of_row _ _ _ _ _ _ hn]; rfl⟩
  intro k hk
  have hsz : (wr.alloc (.cells #[.int .i64 kk, .int .i64 nn] 28)).heap.size = wr.heap.size + 1 := by simp only [World.alloc]; rw [Array.size_push]
  rw [hsz]
  rcases hk with hk | rfl
  · exact ⟨by have := (s.row.lt k hk).2; omega, .inl hk⟩
  · exact ⟨by omega, .inr (Nat.le_refl _)⟩
theorem sit_close {w wr : World} {c rv : Value} {o : Nat} {kk nn : Int} {l : List Cl} {on : List Int} {R : List Rc} (s : Sit w wr c rv o kk nn l R) (a : Alike l on R) (nz : R = [] → rv = .slice none 0 0) : SitL w wr c rv l on R :=
  ⟨has_more s.has (Below.refl _ _) (fun k hk => ⟨(s.row.lt k hk).2, .inl (.inl hk)⟩), s.row, s.bel, a, nz⟩
theorem sit_turn {w wr w' : World} {c rv : Value} {o : Nat} {kk nn : Int} {l l' : List Cl} {R : List Rc} (s : Sit w wr c rv o kk nn l R) (h : HasS (fun q => rv.ownBlock = some q ∨ q = o) w' w.heap.size c l')
    (hb : BelowS (fun q => rv.ownBlock = some q ∨ q = o) w.heap.size wr w') : Sit w w' c rv o kk nn l' R :=
  ⟨h, own_keep (fun k hk => hb.same k (.inl hk)) s.row, s.bel.trans hb.bel, by rw [World.cell?_of_block (w := wr) (a := ⟨o, 0, none⟩) (hb.same o (.inr rfl))]; exact s.o0, by rw [World.cell?_of_block (w := wr) (a := ⟨o, 1, none⟩) (hb.same o (.inr rfl))]; exact s.o1⟩
theorem sit_olt {w wr : World} {c rv : Value} {o : Nat} {kk nn : Int} {l : List Cl} {R : List Rc} (s : Sit w wr c rv o kk nn l R) : o < wr.heap.size := by
  obtain ⟨b, v, A, e, r⟩ := s.has
  exact r.qs o (.inr rfl)
theorem sit_make {w wr : World} {c rv : Value} {o : Nat} {kk nn : Int} {l : List Cl} {R : List Rc} (s : Sit w wr c rv o kk nn l R) (n : Int) (hl : l.length < 500000) (ht : tot l ≤ 2 * l.length) :
    Calls Try.prog 9 #[c, .int .i64 n] wr fun e w' => e = .returned (.int .i64 l.length) ∧ Sit w w' c rv o kk nn (mk l n) R := by
  have ha := abv_len l n
  refine (MakeS_calls wr w.heap.size c l n s.has (by omega) (by omega)).mono ?_
  rintro e w' ⟨rfl, h1, h2⟩
  exact ⟨rfl, sit_turn s h1 h2⟩
theorem sit_break {w wr : World} {c rv : Value} {o : Nat} {kk nn : Int} {l : List Cl} {R : List Rc} (s : Sit w wr c rv o kk nn l R) (n : Int) (hl : l.length < 400000) (ht : tot l ≤ 2 * l.length) :
    Calls Try.prog 12 #[c, .int .i64 n] wr fun e w' => e = .returned (.int .i64 (brk (1 + load l) l [n] 0).2) ∧ Sit w w' c rv o kk nn (brk (1 + load l) l [n] 0).1 R := by
  have := load_le_tot l
  refine (HBreakA wr w.heap.size c l n s.has (by omega) (by omega)).mono ?_
  rintro e w' ⟨rfl, h1, h2⟩
  exact ⟨rfl, sit_turn s h1 h2⟩
theorem sit_fresh {w wr w' : World} {c rv rv' : Value} {o : Nat} {kk nn : Int} {l : List Cl} {R R' : List Rc} (s : Sit w wr c rv o kk nn l R) (h : Below wr.heap.size wr w') (row : w'.ownsRow w.heap.size 34 2 rv' R'.length (rflat R'))
    (hf : rv' = rv ∨ ∀ q, rv'.ownBlock = some q → wr.heap.size ≤ q) : Sit w w' c rv' o kk nn l R' := by
  have ho := sit_olt s
  refine ⟨has_more s.has h ?_, row, via12 s.bel h, by rw [World.cell?_of_block (w := wr) (a := ⟨o, 0, none⟩) (h.block o ho)]; exact s.o0, by rw [World.cell?_of_block (w := wr) (a := ⟨o, 1, none⟩) (h.block o ho)]; exact s.o1⟩
  intro k hk
  rcases hk with hk | rfl
  · refine ⟨(row.lt k hk).2, ?_⟩
    rcases hf with rfl | hf
    · exact .inl (.inl hk)
    · exact .inr (hf k hk)
  · exact ⟨Nat.lt_of_lt_of_le ho h.size, .inl (.inr rfl)⟩
/-- a row of the answer's that holds one at least, and what is read of it. -/
theorem row_read {w : World} {base : Nat} {rv : Value} {R : List Rc} (r : w.ownsRow base 34 2 rv R.length (rflat R)) (h : R ≠ []) :
    ∃ g cap, rv = .slice (some ⟨g, 0, none⟩) R.length cap ∧ R.length ≤ cap ∧ ∀ i : Nat, i < R.length → w.cell? ⟨g, i * 2, none⟩ = some (.bool (rvl R i)) := by
  rcases rrow_slice r with ⟨_, h2⟩ | ⟨g, cap, e, hc, hall, _⟩
  · exact absurd h2 h
  · exact ⟨g, cap, e, hc, fun i hi => by rw [rvl_in hi]; exact (hall i hi).1⟩
theorem sit_rmake {w wr : World} {c rv : Value} {o : Nat} {kk nn : Int} {l : List Cl} {R : List Rc} (s : Sit w wr c rv o kk nn l R) (n : Int) (hl : R.length < 500000) :
    Calls Try.prog 10 #[rv, .int .i64 n] wr fun e w' => ∃ g cap, e = .returned (.slice (some ⟨g, 0, none⟩) (R.length + 1) cap) ∧ R.length + 1 ≤ cap ∧ Sit w w' c (.slice (some ⟨g, 0, none⟩) (R.length + 1) cap) o kk nn l (rmk R n) ∧ ∀ i : Nat, i < R.length + 1 → w'.cell? ⟨g, i * 2, none⟩ = some (.bool (rvl (rmk R n) i)) := by
  refine (rMake_calls wr w.heap.size rv R n s.row (by omega)).mono ?_
  rintro e w' ⟨v', rfl, h1, h2⟩
  have hlen : (rmk R n).length = R.length + 1 := by unfold rmk; simp
  have S2 := sit_fresh s h2 (own_mono s.bel.size h1) (.inr fun q hq => (h1.lt q hq).1)
  obtain ⟨g, cap, rfl, hc, hr⟩ := row_read h1 (by unfold rmk; simp)
  rw [hlen] at S2 hc hr ⊢
  exact ⟨g, cap, rfl, hc, S2, hr⟩
theorem sit_rbreak {w wr : World} {c rv : Value} {o : Nat} {kk nn : Int} {l : List Cl} {R : List Rc} (s : Sit w wr c rv o kk nn l R) (n : Int) (hl : R.length < 500000) (h0 : R ≠ []) :
    Calls Try.prog 11 #[rv, .int .i64 n] wr fun e w' => ∃ g cap, e = .returned (.tuple #[.slice (some ⟨g, 0, none⟩) R.length cap, .int .i64 (rbrk R n).2]) ∧ R.length ≤ cap ∧ Sit w w' c (.slice (some ⟨g, 0, none⟩) R.length cap) o kk nn l (rbrk R n).1 ∧ ∀ i : Nat, i < R.length → w'.cell? ⟨g, i * 2, none⟩ = some (.bool (rvl (rbrk R n).1 i)) := by
  refine (rBreak_calls wr w.heap.size rv R n s.row s.bel.size (by omega)).mono ?_
  rintro e w' ⟨v', rfl, h1, h2, h3⟩
  have hlen := rbrk_len R n
  have S2 := sit_fresh s h2 h1 h3
  obtain ⟨g, cap, rfl, hc, hr⟩ := row_read h1 (fun c => by rw [c] at hlen; simp at hlen; exact h0 (List.eq_nil_of_length_eq_zero hlen.symm))
  rw [hlen] at S2 hc hr
  rw [hlen]
  exact ⟨g, cap, rfl, hc, S2, hr⟩
theorem sit_rbreak0 {w wr : World} {c : Value} {o : Nat} {kk nn : Int} {l : List Cl} (s : Sit w wr c (.slice none 0 0) o kk nn l []) (n : Int) :
    Calls Try.prog 11 #[.slice none 0 0, .int .i64 n] wr fun e w' => e = .returned (.tuple #[.slice none 0 0, .int .i64 0]) ∧ Sit w w' c (.slice none 0 0) o kk nn l [] := by
  refine (rBreak_off wr (.slice none 0 0) 0 n (.inl ⟨rfl, rfl⟩)).mono ?_
  rintro e w' ⟨rfl, rfl⟩
  exact ⟨rfl, s⟩
theorem sit_read {w wr : World} {c : Value} {g m cap o : Nat} {kk nn : Int} {l : List Cl} {R : List Rc} (s : Sit w wr c (.slice (some ⟨g, 0, none⟩) m cap) o kk nn l R) (hm : R.length = m) (i : Nat) (hi : i < m) : wr.cell? ⟨g, i * 2, none⟩ = some (.bool (rvl R i)) := by
  have r := s.row
  rw [hm] at r
  have h := (rrow_at r hm i hi).1
  rw [h]
  unfold rvl
  rw [decide_eq_true (by omega), Int.toNat_natCast]; rfl
end Go.Proofs.Ytoicddafonpjhaa
