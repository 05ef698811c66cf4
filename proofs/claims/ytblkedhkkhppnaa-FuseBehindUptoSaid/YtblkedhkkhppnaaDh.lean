/- Fuse: Groups, walked. -/
import Derived.Test.YtblkedhkkhppnaaDg
import Derived.ScopeJumps
import Derived.WalkMore
import Derived.Deep.RegionHeld3
namespace Go.Proofs.Ytblkedhkkhppnaa
open Go.RowKit Go
set_option linter.unusedVariables false
set_option linter.unusedSimpArgs false
theorem wp_scope_again {P : Program} {a : Act} {w : World} {Q : Exit → Act → World → Prop} {c X : Code} (l : Nat) (J : Act → World → Prop) (μ : Act → World → Nat) (hf : findLabel c l = some (.seq .skip X))
    (pass : ∀ a w, J a w → X.wp P (Exit.jump l (fun a' w' => J a' w' ∧ μ a' w' < μ a w) Q) a w)
    (first : (∀ a w, J a w → X.wp P (Exit.jump l J Q) a w) → c.wp P (Exit.jump l J Q) a w) : (Code.scope c).wp P Q a w :=
  wp_scope_jumps l J μ hf (first fun a w h => wp_mono (pass a w h) fun e a' w' q => by
    cases e with
    | goto l' => exact ⟨q.1, q.2.1⟩
    | _ => exact q) fun a w h => wp_seq (wp_skip (pass a w h))
def intOf : Value → Int | .int _ q => q | _ => 0
theorem info32 : (Try.prog.info? 32).map (fun i => (i.zero, i.size, i.bytes)) = some (some (.agg #[.int .i64 0, .int .i64 0, .int .i64 0]), 3, 24) := by kernel_rfl
theorem Hd.eight {h : Hd} {w : World} {g : Nat} (b : Blk w g 27 h.b) : w.cell? ⟨g, 0, none⟩ = some (.string h.nm) ∧ w.cell? ⟨g, 1, none⟩ = some (.int .i64 h.pa) ∧ w.cell? ⟨g, 2, none⟩ = some (.int .i64 h.re) ∧ w.cell? ⟨g, 3, none⟩ = some (.bool h.ge) ∧
    w.cell? ⟨g, 4, none⟩ = some (.slice h.Ac h.nc h.cc) ∧ w.cell? ⟨g, 5, none⟩ = some (.slice h.Ak h.nk h.ck) ∧ w.cell? ⟨g, 6, none⟩ = some (.slice h.Ap h.np h.cp) ∧ w.cell? ⟨g, 7, none⟩ = some (.slice h.Ah h.nh h.ch) ∧ g < w.heap.size :=
  ⟨(b.cell 0).trans rfl, (b.cell 1).trans rfl, (b.cell 2).trans rfl, (b.cell 3).trans rfl, (b.cell 4).trans rfl, (b.cell 5).trans rfl, (b.cell 6).trans rfl, (b.cell 7).trans rfl, b.lt⟩
/-- a list of triples of the call's own. -/
structure Bag3 (w wr : World) (v : Value) (n : Nat) (l : List Tr) : Prop where
  bel : Below w.heap.size w wr
  own : wr.ownsRow w.heap.size 32 3 v n (tf l)
theorem Bag3.none_ (w : World) : Bag3 w w (.slice none 0 0) 0 [] := ⟨Below.refl _ _, World.ownsRow_nil _ _ _ _⟩
theorem Bag3.len {w wr : World} {v : Value} {n : Nat} {l : List Tr} (h : Bag3 w wr v n l) : l.length = n := by have := h.own.1; rw [tf_length] at this; omega
theorem Bag3.later {w wr w1 : World} {v : Value} {n : Nat} {l : List Tr} (h : Bag3 w wr v n l) (hb : Below wr.heap.size wr w1) : Bag3 w w1 v n l := ⟨below_via h.bel hb, own_below hb h.own⟩
theorem Bag3.grow {w wr w1 : World} {v v' : Value} {n : Nat} {l : List Tr} {e : Tr} (h : Bag3 w wr v n l) (hg : wr.grownBy w1 v.ownBlock) (ho : w1.ownsRow w.heap.size 32 3 v' (n + 1) (tf l ++ tf [e])) : Bag3 w w1 v' (n + 1) (l ++ [e]) :=
  ⟨h.bel.grown hg h.bel.size (fun k hk => (h.own.lt k hk).1), by rw [tf_append]; exact ho⟩
theorem Bag3.rd {w wr : World} {A : Option Addr} {n c : Nat} {l : List Tr} (h : Bag3 w wr (.slice A n c) n l) : Reads wr wr.heap.size 3 A n (tf l) := Reads.of_own h.own
theorem ef_take (M : List En) (i : Nat) : ef (M.take i) = (ef M).take (i * 4) := by
  induction M generalizing i with
  | nil => simp [ef]
  | cons y M ih => cases i with
    | zero => simp [ef]
    | succ i => rw [show (i + 1) * 4 = i * 4 + 1 + 1 + 1 + 1 by omega]; simp only [List.take_succ_cons, ef, ih]
theorem ef_drop (M : List En) (i : Nat) : ef (M.drop i) = (ef M).drop (i * 4) := by
  induction M generalizing i with
  | nil => simp [ef]
  | cons y M ih => cases i with
    | zero => simp [ef]
    | succ i => rw [show (i + 1) * 4 = i * 4 + 1 + 1 + 1 + 1 by omega]; simp only [List.drop_succ_cons, ef, ih]
theorem reads_sub {w : World} {B b off n k m : Nat} {C : List En} (h : Reads w B 4 (some ⟨b, off, none⟩) n (ef C)) (hk : k + m ≤ n) : Reads w B 4 (some ⟨b, off + k * 4, none⟩) m (ef ((C.drop k).take m)) := by
  have hl := reads_len h
  refine ⟨by rw [ef_length, List.length_take, List.length_drop]; have : min m (C.length - k) = m := by omega
             rw [this], fun hm => ?_⟩
  obtain ⟨ad, e, hb, hc⟩ := h.2 (by omega)
  cases e
  refine ⟨_, rfl, hb, fun j u hj => ?_⟩
  rw [ef_take, ef_drop] at hj
  have hjm : j < m * 4 := by
    have := (List.getElem?_eq_some_iff.1 hj).1
    rw [List.length_take] at this
    omega
  rw [List.getElem?_take_of_lt hjm, List.getElem?_drop] at hj
  have := hc _ u hj
  have e1 : (⟨b, off, none⟩ : Addr).add (k * 4 + j) = (⟨b, off + k * 4, none⟩ : Addr).add j := by
    unfold Addr.add
    by_cases h1 : k * 4 + j = 0
    · have : k * 4 = 0 := by omega
      have : j = 0 := by omega
      simp_all
    · by_cases h2 : j = 0
      · subst h2; simp at h1 ⊢
        by_cases h3 : k = 0 <;> simp_all
      · simp [h1, h2, Nat.add_assoc]
  rwa [e1] at this
theorem Reads_tr (w : World) (x y z : Int) : Reads (w.alloc (.cells #[.int .i64 x, .int .i64 y, .int .i64 z] 32)) (w.heap.size + 1) 3 (some ⟨w.heap.size, 0, none⟩) 1 (tf [⟨x, y, z⟩]) := by
  refine ⟨rfl, fun _ => ⟨_, rfl, by show w.heap.size < w.heap.size + 1; omega, fun j u hj => ?_⟩⟩
  have e1 : (⟨w.heap.size, 0, none⟩ : Addr).add j = ⟨w.heap.size, j, none⟩ := by unfold Addr.add; split <;> simp_all
  rw [e1]; refine ((Blk.new w 32 #[.int .i64 x, .int .i64 y, .int .i64 z]).cell j).trans ?_
  exact (List.getElem?_toArray ..).trans hj
theorem lastG {a b c d e f g h i : Prop} (x : a ∧ b ∧ c ∧ d ∧ e ∧ f ∧ g ∧ h ∧ i) : i := x.2.2.2.2.2.2.2.2
theorem keepG {w w' : World} {g : Nat} {v0 v1 v2 v3 v4 v5 v6 v7 : Value} (i0 : w.cell? ⟨g, 0, none⟩ = some v0) (i1 : w.cell? ⟨g, 1, none⟩ = some v1) (i2 : w.cell? ⟨g, 2, none⟩ = some v2) (i3 : w.cell? ⟨g, 3, none⟩ = some v3) (i4 : w.cell? ⟨g, 4, none⟩ = some v4) (i5 : w.cell? ⟨g, 5, none⟩ = some v5) (i6 : w.cell? ⟨g, 6, none⟩ = some v6) (i7 : w.cell? ⟨g, 7, none⟩ = some v7) (hl : g < w.heap.size) (b : Below w.heap.size w w') :
    w'.cell? ⟨g, 0, none⟩ = some v0 ∧ w'.cell? ⟨g, 1, none⟩ = some v1 ∧ w'.cell? ⟨g, 2, none⟩ = some v2 ∧ w'.cell? ⟨g, 3, none⟩ = some v3 ∧ w'.cell? ⟨g, 4, none⟩ = some v4 ∧ w'.cell? ⟨g, 5, none⟩ = some v5 ∧ w'.cell? ⟨g, 6, none⟩ = some v6 ∧ w'.cell? ⟨g, 7, none⟩ = some v7 ∧ Below w.heap.size w w' :=
  ⟨(b.cell (p := ⟨g, 0, none⟩) hl).trans i0, (b.cell (p := ⟨g, 1, none⟩) hl).trans i1, (b.cell (p := ⟨g, 2, none⟩) hl).trans i2, (b.cell (p := ⟨g, 3, none⟩) hl).trans i3, (b.cell (p := ⟨g, 4, none⟩) hl).trans i4, (b.cell (p := ⟨g, 5, none⟩) hl).trans i5, (b.cell (p := ⟨g, 6, none⟩) hl).trans i6, (b.cell (p := ⟨g, 7, none⟩) hl).trans i7, b⟩
set_option maxRecDepth 100000 in
set_option maxHeartbeats 8000000 in
theorem groups_calls (w : World) (h : Hd) (C : List En) (T : List Tr) (hi : h.Is w C T) (hcc : h.nc ≤ h.cc) (hmx : h.cc ≤ 9223372036854775807) :
    Calls Try.prog 7 #[h.v] w fun e w' => ∃ A n c, e = .returned (.slice A n c) ∧ Reads w' w'.heap.size 3 A n (tf (grps (has (jmp C ++ tgt T)) C)) ∧ Below w.heap.size w w' := by
  have hl := reads_len hi.code
  have hnc := hi.nc
  have hnh := hi.nh
  have B0 := below_new w (.cells h.b 27)
  have K1 := starts_calls (h.box w) h C T (hi.later B0)
  have hC := fun (wr : World) (b : Below (h.box w).heap.size (h.box w) wr) => h.cells b
  have HI := Lib.hid hi
  have HL := Lib.hid hl
  have c0 := h.all (Below.refl _ (h.box w))
  unfold Hd.box Hd.b Hd.v at K1
  unfold Hd.box Hd.b at c0
  replace K1 := Lib.hid K1
  replace hC := Lib.hid hC
  unfold Hd.v
  clear hi hl
  go_enter Try.func7, Try.ntmps7
  go_wp2
  refine wp_scope_again (c := ?cc) (X := ?XX) 0 (fun a' wr => ∃ (W1 : World) (k n : Nat) (A As : Option Addr) (c ns cs : Nat) (L : List Tr) (S : List Int) (u6 u7 u10 u11 u12 u13 u14 u15 u16 u17 u18 u19 u20 u21 u22 u23 u24 u25 u26 u27 u28 u29 u30 u31 u32 u33 u34 u35 u36 u37 : Value),
    a' = { tmps := #[h.v, .pointer (some ⟨w.heap.size, 0, none⟩), .slice none 0 0, .slice As ns cs, .slice A n c, .int .i64 k, u6, u7, h.v, .slice As ns cs, u10, u11, u12, u13, u14, u15, u16, u17, u18, u19, u20, u21, u22, u23, u24, u25, u26, u27, u28, u29, u30, u31, u32, u33, u34, u35, u36, u37], defers := [] } ∧ k ≤ h.nc ∧ n ≤ k ∧ Rising S ∧ (∀ y, y ∈ S ↔ y ∈ jmp C ∨ y ∈ tgt T) ∧ ns ≤ h.nc + h.nh ∧ (Reads W1 W1.heap.size 1 As ns (ints S) ∧ Below (h.box w).heap.size (h.box w) W1) ∧ Bag3 W1 wr (.slice A n c) n L ∧ L ++ grp (has (jmp C ++ tgt T)) C C.length k = grps (has (jmp C ++ tgt T)) C)
    (fun a' _ => h.nc - (intOf (a'.tmps.getD 5 undef)).toNat) ?hf ?pass ?first
  case hf => exact rfl
  case pass =>
    rintro a' wr ⟨W1, k, n, A, As, c, ns, cs, L, S, u6, u7, u10, u11, u12, u13, u14, u15, u16, u17, u18, u19, u20, u21, u22, u23, u24, u25, u26, u27, u28, u29, u30, u31, u32, u33, u34, u35, u36, u37, rfl, hk, hn, hr, hm, hns, ⟨hrd0, hW1⟩, hB, he⟩
    have HB := Lib.hid hB
    have HE := Lib.hid he
    have HM := Lib.hid hm
    have HR := Lib.hid hr
    have hrd := (hrd0.below hB.bel).more hB.bel.size
    have hbw := below_via hW1 hB.bel
    have HBW := Lib.hid hbw
    have HW1 := Lib.hid hW1
    have HRD := Lib.hid hrd0
    have hall := h.all hbw
    have HALL := Lib.hid hall
    obtain ⟨i0, i1, i2, i3, i4, i5, i6, i7, ilt⟩ := Hd.eight hall
    have hlen := hB.len
    unfold Hd.v
    by_cases hkn : k < h.nc
    · have hkn' : ¬ (h.nc : Int) ≤ k := by omega
      obtain ⟨x, hx⟩ : ∃ x, C[k]? = some x := ⟨_, List.getElem?_eq_getElem (by have := HL.out; omega)⟩
      obtain ⟨b, off, hA, hbl, _⟩ := reads_at ((HI.out.later (below_via B0 hbw)).code) hx
      obtain ⟨r1, r2, r3, r4⟩ := room_is (L := S) hkn hr
      have hgat := room_gat (L := S) (C := C) (k := k) (by have := HL.out; omega) hr
      rw [HL.out, has_eq (M := jmp C ++ tgt T) (fun y => by rw [List.mem_append]; exact hm y)] at hgat
      have KR := fun (w' : World) (b : Below wr.heap.size wr w') => room_calls w' h As ns cs S k ((hrd.below b).more b.size) (by omega) hr hkn (by omega)
      obtain ⟨rm, hrm⟩ : ∃ rm : Nat, room S h.nc k = rm := ⟨(room S h.nc k).toNat, by omega⟩
      rw [hrm] at r1 r2 hgat KR
      simp only [Int.toNat_natCast] at hgat
      unfold Hd.v at KR
      rw [hA] at KR i4
      rw [hA]
      have HA := Lib.hid hA
      have KP := fun (w' : World) (bb : Below wr.heap.size wr w') => pattern_calls w' (some ⟨b, off + k * 4, none⟩) (rm - k) (h.cc - k) _ (reads_sub (hA ▸ (((HI.out.later (below_via B0 hbw)).later bb).code)) (show k + (rm - k) ≤ h.nc by omega))
      rw [hgat] at KP
      replace KP := Lib.hid KP
      replace KR := Lib.hid KR
      have HG := Lib.hid hgat
      have r1' : k + 1 ≤ rm := by omega
      have r2' : rm ≤ h.nc := by omega
      have s0 : (0 : Int) ≤ k := by omega
      have s1 : (k : Int) ≤ rm := by omega
      have s2 : (rm : Int) ≤ h.cc := by omega
      have s3 : (0 : Int) ≤ rm := by omega
      have s4 : ¬ h.cc = k := by omega
      clear hB he hm hr hrd hrd0 hW1 hbw hall hx hA r3 r4 hrm hgat
      go_upto_region 6 with (fail)
      go_cut [6, 7] from 16 to 27 (fun s6 s7 wx => s6 = .int .i64 (gat (has (jmp C ++ tgt T)) C k).1 ∧ s7 = .int .i64 (gat (has (jmp C ++ tgt T)) C k).2 ∧ Below wr.heap.size wr wx)
      case first =>
        go_region_held3 (fun w' => w'.cell? ⟨w.heap.size, 0, none⟩ = some (.string h.nm) ∧ w'.cell? ⟨w.heap.size, 1, none⟩ = some (.int .i64 h.pa) ∧ w'.cell? ⟨w.heap.size, 2, none⟩ = some (.int .i64 h.re) ∧ w'.cell? ⟨w.heap.size, 3, none⟩ = some (.bool h.ge) ∧ w'.cell? ⟨w.heap.size, 4, none⟩ = some (.slice (some ⟨b, off, none⟩) h.nc h.cc) ∧ w'.cell? ⟨w.heap.size, 5, none⟩ = some (.slice h.Ak h.nk h.ck) ∧ w'.cell? ⟨w.heap.size, 6, none⟩ = some (.slice h.Ap h.np h.cp) ∧ w'.cell? ⟨w.heap.size, 7, none⟩ = some (.slice h.Ah h.nh h.ch) ∧ Below wr.heap.size wr w')
          (first | exact keepG i0 i1 i2 i3 i4 i5 i6 i7 ilt (Below.refl _ _) | exact keepG i0 i1 i2 i3 i4 i5 i6 i7 ilt (Below.refl _ _).drew | exact keepG i0 i1 i2 i3 i4 i5 i6 i7 ilt (below_via (lastG (by assumption)) hb6) | exact keepG i0 i1 i2 i3 i4 i5 i6 i7 ilt (below_via (lastG (by assumption)) hb7) | assumption)
          (first | (go_at_call 13; (with_reducible refine (KR.out _ (lastG (by assumption))).mono ?_); rintro e w6 ⟨rfl, hb6⟩) | (go_at_call 12; (with_reducible refine (KP.out _ (lastG (by assumption))).mono ?_); rintro e w7 ⟨rfl, hb7⟩))
        all_goals
          go_wp2
          go_meet
          exact ⟨rfl, rfl, lastG (by assumption)⟩
      case rest =>
        obtain ⟨rfl, rfl, hb7⟩ := hcut
        rename World => wd
        obtain ⟨g1, g2, g3⟩ := gat_bd (has (jmp C ++ tgt T)) C k (by have := HL.out; omega)
        have hst := grp_step (has (jmp C ++ tgt T)) C k (by have := HL.out; omega)
        have hsp := span_bd (has (jmp C ++ tgt T)) C.length k (by have := HL.out; omega)
        generalize hgg : gat (has (jmp C ++ tgt T)) C k = gg at *
        obtain ⟨q1, q2⟩ := gg
        simp only at g1 g2 g3 hst ⊢
        obtain ⟨q, rfl⟩ : ∃ q : Nat, q2 = q := ⟨q2.toNat, by omega⟩
        simp only [Int.toNat_natCast] at hst
        have hkq : k + q ≤ h.nc := by have := HL.out; omega
        have HB2 := Lib.hid (HB.out.later hb7)
        have ro := Lib.hid (own_below (below_new wd (.cells #[.int .i64 k, .int .i64 q, .int .i64 q1] 32)) HB2.out.own)
        have hE2 : (L ++ [⟨k, q, q1⟩]) ++ grp (has (jmp C ++ tgt T)) C C.length (k + q) = grps (has (jmp C ++ tgt T)) C := by rw [← HE.out, hst, List.append_assoc]; rfl
        have HE2 := Lib.hid hE2
        obtain ⟨j4, hj3, hj1, hj2, hj5⟩ := info_parts info32
        clear hst hsp hgg hb7 hE2 i0 i1 i2 i3 i4 i5 i6 i7
        go_wp2_with (first | (at_builtin; (refine wpList_append_any _ rfl (.tmp 28) (.tmp 33) 28 rfl _ 32 j4 _ 3 24 Try.underlying28 hj3 hj1 hj2 hj5 rfl (by decide) _ _ _ rfl ro.out _ _ 1 1 (tf [⟨k, q, q1⟩]) rfl (Reads_tr wd k q q1) (tf_one _) (by unfold maxLen; omega) (by omega) (by have := HB2.out.bel.size; exact le_alloc this _) ?_; intro v1 w1 hown hgrow _; have M1 := Lib.hid ((HB2.out.later (below_new _ _)).grow hgrow hown); obtain ⟨A1, cc1, rfl, _⟩ := own_slice hown; clear hown hgrow)))
        go_step3
        rw [← Int.natCast_add]
        refine ⟨rfl, ⟨W1, k + q, n + 1, A1, As, cc1, ns, cs, _, S, _, _, _, _, _, _, _, _, _, _, _, _, _, _, _, _, _, _, _, _, _, _, _, _, _, _, _, _, _, _, rfl, hkq, by omega, HR.out, HM.out, hns, ⟨HRD.out, HW1.out⟩, M1.out, HE2.out⟩, ?_⟩
        show h.nc - (k + q) < h.nc - k
        omega
    · have e : k = h.nc := by omega
      have hkn' : (h.nc : Int) ≤ k := by omega
      have hend := grp_end (has (jmp C ++ tgt T)) C k (by have := HL.out; omega)
      rw [hend, List.append_nil] at he
      replace HE := Lib.hid he
      clear hB he hm hr hrd hrd0 hW1 hbw hend hall
      go_wp2
      simp only [Exit.jump]
      go_ret
      exact ⟨A, n, c, rfl, by rw [← HE.out]; exact HB.out.rd, below_via B0 HBW.out⟩
  case first =>
    intro H
    replace H := Lib.hid H
    go_wp2_with (first | (go_at_call 11; (with_reducible refine K1.out.mono ?_); rintro r w1 ⟨As, ns, cs, S, rfl, hrd, ⟨hr, hm⟩, hns, hb1⟩))
    go_step3
    rename_i K hK
    refine hK _ _ (H.out _ _ ⟨w1, 0, 0, none, As, 0, ns, cs, [], S, _, _, _, _, _, _, _, _, _, _, _, _, _, _, _, _, _, _, _, _, _, _, _, _, _, _, _, _, _, _, rfl, by omega, by omega, hr, hm, hns, ⟨hrd, hb1⟩, Bag3.none_ w1, rfl⟩)
end Go.Proofs.Ytblkedhkkhppnaa
