/- Shapes: what a tree tells of a shape is what the document says. -/
import Derived.Test.YtchbgececcclgaaPo
namespace Go.Proofs.Ytchbgececcclgaa
open Go.RowKit Go
set_option linter.unusedVariables false
set_option linter.unusedSimpArgs false
def Opp.v (o : Opp) : Value := .agg #[.int .i64 o.kind, .int .i64 o.shape, .int .i64 o.flags, .int .u64 o.proto, .string o.key]
theorem Blk.five {w : World} {b : Nat} {t : TypeId} {x y z u v : Value} (h : Blk w b t #[x, y, z, u, v]) : w.cell? ⟨b, 0, none⟩ = some x ∧ w.cell? ⟨b, 1, none⟩ = some y ∧ w.cell? ⟨b, 2, none⟩ = some z ∧ w.cell? ⟨b, 3, none⟩ = some u ∧ w.cell? ⟨b, 4, none⟩ = some v := ⟨h.cell 0, h.cell 1, h.cell 2, h.cell 3, h.cell 4⟩
theorem fix_get1r {w : World} {B n : Nat} {A : Option Addr} {xs : List Value} (h : Reads w B 1 A n xs) {j : Nat} {u : Value} (hj : xs[j]? = some u) : ∃ b off, A = some ⟨b, off, none⟩ ∧ b < B ∧ w.cell? ⟨b, off + j, none⟩ = some u := by
  rw [← flt_id xs] at h
  obtain ⟨b, off, hA, hb, hc⟩ := reads_get (f := fun u : Value => [u]) (s := 1) (fun _ => rfl) (by decide) h hj
  have := hc 0 u rfl
  rw [Nat.mul_one, Nat.add_zero] at this
  exact ⟨b, off, hA, hb, this⟩
theorem keysP_none {L : List Sh} {n : Int} (h : getI L n = none) : keysP L n = [] := by unfold keysP; rw [h]
set_option maxRecDepth 100000 in
set_option maxHeartbeats 16000000 in
theorem told_calls (w : World) (B g : Nat) (most : Int) (A : Option Addr) (n c : Nat) (L : List Sh) (h : TreeIs w B g most L) (hr : RTree B w A n L) (hW : WF L) (o : Opp) (hb : L.length ≤ 1000000000000) :
    Calls Try.prog 22 #[.pointer (some ⟨g, 0, none⟩), .agg #[.int .i64 most, .slice A n c], o.v] w fun e w' => e = .returned (.bool true) ∧ Below w.heap.size w w' := by
  have hB := h.base
  have hlen := hr.len
  have FC := Lib.hid (fun W' (b : Below w.heap.size w W') => find_calls W' B g most L ((h.below b)) hW o.shape o.key hb)
  have AC := Lib.hid (fun W' (b : Below w.heap.size w W') => rat_calls W' B most A n c L (hr.keep (Kept.below b hB)) hW o.shape o.key (Nat.le_trans hB b.size) hb)
  have KC := Lib.hid (fun W' (b : Below w.heap.size w W') => keys_calls W' B g most L (h.below b) hW o.shape hb)
  have PC := Lib.hid (fun W' (b : Below w.heap.size w W') => proto_calls W' B g most L (h.below b) hW o.shape hb)
  have W1 := below_alloc (o := .cells #[.int .i64 most, .slice A n c] 32) (Below.refl w.heap.size w)
  have W2 := below_alloc (o := .cells #[.int .i64 o.kind, .int .i64 o.shape, .int .i64 o.flags, .int .u64 o.proto, .string o.key] 25) W1
  have b4 := (Blk.new w 32 #[.int .i64 most, .slice A n c]).alloc (.cells #[.int .i64 o.kind, .int .i64 o.shape, .int .i64 o.flags, .int .u64 o.proto, .string o.key] 25)
  have b5 := Blk.new (w.alloc (.cells #[.int .i64 most, .slice A n c] 32)) 25 #[.int .i64 o.kind, .int .i64 o.shape, .int .i64 o.flags, .int .u64 o.proto, .string o.key]
  rw [size_alloc] at b5
  have HW2 := Lib.hid W2
  have Hb4 := Lib.hid b4
  have Hb5 := Lib.hid b5
  obtain ⟨y0, y1, _, _⟩ := b4.two
  obtain ⟨z0, z1, z2, z3, z4⟩ := b5.five
  unfold Opp.v
  obtain ⟨kind, shape, flags, proto, key⟩ := o
  simp only at *
  cases e : getI L shape with
  | none =>
    have f1 : findP L shape key = (0, 0, false) := by unfold findP; rw [e]
    have f2 : atP L shape key = -1 := by unfold atP; rw [e]
    have f3 := keysP_none e
    have f4 : protoP L shape = (0, false) := by unfold protoP; rw [e]
    rw [f1] at FC
    rw [f2] at AC
    rw [f3] at KC
    rw [f4] at PC
    have hout := getI_none e
    rw [← hlen] at hout
    clear h hr hW hb hB hlen W1 W2 b4 b5 e f1 f2 f3 f4
    have hout' : ¬ shape < 0 → (n : Int) ≤ shape := by omega
    by_cases h0 : shape < 0
    · clear hout hout'
      go_enter Try.func22, Try.ntmps22
      go_wp2_with (first | (go_at_call 13; (with_reducible refine (FC.out _ HW2.out).mono ?_); rintro e w1 ⟨rfl, hb1⟩; obtain ⟨y0, y1, _, _⟩ := (Hb4.out.below hb1 Hb4.out.lt).two; obtain ⟨z0, z1, z2, z3, z4⟩ := (Hb5.out.below hb1 Hb5.out.lt).five; have B1 := Lib.hid (HW2.out.trans (hb1.mono HW2.out.size)); have K4 := Lib.hid (Hb4.out.below hb1 Hb4.out.lt); have K5 := Lib.hid (Hb5.out.below hb1 Hb5.out.lt); clear hb1) |
        (go_at_call 29; (with_reducible refine (AC.out _ B1.out).mono ?_); rintro e w2 ⟨rfl, hb2⟩; obtain ⟨y0, y1, _, _⟩ := (K4.out.below hb2 K4.out.lt).two; obtain ⟨z0, z1, z2, z3, z4⟩ := (K5.out.below hb2 K5.out.lt).five; have B2 := Lib.hid (B1.out.trans (hb2.mono B1.out.size)); have K4' := Lib.hid (K4.out.below hb2 K4.out.lt); have K5' := Lib.hid (K5.out.below hb2 K5.out.lt); clear hb2) |
        (go_at_call 12; (with_reducible refine (KC.out _ B2.out).mono ?_); rintro e w3 ⟨A3, c3, rfl, ho3, hb3⟩; obtain ⟨y0, y1, _, _⟩ := (K4'.out.below hb3 K4'.out.lt).two; obtain ⟨z0, z1, z2, z3, z4⟩ := (K5'.out.below hb3 K5'.out.lt).five; have B3 := Lib.hid (B2.out.trans (hb3.mono B2.out.size)); clear hb3 ho3) |
        (go_at_call 14; (with_reducible refine (PC.out _ B3.out).mono ?_); rintro e w4 ⟨rfl, rfl⟩))
      go_ret
      exact ⟨rfl, B3.out⟩
    · have h1 := hout' h0
      clear hout hout'
      go_enter Try.func22, Try.ntmps22
      go_wp2_with (first | (go_at_call 13; (with_reducible refine (FC.out _ HW2.out).mono ?_); rintro e w1 ⟨rfl, hb1⟩; obtain ⟨y0, y1, _, _⟩ := (Hb4.out.below hb1 Hb4.out.lt).two; obtain ⟨z0, z1, z2, z3, z4⟩ := (Hb5.out.below hb1 Hb5.out.lt).five; have B1 := Lib.hid (HW2.out.trans (hb1.mono HW2.out.size)); have K4 := Lib.hid (Hb4.out.below hb1 Hb4.out.lt); have K5 := Lib.hid (Hb5.out.below hb1 Hb5.out.lt); clear hb1) |
        (go_at_call 29; (with_reducible refine (AC.out _ B1.out).mono ?_); rintro e w2 ⟨rfl, hb2⟩; obtain ⟨y0, y1, _, _⟩ := (K4.out.below hb2 K4.out.lt).two; obtain ⟨z0, z1, z2, z3, z4⟩ := (K5.out.below hb2 K5.out.lt).five; have B2 := Lib.hid (B1.out.trans (hb2.mono B1.out.size)); have K4' := Lib.hid (K4.out.below hb2 K4.out.lt); have K5' := Lib.hid (K5.out.below hb2 K5.out.lt); clear hb2) |
        (go_at_call 12; (with_reducible refine (KC.out _ B2.out).mono ?_); rintro e w3 ⟨A3, c3, rfl, ho3, hb3⟩; obtain ⟨y0, y1, _, _⟩ := (K4'.out.below hb3 K4'.out.lt).two; obtain ⟨z0, z1, z2, z3, z4⟩ := (K5'.out.below hb3 K5'.out.lt).five; have B3 := Lib.hid (B2.out.trans (hb3.mono B2.out.size)); clear hb3 ho3) |
        (go_at_call 14; (with_reducible refine (PC.out _ B3.out).mono ?_); rintro e w4 ⟨rfl, rfl⟩))
      go_ret
      exact ⟨rfl, B3.out⟩
  | some x =>
    obtain ⟨h0, hx, hlt⟩ := getI_some e
    obtain ⟨j, rfl⟩ : ∃ j : Nat, shape = j := ⟨shape.toNat, by omega⟩
    simp only [Int.toNat_natCast] at hx
    have hjn : (j : Int) < (n : Int) := by rw [hlen]; exact hlt
    have hjn' : ¬ (n : Int) ≤ (j : Int) := by omega
    have hz0 : decide ((j : Int) < 0) = false := decide_eq_false (by omega)
    have hz1 : decide (n ≤ j) = false := decide_eq_false (by omega)
    obtain ⟨d, b, off, rfl, hd, rfl, hbl, e0, e1, e2, e3⟩ := hr.at_ hx
    have f3 : keysP L j = d.x.l := by unfold keysP; rw [e]
    have f4 : protoP L j = (d.x.p, true) := by unfold protoP; rw [e]
    rw [f3] at KC
    rw [f4] at PC
    have hdep := (hW.depth j _ hx).1
    rw [hd.p] at e0
    have hnk := hd.nk
    have hnf := hd.nf
    obtain ⟨m, hm⟩ : ∃ m, d.x.l.length = m := ⟨_, rfl⟩
    rw [hm] at KC hnk hnf
    rw [hnk] at e1
    have CE := Lib.hid (fun (w1 : World) (bb : Below w.heap.size w w1) => show w1.cell? ⟨b, off + j * 4, none⟩ = some (.int .u64 d.x.p) ∧ w1.cell? ⟨b, off + j * 4 + 1, none⟩ = some (.slice d.Ak m d.ck) ∧ w1.cell? ⟨b, off + j * 4 + 2, none⟩ = some (.slice d.Af d.nf d.cf) ∧ w1.cell? ⟨b, off + j * 4 + 3, none⟩ = some (.slice d.As d.ns d.cz) from
      ⟨(bb.cell (p := ⟨b, off + j * 4, none⟩) hbl).trans e0, (bb.cell (p := ⟨b, off + j * 4 + 1, none⟩) hbl).trans e1, (bb.cell (p := ⟨b, off + j * 4 + 2, none⟩) hbl).trans e2, (bb.cell (p := ⟨b, off + j * 4 + 3, none⟩) hbl).trans e3⟩)
    have hms : m ≤ 1000000000000 := by omega
    have Hd := Lib.hid hd
    have HM := Lib.hid hm
    have HNk := Lib.hid hnk
    have HB := Lib.hid hB
    rcases plc_case key d.x.l with hp | ⟨jj, q, hp, hq, hk, hfl⟩
    · have f1 : findP L j key = (0, 0, false) := by unfold findP; rw [e]; simp only; rw [hp, if_pos (by omega)]
      have f2 : atP L j key = -1 := by unfold atP; rw [e]; exact hp
      rw [f1] at FC
      rw [f2] at AC
      clear h hr hW hb hB hlen W1 W2 b4 b5 e f1 f2 f3 f4 h0 hx hlt e0 e1 e2 e3 hbl hdep hnk hnf hm hd hp
      go_enter Try.func22, Try.ntmps22
      go_wp2_with (first | (go_at_call 13; (with_reducible refine (FC.out _ HW2.out).mono ?_); rintro e w1 ⟨rfl, hb1⟩; obtain ⟨y0, y1, _, _⟩ := (Hb4.out.below hb1 Hb4.out.lt).two; obtain ⟨z0, z1, z2, z3, z4⟩ := (Hb5.out.below hb1 Hb5.out.lt).five; have B1 := Lib.hid (HW2.out.trans (hb1.mono HW2.out.size)); have K4 := Lib.hid (Hb4.out.below hb1 Hb4.out.lt); have K5 := Lib.hid (Hb5.out.below hb1 Hb5.out.lt); clear hb1) |
        (go_at_call 29; (with_reducible refine (AC.out _ B1.out).mono ?_); rintro e w2 ⟨rfl, hb2⟩; obtain ⟨y0, y1, _, _⟩ := (K4.out.below hb2 K4.out.lt).two; obtain ⟨z0, z1, z2, z3, z4⟩ := (K5.out.below hb2 K5.out.lt).five; have B2 := Lib.hid (B1.out.trans (hb2.mono B1.out.size)); have K4' := Lib.hid (K4.out.below hb2 K4.out.lt); have K5' := Lib.hid (K5.out.below hb2 K5.out.lt); clear hb2) |
        (go_at_call 12; (with_reducible refine (KC.out _ B2.out).mono ?_); rintro e w3 ⟨A3, c3, rfl, ho3, hb3⟩; obtain ⟨y0, y1, _, _⟩ := (K4'.out.below hb3 K4'.out.lt).two; obtain ⟨z0, z1, z2, z3, z4⟩ := (K5'.out.below hb3 K5'.out.lt).five; have B3 := Lib.hid (B2.out.trans (hb3.mono B2.out.size)); have ho3 := Lib.hid ho3; clear hb3) |
        (go_at_call 14; (with_reducible refine (PC.out _ B3.out).mono ?_); rintro e w4 ⟨rfl, rfl⟩; obtain ⟨s0, s1, s2, s3⟩ := CE.out _ B3.out))
      have bx := Blk.new w3 76 #[.int .u64 d.x.p, .slice d.Ak m d.ck, .slice d.Af d.nf d.cf, .slice d.As d.ns d.cz]
      have bW := below_alloc (o := .cells #[.int .u64 d.x.p, .slice d.Ak m d.ck, .slice d.Af d.nf d.cf, .slice d.As d.ns d.cz] 76) B3.out
      have ho4 := Lib.hid (own_below ((Below.refl w3.heap.size w3).alloc (Nat.le_refl _) (.cells #[.int .u64 d.x.p, .slice d.Ak m d.ck, .slice d.Af d.nf d.cf, .slice d.As d.ns d.cz] 76)) ho3.out)
      have HK4 := Lib.hid (Hd.out.k.keep (Kept.below bW HB.out)).1
      clear FC AC KC PC CE HW2 Hb4 Hb5 K4 K5 K4' K5' s0 s1 s2 s3 y0 y1 z0 z1 z2 z3 z4 ho3 B1 B2
      generalize w3.heap.size = b15 at bx ⊢
      generalize w3.alloc (.cells #[.int .u64 d.x.p, .slice d.Ak m d.ck, .slice d.Af d.nf d.cf, .slice d.As d.ns d.cz] 76) = W4 at bx bW ho4 HK4 ⊢
      have HbW := Lib.hid bW
      have Hbx := Lib.hid bx
      clear bW bx
      go_loopg [117] m (fun fu ix wr => ∃ k : Nat, ix = .int .i64 k ∧ k + fu = m ∧ Below W4.heap.size W4 wr)
      case atStart => exact ⟨0, rfl, by omega, Below.refl _ _⟩
      case round =>
        obtain ⟨k, rfl, hf, hbel⟩ := hrel
        have HBel := Lib.hid hbel
        by_cases hk : k < m
        · obtain ⟨q, hq⟩ : ∃ q, d.x.l[k]? = some q := ⟨_, List.getElem?_eq_getElem (by have := HM.out; omega)⟩
          have hkq : (keysV d.x.l)[k]? = some (.string q.k) := by unfold keysV; rw [List.getElem?_map, hq]; rfl
          obtain ⟨g3, c3', hA3, _, _⟩ := ho4.out.form (by omega)
          injection hA3 with hA3 _ hc3
          subst hA3
          have k3 := own_cell1 ho4.out hkq
          have k3' : wr.cell? ⟨g3, k, none⟩ = _ := (hbel.cell (p := ⟨g3, k, none⟩) (ho4.out.lt g3 rfl).2).trans k3
          obtain ⟨bk, offk, hAk, hbk, hkc⟩ := fix_get1r HK4.out hkq
          have kc' : wr.cell? ⟨bk, offk + k, none⟩ = _ := (hbel.cell (p := ⟨bk, offk + k, none⟩) hbk).trans hkc
          obtain ⟨_, v1, _, _⟩ := (Hbx.out.below hbel Hbx.out.lt).four
          rw [hAk] at v1
          have hs : (q.k.toList == q.k.toList) = true := by simp
          have hk' : (k : Int) < (m : Int) := by omega
          obtain ⟨f', hf'⟩ : ∃ f', gk = f' + 1 := ⟨gk - 1, by omega⟩
          have HF := Lib.hid hf
          have HF' := Lib.hid hf'
          clear hf hf' hbel hq hkq k3 hAk hbk hkc hc3
          go_wp2
          go_quiet (fail)
          go_wp2
          go_roundg f'
          case measure => have := HF'.out; omega
          case rel => exact ⟨k + 1, by simp, by have := HF'.out; have := HF.out; omega, below_drewN2 HBel.out _⟩
        · have hk' : ¬ (k : Int) < (m : Int) := by omega
          clear hf hbel
          go_wp2
          go_ret
          exact ⟨rfl, HbW.out.trans (HBel.out.mono HbW.out.size)⟩
    · have f1 : findP L j key = ((jj : Int), q.f, true) := by unfold findP; rw [e]; simp only; rw [hfl, hp, if_neg (by omega)]
      have f2 : atP L j key = (jj : Int) := by unfold atP; rw [e]; exact hp
      rw [f1] at FC
      rw [f2] at AC
      have hfq : (flagsV d.x.l)[jj]? = some (.int .i64 q.f) := by unfold flagsV; rw [List.getElem?_map, hq]; rfl
      obtain ⟨bf, off2, hAf, hbf, hfc⟩ := fix_get1 hd.f hfq
      have hjf : (jj : Int) < (d.nf : Int) := by have := (List.getElem?_eq_some_iff.1 hq).1; omega
      have hj0 : ¬ ((jj : Int) < 0) := by omega
      have FF := Lib.hid (fun (w1 : World) (bb : Below w.heap.size w w1) => show w1.cell? ⟨b, off + j * 4 + 2, none⟩ = some (.slice (some ⟨bf, off2, none⟩) d.nf d.cf) ∧ w1.cell? ⟨bf, off2 + jj, none⟩ = some (.int .i64 q.f) from
        ⟨(bb.cell (p := ⟨b, off + j * 4 + 2, none⟩) hbl).trans (hAf ▸ e2), (bb.cell (p := ⟨bf, off2 + jj, none⟩) hbf).trans hfc⟩)
      clear h hr hW hb hB hlen W1 W2 b4 b5 e f1 f2 f3 f4 h0 hx hlt e0 e1 e2 e3 hbl hdep hnk hnf hm hd hp hq hk hfl hfq hAf hbf hfc
      go_enter Try.func22, Try.ntmps22
      go_wp2_with (first | (go_at_call 13; (with_reducible refine (FC.out _ HW2.out).mono ?_); rintro e w1 ⟨rfl, hb1⟩; obtain ⟨y0, y1, _, _⟩ := (Hb4.out.below hb1 Hb4.out.lt).two; obtain ⟨z0, z1, z2, z3, z4⟩ := (Hb5.out.below hb1 Hb5.out.lt).five; have B1 := Lib.hid (HW2.out.trans (hb1.mono HW2.out.size)); have K4 := Lib.hid (Hb4.out.below hb1 Hb4.out.lt); have K5 := Lib.hid (Hb5.out.below hb1 Hb5.out.lt); clear hb1) |
        (go_at_call 29; (with_reducible refine (AC.out _ B1.out).mono ?_); rintro e w2 ⟨rfl, hb2⟩; obtain ⟨y0, y1, _, _⟩ := (K4.out.below hb2 K4.out.lt).two; obtain ⟨z0, z1, z2, z3, z4⟩ := (K5.out.below hb2 K5.out.lt).five; have B2 := Lib.hid (B1.out.trans (hb2.mono B1.out.size)); have K4' := Lib.hid (K4.out.below hb2 K4.out.lt); have K5' := Lib.hid (K5.out.below hb2 K5.out.lt); obtain ⟨v0, v1⟩ := FF.out _ B2.out; clear hb2) |
        (go_at_call 12; (with_reducible refine (KC.out _ B2.out).mono ?_); rintro e w3 ⟨A3, c3, rfl, ho3, hb3⟩; obtain ⟨y0, y1, _, _⟩ := (K4'.out.below hb3 K4'.out.lt).two; obtain ⟨z0, z1, z2, z3, z4⟩ := (K5'.out.below hb3 K5'.out.lt).five; clear v0 v1; have B3 := Lib.hid (B2.out.trans (hb3.mono B2.out.size)); have ho3 := Lib.hid ho3; clear hb3) |
        (go_at_call 14; (with_reducible refine (PC.out _ B3.out).mono ?_); rintro e w4 ⟨rfl, rfl⟩; obtain ⟨s0, s1, s2, s3⟩ := CE.out _ B3.out))
      clear FF
      have bx := Blk.new w3 76 #[.int .u64 d.x.p, .slice d.Ak m d.ck, .slice d.Af d.nf d.cf, .slice d.As d.ns d.cz]
      have bW := below_alloc (o := .cells #[.int .u64 d.x.p, .slice d.Ak m d.ck, .slice d.Af d.nf d.cf, .slice d.As d.ns d.cz] 76) B3.out
      have ho4 := Lib.hid (own_below ((Below.refl w3.heap.size w3).alloc (Nat.le_refl _) (.cells #[.int .u64 d.x.p, .slice d.Ak m d.ck, .slice d.Af d.nf d.cf, .slice d.As d.ns d.cz] 76)) ho3.out)
      have HK4 := Lib.hid (Hd.out.k.keep (Kept.below bW HB.out)).1
      clear FC AC KC PC CE HW2 Hb4 Hb5 K4 K5 K4' K5' s0 s1 s2 s3 y0 y1 z0 z1 z2 z3 z4 ho3 B1 B2
      generalize w3.heap.size = b15 at bx ⊢
      generalize w3.alloc (.cells #[.int .u64 d.x.p, .slice d.Ak m d.ck, .slice d.Af d.nf d.cf, .slice d.As d.ns d.cz] 76) = W4 at bx bW ho4 HK4 ⊢
      have HbW := Lib.hid bW
      have Hbx := Lib.hid bx
      clear bW bx
      go_loopg [117] m (fun fu ix wr => ∃ k : Nat, ix = .int .i64 k ∧ k + fu = m ∧ Below W4.heap.size W4 wr)
      case atStart => exact ⟨0, rfl, by omega, Below.refl _ _⟩
      case round =>
        obtain ⟨k, rfl, hf, hbel⟩ := hrel
        have HBel := Lib.hid hbel
        by_cases hk : k < m
        · obtain ⟨q, hq⟩ : ∃ q, d.x.l[k]? = some q := ⟨_, List.getElem?_eq_getElem (by have := HM.out; omega)⟩
          have hkq : (keysV d.x.l)[k]? = some (.string q.k) := by unfold keysV; rw [List.getElem?_map, hq]; rfl
          obtain ⟨g3, c3', hA3, _, _⟩ := ho4.out.form (by omega)
          injection hA3 with hA3 _ hc3
          subst hA3
          have k3 := own_cell1 ho4.out hkq
          have k3' : wr.cell? ⟨g3, k, none⟩ = _ := (hbel.cell (p := ⟨g3, k, none⟩) (ho4.out.lt g3 rfl).2).trans k3
          obtain ⟨bk, offk, hAk, hbk, hkc⟩ := fix_get1r HK4.out hkq
          have kc' : wr.cell? ⟨bk, offk + k, none⟩ = _ := (hbel.cell (p := ⟨bk, offk + k, none⟩) hbk).trans hkc
          obtain ⟨_, v1, _, _⟩ := (Hbx.out.below hbel Hbx.out.lt).four
          rw [hAk] at v1
          have hs : (q.k.toList == q.k.toList) = true := by simp
          have hk' : (k : Int) < (m : Int) := by omega
          obtain ⟨f', hf'⟩ : ∃ f', gk = f' + 1 := ⟨gk - 1, by omega⟩
          have HF := Lib.hid hf
          have HF' := Lib.hid hf'
          clear hf hf' hbel hq hkq k3 hAk hbk hkc hc3
          go_wp2
          go_quiet (fail)
          go_wp2
          go_roundg f'
          case measure => have := HF'.out; omega
          case rel => exact ⟨k + 1, by simp, by have := HF'.out; have := HF.out; omega, below_drewN2 HBel.out _⟩
        · have hk' : ¬ (k : Int) < (m : Int) := by omega
          clear hf hbel
          go_wp2
          go_ret
          exact ⟨rfl, HbW.out.trans (HBel.out.mono HbW.out.size)⟩
end Go.Proofs.Ytchbgececcclgaa
