/- Shapes: the document's laying of a shape walked. -/
import Derived.Test.YtchbgececcclgaaPj
namespace Go.Proofs.Ytchbgececcclgaa
open Go.RowKit Go
set_option linter.unusedVariables false
set_option linter.unusedSimpArgs false
/-- a shape as it lies in the document's row. -/
structure Rd where
  p : Int
  Ak : Option Addr
  nk : Nat
  ck : Nat
  Af : Option Addr
  nf : Nat
  cf : Nat
  As : Option Addr
  ns : Nat
  cz : Nat
  x : Sh
def Rd.cs (d : Rd) : List Value := [.int .u64 d.p, .slice d.Ak d.nk d.ck, .slice d.Af d.nf d.cf, .slice d.As d.ns d.cz]
theorem Rd.cs_len (d : Rd) : d.cs.length = 4 := rfl
theorem Rd.cs_one (d : Rd) : ∀ u ∈ d.cs, u.oneCell' = true := by
  intro u hu
  simp only [Rd.cs, List.mem_cons, List.not_mem_nil, or_false] at hu
  rcases hu with rfl | rfl | rfl | rfl <;> rfl
def flagsV (l : List Pr) : List Value := l.map fun q => .int .i64 q.f
structure RdIs (B : Nat) (w : World) (d : Rd) : Prop where
  k : Fix B w 1 d.Ak d.nk (keysV d.x.l)
  f : Fix B w 1 d.Af d.nf (flagsV d.x.l)
  s : Fix B w 3 d.As d.ns (d.x.s.flatMap stv)
  p : d.p = d.x.p
theorem RdIs.keep3 {B : Nat} {w w' : World} {d : Rd} (h : RdIs B w d) (k : Kept3 B w w') : RdIs B w' d := ⟨h.k.keep3 k, h.f.keep3 k, h.s.keep3 k, h.p⟩
theorem RdIs.keep {B : Nat} {w w' : World} {d : Rd} (h : RdIs B w d) (k : Kept B w w') : RdIs B w' d := ⟨h.k.keep k, h.f.keep k, h.s.keep k, h.p⟩
theorem RdIs.nk {B : Nat} {w : World} {d : Rd} (h : RdIs B w d) : d.nk = d.x.l.length := by
  have := h.k.1.1; simp [keysV] at this; exact this.symm
theorem RdIs.nf {B : Nat} {w : World} {d : Rd} (h : RdIs B w d) : d.nf = d.x.l.length := by
  have := h.f.1.1; simp [flagsV] at this; exact this.symm
theorem RdIs.ns {B : Nat} {w : World} {d : Rd} (h : RdIs B w d) : d.ns = d.x.s.length := (reads_len stv_len (by decide) h.s.1).symm
def RTree (B : Nat) (w : World) (A : Option Addr) (n : Nat) (L : List Sh) : Prop := ∃ E : List Rd, Fix B w 4 A n (E.flatMap Rd.cs) ∧ (∀ d ∈ E, RdIs B w d) ∧ E.map (·.x) = L
theorem RTree.keep3 {B : Nat} {w w' : World} {A : Option Addr} {n : Nat} {L : List Sh} (h : RTree B w A n L) (k : Kept3 B w w') : RTree B w' A n L := by
  obtain ⟨E, h1, h2, h3⟩ := h
  exact ⟨E, h1.keep3 k, fun d hd => (h2 d hd).keep3 k, h3⟩
theorem RTree.keep {B : Nat} {w w' : World} {A : Option Addr} {n : Nat} {L : List Sh} (h : RTree B w A n L) (k : Kept B w w') : RTree B w' A n L := by
  obtain ⟨E, h1, h2, h3⟩ := h
  exact ⟨E, h1.keep k, fun d hd => (h2 d hd).keep k, h3⟩
theorem RTree.len {B : Nat} {w : World} {A : Option Addr} {n : Nat} {L : List Sh} (h : RTree B w A n L) : n = L.length := by
  obtain ⟨E, h1, h2, rfl⟩ := h
  rw [List.length_map]
  exact (reads_len Rd.cs_len (by decide) h1.1).symm
theorem RTree.at_ {B : Nat} {w : World} {A : Option Addr} {n : Nat} {L : List Sh} (h : RTree B w A n L) {i : Nat} {x : Sh} (hx : L[i]? = some x) : ∃ (d : Rd) (b off : Nat), d.x = x ∧ RdIs B w d ∧ A = some ⟨b, off, none⟩ ∧ b < w.heap.size ∧ w.cell? ⟨b, off + i * 4, none⟩ = some (.int .u64 d.p) ∧ w.cell? ⟨b, off + i * 4 + 1, none⟩ = some (.slice d.Ak d.nk d.ck) ∧ w.cell? ⟨b, off + i * 4 + 2, none⟩ = some (.slice d.Af d.nf d.cf) ∧ w.cell? ⟨b, off + i * 4 + 3, none⟩ = some (.slice d.As d.ns d.cz) := by
  obtain ⟨E, h1, h2, rfl⟩ := h
  rw [List.getElem?_map] at hx
  cases hd : E[i]? with
  | none => rw [hd] at hx; cases hx
  | some d =>
    rw [hd] at hx
    obtain ⟨b, off, hA, hb, hc⟩ := reads_get Rd.cs_len (by decide) h1.1 hd
    exact ⟨d, b, off, by simpa using hx, h2 d (List.mem_of_getElem? hd), hA, hb, hc 0 _ rfl, hc 1 _ rfl, hc 2 _ rfl, hc 3 _ rfl⟩
theorem RTree.nil (B : Nat) (w : World) : RTree B w none 0 [] := ⟨[], Fix.none_ _ _ _, by simp, rfl⟩
def RGives (w : World) (B : Nat) (most : Int) (r : Res) (e : Ending) (w' : World) : Prop := ∃ A n c, e = .returned (.tuple #[.agg #[.int .i64 most, .slice A n c], .int .i64 r.2.1, .bool r.2.2]) ∧ RTree B w' A n r.1 ∧ Below w.heap.size w w'
theorem reads_blkS {w : World} {b s : Nat} {t : TypeId} {l : List Value} (h : Blk w b t l.toArray) (hs : l.length = s) : Reads w w.heap.size s (some ⟨b, 0, none⟩) 1 l := by
  refine ⟨by omega, fun _ => ⟨_, rfl, h.lt, fun j u hj => ?_⟩⟩
  have e : (⟨b, 0, none⟩ : Addr).add j = ⟨b, j, none⟩ := by unfold Addr.add; split <;> simp_all
  rw [e, h.cell j]
  simpa using hj
theorem Blk.two {w : World} {b : Nat} {t : TypeId} {x y : Value} (h : Blk w b t #[x, y]) : w.cell? ⟨b, 0, none⟩ = some x ∧ w.cell? ⟨b, 1, none⟩ = some y ∧ w.frozen? ⟨b, 0, none⟩ = false ∧ w.frozen? ⟨b, 1, none⟩ = false := ⟨h.cell 0, h.cell 1, h.frozen 0, h.frozen 1⟩
theorem Blk.four {w : World} {b : Nat} {t : TypeId} {x y z u : Value} (h : Blk w b t #[x, y, z, u]) : w.cell? ⟨b, 0, none⟩ = some x ∧ w.cell? ⟨b, 1, none⟩ = some y ∧ w.cell? ⟨b, 2, none⟩ = some z ∧ w.cell? ⟨b, 3, none⟩ = some u := ⟨h.cell 0, h.cell 1, h.cell 2, h.cell 3⟩
theorem below_drewN2 {B : Nat} {a w : World} (h : Below B a w) (n : Nat) : Below B a (w.drewN n) := ⟨h.os, h.tape, h.output, h.size, h.block⟩
theorem below_set2 {w w1 : World} {b i : Nat} {u : Value} (h : Below w.heap.size w w1) (hb : w.heap.size ≤ b) : Below w.heap.size w (w1.setCell ⟨b, i, none⟩ u) := h.setCell (p := ⟨b, i, none⟩) hb u
theorem below_drew2 {w w1 : World} (h : Below w.heap.size w w1) : Below w.heap.size w w1.drew := h.drew
theorem layP_found {most : Int} {L : List Sh} {s : Sh} {k : Nat} (h : fnd s.s s.p 0 L = some k) : layP most L s = (L, (k : Int), true) := by unfold layP; rw [h]
theorem layP_full {most : Int} {L : List Sh} {s : Sh} (h : fnd s.s s.p 0 L = none) (hm : most ≤ (L.length : Int)) : layP most L s = (L, 0, false) := by unfold layP; rw [h]; simp only; rw [if_pos hm]
theorem layP_more {most : Int} {L : List Sh} {s : Sh} (h : fnd s.s s.p 0 L = none) (hm : ¬ most ≤ (L.length : Int)) : layP most L s = (L ++ [s], (L.length : Int), true) := by unfold layP; rw [h]; simp only; rw [if_neg hm]
theorem fnd_drop {s : List St} {p : Int} {L : List Sh} {k : Nat} {y : Sh} (hy : L[k]? = some y) : fnd s p k (L.drop k) = if y.s = s ∧ y.p = p then some k else fnd s p (k + 1) (L.drop (k + 1)) := by rw [drop_at' hy, fnd]
theorem rtree_more {w w' : World} {B base : Nat} {L : List Sh} {E : List Rd} {d : Rd} {A : Option Addr} {n c : Nat} (k : Kept B w w') (hE : ∀ d ∈ E, RdIs B w d) (hL : E.map (·.x) = L) (hd : RdIs B w d) (ho : w'.ownsRow base 76 4 (.slice A n c) n (E.flatMap Rd.cs ++ d.cs)) : RTree B w' A n (L ++ [d.x]) := by
  refine ⟨E ++ [d], ?_, fun e he => ?_, by simp [hL]⟩
  · rw [List.flatMap_append, List.flatMap_singleton]; exact Fix.of_own (by decide) ho
  · rcases List.mem_append.1 he with he | he
    · exact (hE e he).keep k
    · rw [List.mem_singleton.1 he]; exact hd.keep k
theorem info76 : (Try.prog.info? 76).map (fun i => (i.zero, i.size, i.bytes)) = some (some (.agg #[.int .u64 0, .slice none 0 0, .slice none 0 0, .slice none 0 0]), 4, 80) := by kernel_rfl
set_option maxRecDepth 100000 in
set_option maxHeartbeats 8000000 in
theorem rlay_calls (w : World) (B : Nat) (most : Int) (A : Option Addr) (n c : Nat) (L : List Sh) (h : RTree B w A n L) (hW : WF L) (d : Rd) (hd : RdIs B w d) (hB : B ≤ w.heap.size) (hb : L.length ≤ 1000000000000) (hs : d.x.s.length ≤ 1000000000000) :
    Calls Try.prog 28 #[.agg #[.int .i64 most, .slice A n c], .agg #[.int .u64 d.p, .slice d.Ak d.nk d.ck, .slice d.Af d.nf d.cf, .slice d.As d.ns d.cz]] w (RGives w B most (layP most L d.x)) := by
  obtain ⟨i76, hi, hz0, hz1, hz2⟩ := info_parts info76
  have hlen := h.len
  have hds := hd.ns
  have b0 := Blk.new w 32 #[.int .i64 most, .slice A n c]
  have W1 := below_alloc (o := .cells #[.int .i64 most, .slice A n c] 32) (Below.refl w.heap.size w)
  have b1 := Blk.new (w.alloc (.cells #[.int .i64 most, .slice A n c] 32)) 76 #[.int .u64 d.p, .slice d.Ak d.nk d.ck, .slice d.Af d.nf d.cf, .slice d.As d.ns d.cz]
  have W2 := below_alloc (o := .cells #[.int .u64 d.p, .slice d.Ak d.nk d.ck, .slice d.Af d.nf d.cf, .slice d.As d.ns d.cz] 76) W1
  have b2 := Blk.new ((w.alloc (.cells #[.int .i64 most, .slice A n c] 32)).alloc (.cells #[.int .u64 d.p, .slice d.Ak d.nk d.ck, .slice d.Af d.nf d.cf, .slice d.As d.ns d.cz] 76)) 32 #[.int .i64 0, .slice none 0 0]
  have W3 := below_alloc (o := .cells #[.int .i64 0, .slice none 0 0] 32) W2
  replace b0 := (b0.alloc (.cells #[.int .u64 d.p, .slice d.Ak d.nk d.ck, .slice d.Af d.nf d.cf, .slice d.As d.ns d.cz] 76)).alloc (.cells #[.int .i64 0, .slice none 0 0] 32)
  replace b1 := b1.alloc (.cells #[.int .i64 0, .slice none 0 0] 32)
  simp only [size_alloc] at b1 b2
  clear W1 W2
  have K3 := Kept.below W3 hB
  have hT := h.keep K3
  have hD := hd.keep K3
  have hz : (((w.alloc (.cells #[.int .i64 most, .slice A n c] 32)).alloc (.cells #[.int .u64 d.p, .slice d.Ak d.nk d.ck, .slice d.Af d.nf d.cf, .slice d.As d.ns d.cz] 76)).alloc (.cells #[.int .i64 0, .slice none 0 0] 32)).heap.size = w.heap.size + 3 := by simp only [size_alloc]
  have HLen := Lib.hid hlen
  have HDs := Lib.hid hds
  have hnn : n ≤ 1000000000000 := by omega
  have hns : d.ns ≤ 1000000000000 := by omega
  clear hlen hds hb hs
  go_enter Try.func28, Try.ntmps28
  go_wp2
  generalize ((w.alloc (.cells #[.int .i64 most, .slice A n c] 32)).alloc (.cells #[.int .u64 d.p, .slice d.Ak d.nk d.ck, .slice d.Af d.nf d.cf, .slice d.As d.ns d.cz] 76)).alloc (.cells #[.int .i64 0, .slice none 0 0] 32) = W at *
  have HT := Lib.hid hT
  have HDd := Lib.hid hD
  have HB0 := Lib.hid b0
  have HB1 := Lib.hid b1
  have HB2 := Lib.hid b2
  have HW3 := Lib.hid W3
  have HZ := Lib.hid hz
  have HW := Lib.hid hW
  have HhB := Lib.hid hB
  have Hh := Lib.hid h
  have Hhd := Lib.hid hd
  clear hT hD b0 b1 b2 W3 hz hW hB h hd K3
  go_loopg [7] n (fun fu i wr => ∃ k : Nat, i = .int .i64 k ∧ k + fu = n ∧ fnd d.x.s d.x.p 0 L = fnd d.x.s d.x.p k (L.drop k) ∧ Below W.heap.size W wr)
  case atStart => exact ⟨0, rfl, by omega, rfl, Below.refl _ _⟩
  case round =>
    obtain ⟨k, rfl, hf, hfd, hbel⟩ := hrel
    have HFd := Lib.hid hfd
    have HBel := Lib.hid hbel
    obtain ⟨z0, z1, z2, z3⟩ := (HB0.out.below hbel HB0.out.lt).two
    obtain ⟨y0, y1, y2, y3⟩ := (HB1.out.below hbel HB1.out.lt).four
    obtain ⟨x0, x1, x2, x3⟩ := (HB2.out.below hbel HB2.out.lt).two
    by_cases hk : k < n
    · obtain ⟨x, hx⟩ : ∃ e, L[k]? = some e := ⟨_, List.getElem?_eq_getElem (by have := HLen.out; omega)⟩
      obtain ⟨e, b, off, rfl, he, rfl, hbl, e0, e1, e2, e3⟩ := (HT.out.keep (Kept.below hbel (by have := HhB.out; have := HZ.out; omega))).at_ hx
      have SC := Lib.hid (fun nn => same_calls (wr.drewN nn) e.As d.As e.ns e.cz d.ns d.cz e.x.s d.x.s he.s.1.drew (HDd.out.keep (Kept.below hbel (by have := HhB.out; have := HZ.out; omega))).s.1.drew (by rw [he.ns]; have := (HW.out.depth k _ hx).2; have := HLen.out; omega) hns)
      have hk' : (k : Int) < (n : Int) := by omega
      obtain ⟨f', hf'⟩ : ∃ f', gk = f' + 1 := ⟨gk - 1, by omega⟩
      have HF' := Lib.hid hf'
      have HF := Lib.hid hf
      have HP := Lib.hid he.p
      have HDrop := Lib.hid (fnd_drop (s := d.x.s) (p := d.x.p) hx)
      clear hfd hbel hx he hbl hf hf' e1 e2
      by_cases hs : e.x.s = d.x.s
      · rw [decide_eq_true hs] at SC
        have HS := Lib.hid hs
        clear hs
        by_cases hp : e.p = d.p
        · have HPP := Lib.hid hp
          rw [hp] at e0
          clear hp
          go_wp2
          go_quiet ((go_at_call 32; exact Calls.quiet_of (SC.out _)))
          go_wp2
          go_quiet (fail)
          go_wp2
          have hres : layP most L d.x = (L, (k : Int), true) := layP_found (by rw [HFd.out, HDrop.out, if_pos ⟨HS.out, by rw [← HP.out, HPP.out, HDd.out.p]⟩])
          rw [hres]
          have hfin : Below w.heap.size w wr := HW3.out.trans (HBel.out.mono HW3.out.size)
          refine bodyPost_ret (v := .tuple #[.agg #[.int .i64 most, .slice (some ⟨b, off, none⟩) n c], .int .i64 k, .bool true]) (by simp [results, Try.results28, go_sem, x0, x1]) rfl ⟨_, _, _, rfl, Hh.out.keep (Kept.below ?_ HhB.out), ?_⟩
          all_goals repeat (first | exact below_drewN2 hfin _ | refine below_set2 ?_ (by omega))
        · have hpb : (e.p == d.p) = false := by simpa using hp
          have HPP := Lib.hid hp
          clear hp
          go_wp2
          go_quiet ((go_at_call 32; exact Calls.quiet_of (SC.out _)))
          go_wp2
          go_quiet (fail)
          go_wp2
          go_roundg f'
          case measure => have := HF'.out; omega
          case rel => exact ⟨k + 1, by simp, by have := HF'.out; have := HF.out; omega, by rw [HFd.out, HDrop.out, if_neg (fun h => HPP.out (by rw [HP.out, h.2, HDd.out.p]))], below_drewN2 HBel.out _⟩
      · rw [decide_eq_false hs] at SC
        have HS := Lib.hid hs
        clear hs
        go_wp2
        go_quiet ((go_at_call 32; exact Calls.quiet_of (SC.out _)))
        go_wp2
        go_quiet (fail)
        go_wp2
        go_roundg f'
        case measure => have := HF'.out; omega
        case rel => exact ⟨k + 1, by simp, by have := HF'.out; have := HF.out; omega, by rw [HFd.out, HDrop.out, if_neg (fun h => HS.out h.1)], below_drewN2 HBel.out _⟩
    · have hk' : ¬ (k : Int) < (n : Int) := by omega
      obtain rfl : k = n := by omega
      have hfn : fnd d.x.s d.x.p 0 L = none := by rw [hfd, List.drop_of_length_le (by have := HLen.out; omega)]; rfl
      have HFn := Lib.hid hfn
      have hfin : Below w.heap.size w wr := HW3.out.trans (hbel.mono HW3.out.size)
      have HFin := Lib.hid hfin
      by_cases hm : most ≤ (k : Int)
      · have HM := Lib.hid hm
        clear hfd hbel hfn hk hf hfin
        go_wp2
        rw [layP_full HFn.out (by rw [← HLen.out]; exact HM.out)]
        refine bodyPost_ret (v := .tuple #[.agg #[.int .i64 most, .slice A k c], .int .i64 0, .bool false]) (by simp [results, Try.results28, go_sem, x0, x1]) rfl ⟨_, _, _, rfl, Hh.out.keep (Kept.below ?_ HhB.out), ?_⟩
        all_goals repeat (first | exact HFin.out | refine below_set2 ?_ (by omega))
      · obtain ⟨E, hE1, hE2, hE3⟩ := Hh.out
        have HM := Lib.hid hm
        have hm2 : (k : Int) < most := by omega
        have hsz : w.heap.size + 3 ≤ wr.heap.size := by have := hbel.size; rw [HZ.out] at this; exact this
        have hA := Lib.hid ((hE1.keep (Kept.below hfin HhB.out)).1.below ((Below.refl _ wr).alloc (Nat.le_refl _) (.cells #[] 76)))
        have O1 := Lib.hid (own_made0 wr 76 4)
        have Q1 := Lib.hid ((Below.refl wr.heap.size wr).alloc (Nat.le_refl _) (.cells #[] 76))
        have H1 := Lib.hid (flt_one Rd.cs_one E)
        have a1 : (wr.alloc (.cells #[] 76)).cell? ⟨w.heap.size, 1, none⟩ = some (.slice A k c) := (World.cell?_alloc_lt wr _ ⟨w.heap.size, 1, none⟩ (by show w.heap.size < _; omega)).trans z1
        have BB0 := Lib.hid (HB0.out.below hbel HB0.out.lt)
        have BB1 := Lib.hid (HB1.out.below hbel HB1.out.lt)
        have BB2 := Lib.hid (HB2.out.below hbel HB2.out.lt)
        have HE2 := Lib.hid hE2
        have HE3 := Lib.hid hE3
        clear hfd hbel hfn hk hf hfin hE1 hE2 hE3 hm
        go_wp2_with (first | (at_builtin; refine wpList_append_any _ rfl (.tmp 47) (.tmp 49) 30 rfl wr.heap.size 76 i76 _ 4 80 Try.underlying30 hi hz0 hz1 hz2 rfl (by decide) _ _ _ rfl O1.out wr.heap.size _ k c (E.flatMap Rd.cs) rfl hA.out H1.out (by unfold maxLen; omega) (by omega) Q1.out.size ?_; intro v1 w1 o1 g1 at1; have bb1 := Q1.out.grown g1 Q1.out.size (fun k hk => (O1.out.lt k hk).1); simp only [Nat.zero_add, List.nil_append] at o1; obtain ⟨p0, p1, p2, p3⟩ := (BB1.out.below bb1 BB1.out.lt).four; have o1 := Lib.hid o1; have bb1 := Lib.hid bb1; clear at1 a1 y0 y1 y2 y3 z0 z1 x0 x1 z2 z3 x2 x3 g1) | (at_builtin; refine wpList_append_any _ rfl (.tmp 51) (.tmp 53) 30 rfl wr.heap.size 76 i76 _ 4 80 Try.underlying30 hi hz0 hz1 hz2 rfl (by decide) _ k _ rfl (o1.out.alloc _) _ _ 1 1 [.int .u64 d.p, .slice d.Ak d.nk d.ck, .slice d.Af d.nf d.cf, .slice d.As d.ns d.cz] rfl (reads_blkS (Blk.new _ _ _) rfl) (Rd.cs_one d) (by unfold maxLen; omega) (by omega) (by rw [size_alloc]; have := bb1.out.size; omega) ?_; intro v2 w2 o2 g2 at2; obtain ⟨A2, c2, rfl⟩ := own_is_slice o2; have bb2 := (bb1.out.alloc bb1.out.size _).grown g2 (by rw [size_alloc]; have := bb1.out.size; omega) (fun k hk => (o1.out.lt k hk).1); obtain ⟨z0, z1, z2, z3⟩ := (BB0.out.below bb2 BB0.out.lt).two; obtain ⟨x0, x1, x2, x3⟩ := (BB2.out.below bb2 BB2.out.lt).two; have o2 := Lib.hid o2; have bb2 := Lib.hid bb2; clear at2 g2 p0 p1 p2 p3))
        go_region
        all_goals go_wp2
        all_goals rw [layP_more HFn.out (by rw [← HLen.out]; have := HM.out; omega)]
        all_goals have hw2 : Below w.heap.size w w2 := HFin.out.trans (bb2.out.mono HFin.out.size)
        all_goals refine bodyPost_ret (v := .tuple #[.agg #[.int .i64 most, .slice A2 (k + 1) c2], .int .i64 L.length, .bool true]) (by simp [results, Try.results28, go_sem, x0, x1, z0, z1, ← HLen.out]) rfl ⟨_, _, _, rfl, rtree_more (base := wr.heap.size) (c := c2) (Kept.below ?_ HhB.out) HE2.out HE3.out Hhd.out ?_, ?_⟩
        all_goals repeat (first | exact hw2 | exact o2.out | refine below_drew2 ?_ | refine below_set2 ?_ (by omega) | refine own_drew ?_ | refine ownsRow_setCell_below ?_ (by simp only; omega) _)
end Go.Proofs.Ytchbgececcclgaa
