/- Shapes: the document's Change walked. -/
import Derived.Test.YtchbgececcclgaaPm
namespace Go.Proofs.Ytchbgececcclgaa
open Go.RowKit Go
set_option linter.unusedVariables false
set_option linter.unusedSimpArgs false
theorem flt_id (l : List Value) : l.flatMap (fun u => [u]) = l := by
  induction l with
  | nil => rfl
  | cons x l ih => simp
theorem fix_get1 {B : Nat} {w : World} {A : Option Addr} {n : Nat} {xs : List Value} (h : Fix B w 1 A n xs) {j : Nat} {u : Value} (hj : xs[j]? = some u) : ∃ b off, A = some ⟨b, off, none⟩ ∧ b < w.heap.size ∧ w.cell? ⟨b, off + j, none⟩ = some u := by
  have h1 := h.1
  rw [← flt_id xs] at h1
  obtain ⟨b, off, hA, hb, hc⟩ := reads_get (f := fun u : Value => [u]) (s := 1) (fun _ => rfl) (by decide) h1 hj
  have := hc 0 u rfl
  rw [Nat.mul_one, Nat.add_zero] at this
  exact ⟨b, off, hA, hb, this⟩
theorem flags_set {l : List Pr} {j : Nat} (k : ByteArray) (f : Int) : (flagsV l).set j (.int .i64 f) = flagsV (l.set j ⟨k, f⟩) := by
  unfold flagsV; rw [List.map_set]
theorem keys_set {l : List Pr} {j : Nat} {q : Pr} (hq : l[j]? = some q) (f : Int) : keysV (l.set j ⟨q.k, f⟩) = keysV l := by
  unfold keysV
  rw [List.map_set]
  apply List.ext_getElem?
  intro m
  rw [List.getElem?_set]
  split
  · rename_i e; subst e
    have := (List.getElem?_eq_some_iff.1 hq).1
    rw [if_pos (by simpa using this)]
    simp [hq]
  · rfl
theorem step_set {w1 V : World} {o : Obj} {g i : Nat} {u : Value} (h : Below (w1.heap.size + 1) (w1.alloc o) V) (hg : w1.heap.size + 1 ≤ g) : Below (w1.heap.size + 1) (w1.alloc o) (V.setCell ⟨g, i, none⟩ u) := h.setCell (p := ⟨g, i, none⟩) hg u
theorem step_copy2 {w1 V V' : World} {o o' : Obj} {e : TypeId} {s n base : Nat} {v : Value} {xs : List Value} (h : Below (w1.heap.size + 1) (w1.alloc o) V) (hb : w1.heap.size + 1 ≤ base) (ho : (V.alloc o').ownsRow base e s v n xs) (hg : (V.alloc o').grownBy V' v.ownBlock) : Below (w1.heap.size + 1) (w1.alloc o) V' := by
  have hs := h.size
  rw [size_alloc] at hs
  exact (h.alloc hs o').grown hg (by rw [size_alloc]; omega) (fun j e => by have := (ho.lt j e).1; omega)
theorem own_cell1 {w : World} {base g n c : Nat} {e : TypeId} {xs : List Value} (h : w.ownsRow base e 1 (.slice (some ⟨g, 0, none⟩) n c) n xs) {j : Nat} {u : Value} (hj : xs[j]? = some u) : w.cell? ⟨g, j, none⟩ = some u := by
  have := add_at g 0 j w (h.cells (g := g) rfl j u hj)
  simpa using this
theorem size_set (w : World) (a : Addr) (u : Value) : (w.setCell a u).heap.size = w.heap.size := by simp [World.setCell]
theorem atP_no {most : Int} {L : List Sh} {i : Int} {k : ByteArray} {f : Int} (h : atP L i k = -1) : chgP most L i k f = (L, 0, false) := by
  unfold atP at h
  unfold chgP
  cases e : getI L i with
  | none => rfl
  | some x =>
    rw [e] at h
    simp only at h ⊢
    rw [h, if_pos (by omega)]
theorem atP_case (L : List Sh) (i : Int) (k : ByteArray) : atP L i k = -1 ∨ ∃ (j jj : Nat) (x : Sh) (q : Pr), i = (j : Int) ∧ L[j]? = some x ∧ atP L i k = (jj : Int) ∧ x.l[jj]? = some q ∧ q.k = k ∧ ∀ most f, chgP most L i k f = if q.f = f then (L, (j : Int), true) else layP most L (chgS x jj k f) := by
  cases e : getI L i with
  | none => left; unfold atP; rw [e]
  | some x =>
    obtain ⟨h0, hx, hlt⟩ := getI_some e
    obtain ⟨j, rfl⟩ : ∃ j : Nat, i = j := ⟨i.toNat, by omega⟩
    simp only [Int.toNat_natCast] at hx
    rcases plc_case k x.l with hp | ⟨jj, q, hp, hq, hk, hfl⟩
    · left; unfold atP; rw [e]; exact hp
    · refine .inr ⟨j, jj, x, q, rfl, hx, by unfold atP; rw [e]; exact hp, hq, hk, fun most f => ?_⟩
      unfold chgP
      rw [e]
      simp only
      rw [hfl, hp, if_neg (by omega)]
      simp
theorem own_made_set (w : World) (a : Addr) (u : Value) (e : TypeId) (s : Nat) : ((w.setCell a u).alloc (.cells #[] e)).ownsRow w.heap.size e s (.slice (some ⟨w.heap.size, 0, none⟩) 0 0) 0 [] := by
  have := own_made0 (w.setCell a u) e s
  rwa [size_set] at this
set_option maxRecDepth 100000 in
set_option maxHeartbeats 16000000 in
theorem rchg_calls (w : World) (B : Nat) (most : Int) (A : Option Addr) (n c : Nat) (L : List Sh) (h : RTree B w A n L) (hW : WF L) (i : Int) (k : ByteArray) (f : Int) (hB : B ≤ w.heap.size) (hb : L.length ≤ 1000000000000) :
    Calls Try.prog 19 #[.agg #[.int .i64 most, .slice A n c], .int .i64 i, .string k, .int .i64 f] w (RGives w B most (chgP most L i k f)) := by
  have W1 := below_alloc (o := .cells #[.int .i64 most, .slice A n c] 32) (Below.refl w.heap.size w)
  have W2 := below_alloc (o := .cells #[.int .i64 0, .slice none 0 0] 32) W1
  have b4 := (Blk.new w 32 #[.int .i64 most, .slice A n c]).alloc (.cells #[.int .i64 0, .slice none 0 0] 32)
  have b8 := Blk.new (w.alloc (.cells #[.int .i64 most, .slice A n c] 32)) 32 #[.int .i64 0, .slice none 0 0]
  rw [size_alloc] at b8
  have hlen := h.len
  have HB := Lib.hid hB
  have HL := Lib.hid h
  have AC := rat_calls ((w.alloc (.cells #[.int .i64 most, .slice A n c] 32)).alloc (.cells #[.int .i64 0, .slice none 0 0] 32)) B most A n c L (h.keep (Kept.below W2 hB)) hW i k (Nat.le_trans hB W2.size) hb
  have hz : ((w.alloc (.cells #[.int .i64 most, .slice A n c] 32)).alloc (.cells #[.int .i64 0, .slice none 0 0] 32)).heap.size = w.heap.size + 2 := by simp only [size_alloc]
  have HW2 := Lib.hid W2
  have Hb4 := Lib.hid b4
  have Hb8 := Lib.hid b8
  obtain ⟨p0, p1, _, _⟩ := b4.two
  obtain ⟨q0, q1, q2, q3⟩ := b8.two
  rcases atP_case L i k with hp | ⟨j, jj, x, q, rfl, hx, hp, hq, hk, hres⟩
  · rw [atP_no hp]
    rw [hp] at AC
    have AC := Lib.hid AC
    clear h hW hB hb hlen W1 W2 b4 b8 hp
    go_enter Try.func19, Try.ntmps19
    go_wp2_with (first | (go_at_call 29; (with_reducible refine AC.out.mono ?_); rintro e w1 ⟨rfl, hb1⟩; obtain ⟨p0, p1, _, _⟩ := (Hb4.out.below hb1 Hb4.out.lt).two; obtain ⟨q0, q1, q2, q3⟩ := (Hb8.out.below hb1 Hb8.out.lt).two; have HB1 := Lib.hid hb1; clear hb1))
    have hfin : Below w.heap.size w w1 := HW2.out.trans (HB1.out.mono HW2.out.size)
    refine bodyPost_ret (v := .tuple #[.agg #[.int .i64 most, .slice A n c], .int .i64 0, .bool false]) (by simp [results, Try.results19, go_sem, q0, q1, p0, p1]) rfl ⟨_, _, _, rfl, HL.out.keep (Kept.below ?_ HB.out), ?_⟩
    all_goals repeat (first | exact hfin | refine below_set2 ?_ (by omega))
  · have hlt := (List.getElem?_eq_some_iff.1 hx).1
    have hjn : (j : Int) < (n : Int) := by rw [hlen]; omega
    rw [hp] at AC
    have AC := Lib.hid AC
    have hjj : ¬ ((jj : Int) < 0) := by omega
    obtain ⟨d, b, off, rfl, hd, rfl, hbl, e0, e1, e2, e3⟩ := h.at_ hx
    have hfq : (flagsV d.x.l)[jj]? = some (.int .i64 q.f) := by unfold flagsV; rw [List.getElem?_map, hq]; rfl
    obtain ⟨bf, off2, hAf, hbf, hfc⟩ := fix_get1 hd.f hfq
    have hdep := hW.depth j _ hx
    have hjl := (List.getElem?_eq_some_iff.1 hq).1
    have hnk : d.nk ≤ 1000000000000 := by rw [hd.nk]; omega
    have hnf : d.nf ≤ 1000000000000 := by rw [hd.nf]; omega
    have hns : d.ns < 1000000000000 := by rw [hd.ns]; omega
    have hjf : (jj : Int) < (d.nf : Int) := by rw [hd.nf]; omega
    have Hd := Lib.hid hd
    have CE := Lib.hid (fun (w1 : World) (bb : Below w.heap.size w w1) => show w1.cell? ⟨b, off + j * 4, none⟩ = some (.int .u64 d.p) ∧ w1.cell? ⟨b, off + j * 4 + 1, none⟩ = some (.slice d.Ak d.nk d.ck) ∧ w1.cell? ⟨b, off + j * 4 + 2, none⟩ = some (.slice (some ⟨bf, off2, none⟩) d.nf d.cf) ∧ w1.cell? ⟨b, off + j * 4 + 3, none⟩ = some (.slice d.As d.ns d.cz) from
      ⟨(bb.cell (p := ⟨b, off + j * 4, none⟩) hbl).trans e0, (bb.cell (p := ⟨b, off + j * 4 + 1, none⟩) hbl).trans e1, (bb.cell (p := ⟨b, off + j * 4 + 2, none⟩) hbl).trans (hAf ▸ e2), (bb.cell (p := ⟨b, off + j * 4 + 3, none⟩) hbl).trans e3⟩)
    have FC := Lib.hid (fun (w1 : World) (bb : Below w.heap.size w w1) => show (w1.alloc (.cells #[.int .u64 d.p, .slice d.Ak d.nk d.ck, .slice (some ⟨bf, off2, none⟩) d.nf d.cf, .slice d.As d.ns d.cz] 76)).cell? ⟨bf, off2 + jj, none⟩ = some (.int .i64 q.f) from ((below_alloc bb).cell (p := ⟨bf, off2 + jj, none⟩) hbf).trans hfc)
    have HWF := Lib.hid hW
    have Hb := Lib.hid hb
    have hAfh := Lib.hid hAf
    have hres := hres most f
    have HFq := Lib.hid hfq
    subst hk
    by_cases hqf : q.f = f
    · rw [if_pos hqf] at hres
      have HRes := Lib.hid hres
      subst hqf
      clear h hW hB hb hlen W1 W2 b4 b8 hx hlt hp hq hres hd hdep hbl e0 e1 e2 e3 hfq hAf hbf hfc hjl
      go_enter Try.func19, Try.ntmps19
      go_wp2_with (first | (go_at_call 29; (with_reducible refine AC.out.mono ?_); rintro e w1 ⟨rfl, hb1⟩; obtain ⟨p0, p1, _, _⟩ := (Hb4.out.below hb1 Hb4.out.lt).two; obtain ⟨q0, q1, q2, q3⟩ := (Hb8.out.below hb1 Hb8.out.lt).two; obtain ⟨s0, s1, s2, s3⟩ := CE.out _ (HW2.out.trans (hb1.mono HW2.out.size)); have fc := FC.out _ (HW2.out.trans (hb1.mono HW2.out.size)); obtain ⟨u0, u1, _, _⟩ := ((Hb4.out.below hb1 Hb4.out.lt).alloc (.cells #[.int .u64 d.p, .slice d.Ak d.nk d.ck, .slice (some ⟨bf, off2, none⟩) d.nf d.cf, .slice d.As d.ns d.cz] 76)).two; obtain ⟨u2, u3, u4, u5⟩ := ((Hb8.out.below hb1 Hb8.out.lt).alloc (.cells #[.int .u64 d.p, .slice d.Ak d.nk d.ck, .slice (some ⟨bf, off2, none⟩) d.nf d.cf, .slice d.As d.ns d.cz] 76)).two; have HB1 := Lib.hid hb1; clear hb1))
      have hfin : Below w.heap.size w w1 := HW2.out.trans (HB1.out.mono HW2.out.size)
      rw [HRes.out]
      refine bodyPost_ret (v := .tuple #[.agg #[.int .i64 most, .slice (some ⟨b, off, none⟩) n c], .int .i64 j, .bool true]) (by simp [results, Try.results19, go_sem, u0, u1, u2, u3]) rfl ⟨_, _, _, rfl, HL.out.keep (Kept.below ?_ HB.out), ?_⟩
      all_goals repeat (first | exact hfin | refine below_set2 ?_ (by omega) | refine below_alloc ?_)
    · rw [if_neg hqf] at hres
      have HRes := Lib.hid hres
      have hne : (q.f == f) = false := by simpa using hqf
      have HQ := Lib.hid hq
      obtain ⟨k, hkk⟩ : ∃ k, q.k = k := ⟨_, rfl⟩
      rw [hkk] at AC HRes ⊢
      have HKs := Lib.hid (hkk ▸ keys_set hq f)
      obtain ⟨i3, h3, x3, y3, z3⟩ := info_parts info3
      obtain ⟨i79, h79, x79, y79, z79⟩ := info_parts info79
      clear h hW hB hb hlen W1 W2 b4 b8 hx hlt hp hq hres hd hdep hbl e0 e1 e2 e3 hfq hAf hbf hfc hjl hqf hkk
      go_enter Try.func19, Try.ntmps19
      go_wp2_with (first | (go_at_call 29; (with_reducible refine AC.out.mono ?_); rintro e w1 ⟨rfl, hb1⟩; obtain ⟨p0, p1, _, _⟩ := (Hb4.out.below hb1 Hb4.out.lt).two; obtain ⟨q0, q1, q2, q3⟩ := (Hb8.out.below hb1 Hb8.out.lt).two; obtain ⟨s0, s1, s2, s3⟩ := CE.out _ (HW2.out.trans (hb1.mono HW2.out.size)); have fc := FC.out _ (HW2.out.trans (hb1.mono HW2.out.size)); have HB1 := Lib.hid hb1; clear hb1) |
        (at_builtin; refine wpList_append_any _ rfl (.tmp 36) (.tmp 38) 73 rfl (w1.heap.size + 1) 3 i3 _ 1 8 Try.underlying73 h3 x3 y3 z3 rfl (by decide) (.slice (some ⟨w1.heap.size + 1, 0, none⟩) 0 0) 0 [] rfl (own_made1 w1 _ 3 1) _ _ d.nf d.cf (flagsV d.x.l) rfl (hAfh.out ▸ (Hd.out.f.keep (Kept.below (below_alloc (below_alloc (HW2.out.trans (HB1.out.mono HW2.out.size)))) HB.out)).1) (one_flags _) (by unfold maxLen; omega) (by omega) (by simp only [size_alloc]; omega) ?_; intro v1 V1 r1 g1 at1; simp only [Nat.zero_add, List.nil_append] at r1; have bV1 := ((((Below.refl (w1.heap.size + 1) (w1.alloc (.cells #[.int .u64 d.p, .slice d.Ak d.nk d.ck, .slice (some ⟨bf, off2, none⟩) d.nf d.cf, .slice d.As d.ns d.cz] 76))).alloc (by rw [size_alloc]; omega) _).grown g1 (by simp only [size_alloc]; omega) (fun j e => by have := (own_made1 w1 (.cells #[.int .u64 d.p, .slice d.Ak d.nk d.ck, .slice (some ⟨bf, off2, none⟩) d.nf d.cf, .slice d.As d.ns d.cz] 76) 3 1).lt j e; exact this.1))); obtain ⟨ga, ca, rfl, hga, _⟩ := r1.form (by omega); have sc := own_cell1 r1 HFq.out; have sf := own_fro r1 jj; have r1 := Lib.hid (flags_set k f ▸ (r1.stored jj (.int .i64 f)).1); have bV1 := Lib.hid (step_set (i := jj) (u := .int .i64 f) bV1 hga); obtain ⟨t0, t1, t2, t3⟩ := (((Blk.new w1 76 #[.int .u64 d.p, .slice d.Ak d.nk d.ck, .slice (some ⟨bf, off2, none⟩) d.nf d.cf, .slice d.As d.ns d.cz]).below bV1.out (by omega)).alloc (.cells #[] 79)).four; clear at1 g1 p0 p1 q0 q1 q2 q3 s0 s1 s2 s3 fc) |
        (at_builtin; refine wpList_append_any _ rfl (.tmp 44) (.tmp 46) 74 rfl V1.heap.size 79 i79 _ 3 32 Try.underlying74 h79 x79 y79 z79 rfl (by decide) (.slice (some ⟨V1.heap.size, 0, none⟩) 0 0) 0 [] rfl (own_made_set V1 _ _ 79 3) _ _ d.ns d.cz (d.x.s.flatMap stv) rfl (Hd.out.s.keep (Kept.below (below_alloc (below_to HW2.out HB1.out bV1.out)) HB.out)).1 (flt_one stv_one _) (by unfold maxLen; omega) (by omega) (by simp only [size_alloc, size_set]; omega) ?_; intro v3 V r3 g3 at3; simp only [Nat.zero_add, List.nil_append] at r3; have hz1 : w1.heap.size + 1 ≤ V1.heap.size := (by have := bV1.out.size; simp only [size_alloc, size_set] at this; exact this); have r1 := Lib.hid (own_kept (r1.out.alloc _) (own_made_set V1 _ _ 79 3) (by decide) g3); have bV3 := Lib.hid (step_copy2 bV1.out hz1 (own_made_set V1 _ _ 79 3) g3); replace r3 := Lib.hid (own_base hz1 r3); clear t0 t1 t2 t3 at3 g3 sc sf))
      have hsz : w.heap.size + 2 ≤ w1.heap.size := by have := HB1.out.size; rw [hz] at this; exact this
      have hzV : w1.heap.size + 1 ≤ V.heap.size := by have := bV3.out.size; rw [size_alloc] at this; exact this
      have BW := Lib.hid (fun w' (b' : Below (w1.heap.size + 1) V w') => show Below w.heap.size w w' from (below_to HW2.out HB1.out bV3.out).trans (b'.mono (by omega)))
      have k4 := Lib.hid ((((Hb4.out.below HB1.out Hb4.out.lt).alloc (.cells #[.int .u64 d.p, .slice d.Ak d.nk d.ck, .slice (some ⟨bf, off2, none⟩) d.nf d.cf, .slice d.As d.ns d.cz] 76))).below bV3.out (by omega))
      have k8 := Lib.hid ((((Hb8.out.below HB1.out Hb8.out.lt).alloc (.cells #[.int .u64 d.p, .slice d.Ak d.nk d.ck, .slice (some ⟨bf, off2, none⟩) d.nf d.cf, .slice d.As d.ns d.cz] 76))).below bV3.out (by omega))
      have k11 := Lib.hid ((Blk.new w1 76 #[.int .u64 d.p, .slice d.Ak d.nk d.ck, .slice (some ⟨bf, off2, none⟩) d.nf d.cf, .slice d.As d.ns d.cz]).below bV3.out (by omega))
      have SX := Lib.hid (fun w' (b' : Below (w1.heap.size + 1) V w') => show (fun w' => Below (w1.heap.size + 1) V w' ∧ w'.cell? ⟨w.heap.size, 0, none⟩ = some (.int .i64 most) ∧ w'.cell? ⟨w.heap.size, 1, none⟩ = some (.slice (some ⟨b, off, none⟩) n c) ∧ w'.cell? ⟨w1.heap.size, 0, none⟩ = some (.int .u64 d.p) ∧ w'.cell? ⟨w1.heap.size, 1, none⟩ = some (.slice d.Ak d.nk d.ck)) w' from
        ⟨b', (b'.cell (p := ⟨w.heap.size, 0, none⟩) (by show w.heap.size < _; omega)).trans (k4.out.cell 0), (b'.cell (p := ⟨w.heap.size, 1, none⟩) (by show w.heap.size < _; omega)).trans (k4.out.cell 1), (b'.cell (p := ⟨w1.heap.size, 0, none⟩) (by show w1.heap.size < _; omega)).trans (k11.out.cell 0), (b'.cell (p := ⟨w1.heap.size, 1, none⟩) (by show w1.heap.size < _; omega)).trans (k11.out.cell 1)⟩)
      have BX := Lib.hid (fun (w' w9 : World) (b' : Below (w1.heap.size + 1) V w') (b9 : Below w'.heap.size w' w9) => show Blk w9 (w.heap.size + 1) 32 #[.int .i64 0, .slice none 0 0] from ((k8.out.below b' (by omega)).below b9 (by have := b'.size; omega)))
      have LC := Lib.hid (fun (w' : World) (A3 : Option Addr) (c3 : Nat) (b' : Below (w1.heap.size + 1) V w') (r1 : w'.ownsRow (w1.heap.size + 1) 3 1 (.slice (some ⟨ga, 0, none⟩) d.nf ca) d.nf (flagsV (d.x.l.set jj ⟨k, f⟩))) (r3 : w'.ownsRow (w1.heap.size + 1) 79 3 (.slice A3 (d.ns + 1) c3) (d.ns + 1) (d.x.s.flatMap stv ++ [.bool true, .string k, .int .i64 f])) =>
        show Calls Try.prog 28 #[.agg #[.int .i64 most, .slice (some ⟨b, off, none⟩) n c], .agg #[.int .u64 d.p, .slice d.Ak d.nk d.ck, .slice (some ⟨ga, 0, none⟩) d.nf ca, .slice A3 (d.ns + 1) c3]] w' (RGives w' B most (layP most L (chgS d.x jj k f))) from
        rlay_calls w' B most _ n c L (HL.out.keep (Kept.below (BW.out _ b') HB.out)) HWF.out ⟨d.p, d.Ak, d.nk, d.ck, some ⟨ga, 0, none⟩, d.nf, ca, A3, d.ns + 1, c3, chgS d.x jj k f⟩
          ⟨by show Fix B w' 1 d.Ak d.nk (keysV (d.x.l.set jj ⟨k, f⟩)); rw [HKs.out]; exact Hd.out.k.keep (Kept.below (BW.out _ b') HB.out),
            by show Fix B w' 1 (some ⟨ga, 0, none⟩) d.nf (flagsV (d.x.l.set jj ⟨k, f⟩)); exact Fix.of_own (by decide) r1,
            by show Fix B w' 3 A3 (d.ns + 1) ((d.x.s ++ [(⟨true, k, f⟩ : St)]).flatMap stv); rw [List.flatMap_append]; exact Fix.of_own (by decide) r3, Hd.out.p⟩ (Nat.le_trans HB.out (BW.out _ b').size) Hb.out (by simp [chgS]; rw [← Hd.out.ns]; omega))
      have hz8 : B ≤ w.heap.size + 1 := by have := HB.out; omega
      have hz8w : w.heap.size ≤ w.heap.size + 1 := by omega
      have r1 := own_drew r1.out
      have r3 := own_drew r3.out
      clear hz AC HW2 Hb4 Hb8 CE FC HWF Hb HB1 bV1 bV3 k4 k8 k11 hjn hjj hjf hne
      refine wp_region_tail (S := (fun w' => Below (w1.heap.size + 1) V w' ∧ w'.cell? ⟨w.heap.size, 0, none⟩ = some (.int .i64 most) ∧ w'.cell? ⟨w.heap.size, 1, none⟩ = some (.slice (some ⟨b, off, none⟩) n c) ∧ w'.cell? ⟨w1.heap.size, 0, none⟩ = some (.int .u64 d.p) ∧ w'.cell? ⟨w1.heap.size, 1, none⟩ = some (.slice d.Ak d.nk d.ck))) 13 7 rfl (by kernel_rfl) ?_ (fun hHeld => ?_)
      · exact SX.out _ (Below.refl _ _).drew
      refine wpAnyT_take (i := 0) (oi := ?o1) (v := ?v1) ?h1 (by kernel_rfl) (by kernel_rfl) (by kernel_rfl) ?q1 ?y1 (by assumption) ?_
      case h1 => (simp only [List.getElem?_toArray, List.getElem?_cons_succ, List.getElem?_cons_zero]; try rfl)
      case q1 => exact fun _ _ _ h => h
      case y1 => refine Or.inl ⟨by rfl, ?_⟩; (intro w hSw; (try dsimp only at hSw); go_simp; try with_reducible rfl)
      try simp only [Act.put, List.setIfInBounds_toArray, List.set_cons_zero, List.set_cons_succ]
      refine wpAnyT_take (i := 1) (oi := ?o2) (v := ?v2) ?h2 (by kernel_rfl) (by kernel_rfl) (by kernel_rfl) ?q2 ?y2 (by assumption) ?_
      case h2 => (simp only [List.getElem?_toArray, List.getElem?_cons_succ, List.getElem?_cons_zero]; try rfl)
      case q2 => exact fun _ _ _ h => h
      case y2 => refine Or.inl ⟨by rfl, ?_⟩; (intro w hSw; (try dsimp only at hSw); go_simp; try with_reducible rfl)
      try simp only [Act.put, List.setIfInBounds_toArray, List.set_cons_zero, List.set_cons_succ]
      refine wpAnyT_take (i := 2) (oi := ?o3) (v := ?v3) ?h3 (by kernel_rfl) (by kernel_rfl) (by kernel_rfl) ?q3 ?y3 (by assumption) ?_
      case h3 => (simp only [List.getElem?_toArray, List.getElem?_cons_succ, List.getElem?_cons_zero]; try rfl)
      case q3 => exact fun _ _ _ h => h
      case y3 => refine Or.inl ⟨by rfl, ?_⟩; (intro w hSw; (try dsimp only at hSw); go_simp; try with_reducible rfl)
      try simp only [Act.put, List.setIfInBounds_toArray, List.set_cons_zero, List.set_cons_succ]
      refine wpAnyT_take (i := 3) (oi := ?o4) (v := ?v4) ?h4 (by kernel_rfl) (by kernel_rfl) (by kernel_rfl) ?q4 ?y4 (by assumption) ?_
      case h4 => (simp only [List.getElem?_toArray, List.getElem?_cons_succ, List.getElem?_cons_zero]; try rfl)
      case q4 => exact fun _ _ _ h => h
      case y4 => refine Or.inl ⟨by rfl, ?_⟩; (intro w hSw; (try dsimp only at hSw); go_simp; try with_reducible rfl)
      try simp only [Act.put, List.setIfInBounds_toArray, List.set_cons_zero, List.set_cons_succ]
      refine wpAnyT_take (i := 4) (oi := ?o5) (v := ?v5) ?h5 (by kernel_rfl) (by kernel_rfl) (by kernel_rfl) ?q5 ?y5 (by assumption) ?_
      case h5 => (simp only [List.getElem?_toArray, List.getElem?_cons_succ, List.getElem?_cons_zero]; try rfl)
      case q5 => exact fun _ _ _ h => h
      case y5 => refine Or.inl ⟨by rfl, ?_⟩; (intro w hSw; (try dsimp only at hSw); go_simp; try with_reducible rfl)
      try simp only [Act.put, List.setIfInBounds_toArray, List.set_cons_zero, List.set_cons_succ]
      refine wpAnyT_take (i := 5) (oi := ?o6) (v := ?v6) ?h6 (by kernel_rfl) (by kernel_rfl) (by kernel_rfl) ?q6 ?y6 (by assumption) ?_
      case h6 => (simp only [List.getElem?_toArray, List.getElem?_cons_succ, List.getElem?_cons_zero]; try rfl)
      case q6 => exact fun _ _ _ h => h
      case y6 => refine Or.inl ⟨by rfl, ?_⟩; (intro w hSw; (try dsimp only at hSw); go_simp; try with_reducible rfl)
      try simp only [Act.put, List.setIfInBounds_toArray, List.set_cons_zero, List.set_cons_succ]
      refine wpAnyT_take (i := 6) (oi := ?o7) (v := ?v7) ?h7 (by kernel_rfl) (by kernel_rfl) (by kernel_rfl) ?q7 ?y7 (by assumption) ?_
      case h7 => (simp only [List.getElem?_toArray, List.getElem?_cons_succ, List.getElem?_cons_zero]; try rfl)
      case q7 => exact fun _ _ _ h => h
      case y7 => refine Or.inl ⟨by rfl, ?_⟩; (intro w hSw; (try dsimp only at hSw); go_simp; try with_reducible rfl)
      try simp only [Act.put, List.setIfInBounds_toArray, List.set_cons_zero, List.set_cons_succ]
      refine wpAnyT_take (i := 7) (oi := ?o8) (v := ?v8) ?h8 (by kernel_rfl) (by kernel_rfl) (by kernel_rfl) ?q8 ?y8 (by assumption) ?_
      case h8 => (simp only [List.getElem?_toArray, List.getElem?_cons_succ, List.getElem?_cons_zero]; try rfl)
      case q8 => exact fun _ _ _ h => h
      case y8 => refine Or.inl ⟨by rfl, ?_⟩; (intro w hSw; (try dsimp only at hSw); go_simp; try with_reducible rfl)
      try simp only [Act.put, List.setIfInBounds_toArray, List.set_cons_zero, List.set_cons_succ]
      refine wpAnyT_take (i := 8) (oi := ?o9) (v := ?v9) ?h9 (by kernel_rfl) (by kernel_rfl) (by kernel_rfl) ?q9 ?y9 (by assumption) ?_
      case h9 => (simp only [List.getElem?_toArray, List.getElem?_cons_succ, List.getElem?_cons_zero]; try rfl)
      case q9 => exact fun _ _ _ h => h
      case y9 => refine Or.inl ⟨by rfl, ?_⟩; (intro w hSw; (try dsimp only at hSw); go_simp; try with_reducible rfl)
      try simp only [Act.put, List.setIfInBounds_toArray, List.set_cons_zero, List.set_cons_succ]
      refine wpAnyT_take (i := 9) (oi := ?o10) (v := ?v10) ?h10 (by kernel_rfl) (by kernel_rfl) (by kernel_rfl) ?q10 ?y10 (by assumption) ?_
      case h10 => (simp only [List.getElem?_toArray, List.getElem?_cons_succ, List.getElem?_cons_zero]; try rfl)
      case q10 => exact fun _ _ _ h => h
      case y10 => refine Or.inl ⟨by rfl, ?_⟩; (intro w hSw; (try dsimp only at hSw); go_simp; try with_reducible rfl)
      try simp only [Act.put, List.setIfInBounds_toArray, List.set_cons_zero, List.set_cons_succ]
      refine wpAnyT_ready (rs := [10]) (by kernel_rfl) (by simp) ?_
      refine (AllReadyT.cons (by decide) (i := 10) (o := ?o11) ?h11 (fun K hK => ?k11) AllReadyT.nil)
      case h11 => (simp only [List.getElem?_toArray, List.getElem?_cons_succ, List.getElem?_cons_zero]; try rfl)
      case k11 =>
        go_simp
        try go_wp2_with fail
        refine hK.out _ _ ?_ (fun hHeld => ?_)
        · exact SX.out _ (hHeld.1.alloc (by have := hHeld.1.size; omega) _)
        clear hK K
        (replace r1 := World.ownsRow.alloc r1 (.cells #[.bool true, .string k, .int .i64 f] 79); replace r3 := World.ownsRow.alloc r3 (.cells #[.bool true, .string k, .int .i64 f] 79); have k3 := mk_blk r3; (try simp only [size_alloc] at k3))
        try simp only [Act.put, List.setIfInBounds_toArray, List.set_cons_zero, List.set_cons_succ]
        refine wpAnyT_ready (rs := [11]) (by kernel_rfl) (by simp) ?_
        refine (AllReadyT.cons (by decide) (i := 11) (o := ?o12) ?h12 (fun K hK => ?k12) AllReadyT.nil)
        case h12 => (simp only [List.getElem?_toArray, List.getElem?_cons_succ, List.getElem?_cons_zero]; try rfl)
        case k12 =>
          (refine step_append_any _ rfl (.tmp 54) (.tmp 58) 74 rfl (w1.heap.size + 1) 79 i79 _ 3 32 Try.underlying74 h79 x79 y79 z79 rfl (by decide) _ d.ns _ rfl r3 _ _ 1 1 [.bool true, .string k, .int .i64 f] rfl (reads_blkS k3 rfl) (stv_one ⟨true, k, f⟩) (by unfold maxLen; omega) (by omega) (by have := hHeld.1.size; omega) ?_; intro vA wA rA gA atA; have r1 := own_kept r1 r3 (by decide) gA; have bA := hHeld.1.grown gA (by have := hHeld.1.size; omega) (fun j e => (r3.lt j e).1); obtain ⟨A3, c3, rfl⟩ := own_is_slice rA; replace r3 := rA; clear atA gA)
          refine hK.out _ _ ?_ (fun hHeld => ?_)
          · exact SX.out _ bA
          clear hK K
          try simp only [Act.put, List.setIfInBounds_toArray, List.set_cons_zero, List.set_cons_succ]
          refine wpAnyT_take (i := 12) (oi := ?o13) (v := ?v13) ?h13 (by kernel_rfl) (by kernel_rfl) (by kernel_rfl) ?q13 ?y13 (by assumption) ?_
          case h13 => (simp only [List.getElem?_toArray, List.getElem?_cons_succ, List.getElem?_cons_zero]; try rfl)
          case q13 => exact fun _ _ _ h => h
          case y13 => refine Or.inl ⟨by rfl, ?_⟩; (intro w hSw; (try dsimp only at hSw); go_simp; try with_reducible rfl)
          try simp only [Act.put, List.setIfInBounds_toArray, List.set_cons_zero, List.set_cons_succ]
          refine wpAnyT_done (by kernel_rfl) ?_
          refine wpAnyH_ready (rs := [13]) (by kernel_rfl) (by simp) ?_
          refine (AllReadyH.cons (i := 13) (o := ?o14) ?h14 (fun K hK => ?k14) AllReadyH.nil)
          case h14 => (simp only [List.getElem?_toArray, List.getElem?_cons_succ, List.getElem?_cons_zero]; try rfl)
          case k14 =>
            go_simp
            ((with_reducible refine (LC.out _ A3 c3 bA r1 r3).mono ?_); rintro e w9 ⟨A9, n9, c9, rfl, ht, bb⟩; obtain ⟨x0, x1, x2, x3⟩ := (BX.out _ _ bA bb).two; have ht := Lib.hid ht)
            try go_wp2_with fail
            refine hK.out _ _ ?_ (fun hHeld => ?_)
            · trivial
            clear hK K
            try simp only [Act.put, List.setIfInBounds_toArray, List.set_cons_zero, List.set_cons_succ]
            refine wpAnyH_take (i := 14) (oi := ?o15) (v := ?v15) ?h15 (by kernel_rfl) (by kernel_rfl) (by kernel_rfl) ?q15 ?y15 (by assumption) ?_
            case h15 => (simp only [List.getElem?_toArray, List.getElem?_cons_succ, List.getElem?_cons_zero]; try rfl)
            case q15 => exact fun _ _ _ h => h
            case y15 => refine Or.inl ⟨by rfl, ?_⟩; (intro w hSw; (try dsimp only at hSw); go_simp; try with_reducible rfl)
            try simp only [Act.put, List.setIfInBounds_toArray, List.set_cons_zero, List.set_cons_succ]
            refine wpAnyH_take (i := 15) (oi := ?o16) (v := ?v16) ?h16 (by kernel_rfl) (by kernel_rfl) (by kernel_rfl) ?q16 ?y16 (by assumption) ?_
            case h16 => (simp only [List.getElem?_toArray, List.getElem?_cons_succ, List.getElem?_cons_zero]; try rfl)
            case q16 => exact fun _ _ _ h => h
            case y16 => refine Or.inl ⟨by rfl, ?_⟩; (intro w hSw; (try dsimp only at hSw); go_simp; try with_reducible rfl)
            try simp only [Act.put, List.setIfInBounds_toArray, List.set_cons_zero, List.set_cons_succ]
            refine wpAnyH_take (i := 16) (oi := ?o17) (v := ?v17) ?h17 (by kernel_rfl) (by kernel_rfl) (by kernel_rfl) ?q17 ?y17 (by assumption) ?_
            case h17 => (simp only [List.getElem?_toArray, List.getElem?_cons_succ, List.getElem?_cons_zero]; try rfl)
            case q17 => exact fun _ _ _ h => h
            case y17 => refine Or.inl ⟨by rfl, ?_⟩; (intro w hSw; (try dsimp only at hSw); go_simp; try with_reducible rfl)
            try simp only [Act.put, List.setIfInBounds_toArray, List.set_cons_zero, List.set_cons_succ]
            refine wpAnyH_ready (rs := [17]) (by kernel_rfl) (by simp) ?_
            refine (AllReadyH.cons (i := 17) (o := ?o18) ?h18 (fun K hK => ?k18) AllReadyH.nil)
            case h18 => (simp only [List.getElem?_toArray, List.getElem?_cons_succ, List.getElem?_cons_zero]; try rfl)
            case k18 =>
              go_simp
              try go_wp2_with fail
              refine hK.out _ _ ?_ (fun hHeld => ?_)
              · trivial
              clear hK K
              try simp only [Act.put, List.setIfInBounds_toArray, List.set_cons_zero, List.set_cons_succ]
              refine wpAnyH_take (i := 18) (oi := ?o19) (v := ?v19) ?h19 (by kernel_rfl) (by kernel_rfl) (by kernel_rfl) ?q19 ?y19 (by assumption) ?_
              case h19 => (simp only [List.getElem?_toArray, List.getElem?_cons_succ, List.getElem?_cons_zero]; try rfl)
              case q19 => exact fun _ _ _ h => h
              case y19 => refine Or.inl ⟨by rfl, ?_⟩; (intro w hSw; (try dsimp only at hSw); go_simp; try with_reducible rfl)
              try simp only [Act.put, List.setIfInBounds_toArray, List.set_cons_zero, List.set_cons_succ]
              refine wpAnyH_take (i := 19) (oi := ?o20) (v := ?v20) ?h20 (by kernel_rfl) (by kernel_rfl) (by kernel_rfl) ?q20 ?y20 (by assumption) ?_
              case h20 => (simp only [List.getElem?_toArray, List.getElem?_cons_succ, List.getElem?_cons_zero]; try rfl)
              case q20 => exact fun _ _ _ h => h
              case y20 => refine Or.inl ⟨by rfl, ?_⟩; (intro w hSw; (try dsimp only at hSw); go_simp; try with_reducible rfl)
              try simp only [Act.put, List.setIfInBounds_toArray, List.set_cons_zero, List.set_cons_succ]
              refine wpAnyH_done (by kernel_rfl) ?_ _
              go_wp2
              refine bodyPost_ret (v := .tuple #[.agg #[.int .i64 most, .slice A9 n9 c9], .int .i64 (layP most L (chgS d.x jj k f)).2.1, .bool (layP most L (chgS d.x jj k f)).2.2]) (by simp [results, Try.results19, go_sem, x0, x1]) rfl ⟨_, _, _, by rw [HRes.out], by rw [HRes.out]; exact (ht.out.set32 (BX.out _ _ bA bb) hz8 _ _).set32 ((BX.out _ _ bA bb).set_ 0 _) hz8 _ _, ?_⟩
              exact below_set2 (below_set2 ((BW.out _ bA).trans (bb.mono (BW.out _ bA).size)) hz8w) hz8w
end Go.Proofs.Ytchbgececcclgaa
