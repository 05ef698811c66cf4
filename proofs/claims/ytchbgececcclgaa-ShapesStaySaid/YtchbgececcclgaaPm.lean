/- Shapes: the document's Add walked. -/
import Derived.Test.YtchbgececcclgaaPl
import Derived.Test.YtchbgececcclgaaRg
namespace Go.Proofs.Ytchbgececcclgaa
open Go.RowKit Go
set_option linter.unusedVariables false
set_option linter.unusedSimpArgs false
theorem info3 : (Try.prog.info? 3).map (fun i => (i.zero, i.size, i.bytes)) = some (some (.int .i64 0), 1, 8) := by kernel_rfl
theorem info79 : (Try.prog.info? 79).map (fun i => (i.zero, i.size, i.bytes)) = some (some (.agg #[.bool false, .string ⟨#[]⟩, .int .i64 0]), 3, 32) := by kernel_rfl
theorem own_kept {w w' : World} {base base' : Nat} {e e' : TypeId} {s s' n n' : Nat} {v v' : Value} {xs xs' : List Value} (h : w.ownsRow base e s v n xs) (ho : w.ownsRow base' e' s' v' n' xs') (hne : e ≠ e') (hg : w.grownBy w' v'.ownBlock) : w'.ownsRow base e s v n xs := by
  refine h.kept hg ?_
  rcases h.2 with ⟨rfl, _⟩ | ⟨g, cap, cur, rfl, _, h3, _⟩
  · exact .inl rfl
  · exact .inr fun e1 => own_blk_ne ho (show Blk w g e cur from h3) (fun e2 => hne e2.symm) e1.symm
theorem blk_kept {w w' : World} {base' : Nat} {e e' : TypeId} {s' n' : Nat} {v' : Value} {xs' : List Value} {b : Nat} {cs : Array Value} (h : Blk w b e cs) (ho : w.ownsRow base' e' s' v' n' xs') (hne : e ≠ e') (hg : w.grownBy w' v'.ownBlock) : Blk w' b e cs :=
  h.grown hg fun e1 => own_blk_ne ho h (fun e2 => hne e2.symm) e1.symm
theorem mk_blk {w : World} {base e s n : Nat} {v : Value} {xs : List Value} {cs : Array Value} {t : TypeId} (h : (w.alloc (.cells cs t)).ownsRow base e s v n xs) : Blk (w.alloc (.cells cs t)) w.heap.size t cs := Blk.new w t cs
theorem one_s {k : ByteArray} : ∀ u ∈ [Value.string k], u.oneCell' = true := by intro u hu; simp at hu; subst hu; rfl
theorem one_i {f : Int} : ∀ u ∈ [Value.int .i64 f], u.oneCell' = true := by intro u hu; simp at hu; subst hu; rfl
theorem one_keys (l : List Pr) : ∀ u ∈ keysV l, u.oneCell' = true := by intro u hu; obtain ⟨q, _, rfl⟩ := List.mem_map.1 hu; rfl
theorem one_flags (l : List Pr) : ∀ u ∈ flagsV l, u.oneCell' = true := by intro u hu; obtain ⟨q, _, rfl⟩ := List.mem_map.1 hu; rfl
theorem own_made1 (w : World) (o : Obj) (e : TypeId) (s : Nat) : ((w.alloc o).alloc (.cells #[] e)).ownsRow (w.heap.size + 1) e s (.slice (some ⟨w.heap.size + 1, 0, none⟩) 0 0) 0 [] := by
  have := own_made0 (w.alloc o) e s
  rwa [size_alloc] at this
/-- the worlds of Add, one behind the other. -/
theorem below_to {w w0 w1 V : World} {o : Obj} (h0 : Below w.heap.size w w0) (h1 : Below w0.heap.size w0 w1) (h : Below (w1.heap.size + 1) (w1.alloc o) V) : Below w.heap.size w V := by
  have a := h0.trans (h1.mono h0.size)
  have b := below_alloc (o := o) a
  exact b.trans (h.mono (by have := a.size; omega))
theorem step_copy {w1 V V' : World} {o o' : Obj} {e : TypeId} {s n : Nat} {v : Value} {xs : List Value} (h : Below (w1.heap.size + 1) (w1.alloc o) V) (ho : (V.alloc o').ownsRow V.heap.size e s v n xs) (hg : (V.alloc o').grownBy V' v.ownBlock) : Below (w1.heap.size + 1) (w1.alloc o) V' := by
  have hs := h.size
  rw [size_alloc] at hs
  exact (h.alloc hs o').grown hg (by rw [size_alloc]; omega) (fun j e => by have := (ho.lt j e).1; omega)
theorem radd_no {most : Int} {L : List Sh} {i : Int} {k : ByteArray} {f : Int} (h : getI L i = none ∨ 0 ≤ atP L i k) : addP most L i k f = (L, 0, false) := by
  unfold addP
  unfold atP at h
  cases e : getI L i with
  | none => rfl
  | some x =>
    rw [e] at h
    rcases h with h | h
    · cases h
    · simp only; rw [if_pos h]
/-- what Add's walk leans on, behind the copies of the keys, the flags, the steps. -/
structure Mid (w V : World) (B Z z4 z8 z11 : Nat) (most : Int) (A : Option Addr) (n c : Nat) (L : List Sh) (d : Rd) (v1 v2 v3 : Value) : Prop where
  bel : Below w.heap.size w V
  b4 : Blk V z4 32 #[.int .i64 most, .slice A n c]
  b8 : Blk V z8 32 #[.int .i64 0, .slice none 0 0]
  b11 : Blk V z11 76 #[.int .u64 d.p, .slice d.Ak d.nk d.ck, .slice d.Af d.nf d.cf, .slice d.As d.ns d.cz]
  l4 : z4 < Z
  l8 : z8 < Z
  l11 : z11 < Z
  g8 : w.heap.size ≤ z8
  zV : Z ≤ V.heap.size
  wZ : w.heap.size ≤ Z
  r1 : V.ownsRow Z 9 1 v1 d.nk (keysV d.x.l)
  r2 : V.ownsRow Z 3 1 v2 d.nf (flagsV d.x.l)
  r3 : V.ownsRow Z 79 3 v3 d.ns (d.x.s.flatMap stv)
set_option maxRecDepth 100000 in
set_option maxHeartbeats 16000000 in
theorem radd_calls (w : World) (B : Nat) (most : Int) (A : Option Addr) (n c : Nat) (L : List Sh) (h : RTree B w A n L) (hW : WF L) (i : Int) (k : ByteArray) (f : Int) (hB : B ≤ w.heap.size) (hb : L.length ≤ 1000000000000) :
    Calls Try.prog 17 #[.agg #[.int .i64 most, .slice A n c], .int .i64 i, .string k, .int .i64 f] w (RGives w B most (addP most L i k f)) := by
  have W1 := below_alloc (o := .cells #[.int .i64 most, .slice A n c] 32) (Below.refl w.heap.size w)
  have W2 := below_alloc (o := .cells #[.int .i64 0, .slice none 0 0] 32) W1
  have b4 := (Blk.new w 32 #[.int .i64 most, .slice A n c]).alloc (.cells #[.int .i64 0, .slice none 0 0] 32)
  have b8 := Blk.new (w.alloc (.cells #[.int .i64 most, .slice A n c] 32)) 32 #[.int .i64 0, .slice none 0 0]
  rw [size_alloc] at b8
  have hlen := h.len
  have HB := Lib.hid hB
  have HL := Lib.hid h
  have AC := rat_calls ((w.alloc (.cells #[.int .i64 most, .slice A n c] 32)).alloc (.cells #[.int .i64 0, .slice none 0 0] 32)) B most A n c L (h.keep (Kept.below W2 hB)) hW i k (Nat.le_trans hB W2.size) hb
  have hz : ((w.alloc (.cells #[.int .i64 most, .slice A n c] 32)).alloc (.cells #[.int .i64 0, .slice none 0 0] 32)).heap.size = w.heap.size + 2 := by simp only [size_alloc]
  cases e : getI L i with
  | none =>
    rw [radd_no (.inl e)]
    have hout := getI_none e
    rw [← hlen] at hout
    have HW2 := Lib.hid W2
    obtain ⟨p0, p1, _, _⟩ := b4.two
    obtain ⟨q0, q1, q2, q3⟩ := b8.two
    clear h hW hB hb hlen e W1 W2 b4 b8 AC
    by_cases h0 : i < 0
    · clear hout
      go_enter Try.func17, Try.ntmps17
      go_wp2
      refine bodyPost_ret (v := .tuple #[.agg #[.int .i64 most, .slice A n c], .int .i64 0, .bool false]) (by simp [results, Try.results17, go_sem, q0, q1, p0, p1]) rfl ⟨_, _, _, rfl, HL.out.keep (Kept.below ?_ HB.out), ?_⟩
      all_goals repeat (first | exact HW2.out | exact Below.refl _ _ | refine below_set2 ?_ (by omega) | refine below_alloc ?_)
    · have hout : (n : Int) ≤ i := by omega
      go_enter Try.func17, Try.ntmps17
      go_wp2
      refine bodyPost_ret (v := .tuple #[.agg #[.int .i64 most, .slice A n c], .int .i64 0, .bool false]) (by simp [results, Try.results17, go_sem, q0, q1, p0, p1]) rfl ⟨_, _, _, rfl, HL.out.keep (Kept.below ?_ HB.out), ?_⟩
      all_goals repeat (first | exact HW2.out | exact Below.refl _ _ | refine below_set2 ?_ (by omega) | refine below_alloc ?_)
  | some x =>
    obtain ⟨h0, hx, hlt⟩ := getI_some e
    obtain ⟨j, rfl⟩ : ∃ j : Nat, i = j := ⟨i.toNat, by omega⟩
    simp only [Int.toNat_natCast] at hx
    have hjn : (j : Int) < (n : Int) := by rw [hlen]; exact hlt
    have HW2 := Lib.hid W2
    have Hb4 := Lib.hid b4
    have Hb8 := Lib.hid b8
    obtain ⟨p0, p1, _, _⟩ := b4.two
    obtain ⟨q0, q1, q2, q3⟩ := b8.two
    by_cases hp : 0 ≤ atP L j k
    · rw [radd_no (.inr hp)]
      generalize atP L j k = at_ at *
      have AC := Lib.hid AC
      clear h hW hB hb hlen e W1 W2 b4 b8 h0 hx hlt
      go_enter Try.func17, Try.ntmps17
      go_wp2_with (first | (go_at_call 29; (with_reducible refine AC.out.mono ?_); rintro e w1 ⟨rfl, hb1⟩; obtain ⟨p0, p1, _, _⟩ := (Hb4.out.below hb1 Hb4.out.lt).two; obtain ⟨q0, q1, q2, q3⟩ := (Hb8.out.below hb1 Hb8.out.lt).two; have HB1 := Lib.hid hb1; clear hb1))
      have hfin : Below w.heap.size w w1 := HW2.out.trans (HB1.out.mono HW2.out.size)
      refine bodyPost_ret (v := .tuple #[.agg #[.int .i64 most, .slice A n c], .int .i64 0, .bool false]) (by simp [results, Try.results17, go_sem, q0, q1, p0, p1]) rfl ⟨_, _, _, rfl, HL.out.keep (Kept.below ?_ HB.out), ?_⟩
      all_goals repeat (first | exact hfin | refine below_set2 ?_ (by omega))
    · have hat : atP L j k = plc k 0 x.l := by unfold atP; rw [e]
      have hres : addP most L j k f = layP most L (addS x k f) := by unfold addP; rw [e]; simp only; rw [if_neg (by rw [← hat]; exact hp)]
      have HRes := Lib.hid hres
      obtain ⟨d, b, off, rfl, hd, rfl, hbl, e0, e1, e2, e3⟩ := h.at_ hx
      have hdep := hW.depth j _ hx
      have hnk : d.nk ≤ 1000000000000 := by rw [hd.nk]; omega
      have hnf : d.nf ≤ 1000000000000 := by rw [hd.nf]; omega
      have hns : d.ns < 1000000000000 := by rw [hd.ns]; omega
      have Hd := Lib.hid hd
      have AC := Lib.hid AC
      have hp' : atP L j k < 0 := by omega
      have CE := Lib.hid (fun (w1 : World) (bb : Below w.heap.size w w1) => show w1.cell? ⟨b, off + j * 4, none⟩ = some (.int .u64 d.p) ∧ w1.cell? ⟨b, off + j * 4 + 1, none⟩ = some (.slice d.Ak d.nk d.ck) ∧ w1.cell? ⟨b, off + j * 4 + 2, none⟩ = some (.slice d.Af d.nf d.cf) ∧ w1.cell? ⟨b, off + j * 4 + 3, none⟩ = some (.slice d.As d.ns d.cz) from
        ⟨(bb.cell (p := ⟨b, off + j * 4, none⟩) hbl).trans e0, (bb.cell (p := ⟨b, off + j * 4 + 1, none⟩) hbl).trans e1, (bb.cell (p := ⟨b, off + j * 4 + 2, none⟩) hbl).trans e2, (bb.cell (p := ⟨b, off + j * 4 + 3, none⟩) hbl).trans e3⟩)
      have HWF := Lib.hid hW
      have Hb := Lib.hid hb
      generalize atP L j k = at_ at *
      obtain ⟨i9, h9, x9, y9, z9⟩ := info_parts info9
      obtain ⟨i3, h3, x3, y3, z3⟩ := info_parts info3
      obtain ⟨i79, h79, x79, y79, z79⟩ := info_parts info79
      clear h hW hB hb hlen e W1 W2 b4 b8 h0 hx hlt hp hat hres hd hdep hbl e0 e1 e2 e3
      go_enter Try.func17, Try.ntmps17
      go_wp2_with (first | (go_at_call 29; (with_reducible refine AC.out.mono ?_); rintro e w1 ⟨rfl, hb1⟩; obtain ⟨p0, p1, _, _⟩ := (Hb4.out.below hb1 Hb4.out.lt).two; obtain ⟨q0, q1, q2, q3⟩ := (Hb8.out.below hb1 Hb8.out.lt).two; obtain ⟨s0, s1, s2, s3⟩ := CE.out _ (HW2.out.trans (hb1.mono HW2.out.size)); have HB1 := Lib.hid hb1; clear hb1) | (at_builtin; refine wpList_append_any _ rfl (.tmp 37) (.tmp 39) 40 rfl (w1.heap.size + 1) 9 i9 _ 1 16 Try.underlying40 h9 x9 y9 z9 rfl (by decide) (.slice (some ⟨w1.heap.size + 1, 0, none⟩) 0 0) 0 [] rfl (own_made1 w1 _ 9 1) _ _ d.nk d.ck (keysV d.x.l) rfl (Hd.out.k.keep (Kept.below (below_alloc (below_alloc (HW2.out.trans (HB1.out.mono HW2.out.size)))) HB.out)).1 (one_keys _) (by unfold maxLen; omega) (by omega) (by simp only [size_alloc]; omega) ?_; intro v1 V1 r1 g1 at1; simp only [Nat.zero_add, List.nil_append] at r1; have bV1 := Lib.hid ((((Below.refl (w1.heap.size + 1) (w1.alloc (.cells #[.int .u64 d.p, .slice d.Ak d.nk d.ck, .slice d.Af d.nf d.cf, .slice d.As d.ns d.cz] 76))).alloc (by rw [size_alloc]; omega) _).grown g1 (by simp only [size_alloc]; omega) (fun j e => by have := (own_made1 w1 (.cells #[.int .u64 d.p, .slice d.Ak d.nk d.ck, .slice d.Af d.nf d.cf, .slice d.As d.ns d.cz] 76) 9 1).lt j e; exact this.1))); obtain ⟨t0, t1, t2, t3⟩ := (((Blk.new w1 76 #[.int .u64 d.p, .slice d.Ak d.nk d.ck, .slice d.Af d.nf d.cf, .slice d.As d.ns d.cz]).below bV1.out (by omega)).alloc (.cells #[] 3)).four; have r1 := Lib.hid r1; clear at1 g1 p0 p1 q0 q1 q2 q3 s0 s1 s2 s3) |
        (at_builtin; refine wpList_append_any _ rfl (.tmp 41) (.tmp 43) 73 rfl V1.heap.size 3 i3 _ 1 8 Try.underlying73 h3 x3 y3 z3 rfl (by decide) (.slice (some ⟨V1.heap.size, 0, none⟩) 0 0) 0 [] rfl (own_made0 V1 3 1) _ _ d.nf d.cf (flagsV d.x.l) rfl (Hd.out.f.keep (Kept.below (below_alloc (below_to HW2.out HB1.out bV1.out)) HB.out)).1 (one_flags _) (by unfold maxLen; omega) (by omega) (by simp only [size_alloc]; omega) ?_; intro v2 V2 r2 g2 at2; simp only [Nat.zero_add, List.nil_append] at r2; have r1 := Lib.hid (own_kept (r1.out.alloc _) (own_made0 V1 3 1) (by decide) g2); have bV2 := Lib.hid (step_copy bV1.out (own_made0 V1 3 1) g2); replace r2 := Lib.hid (own_base (by have := bV1.out.size; rw [size_alloc] at this; exact this) r2); clear t0 t1 t2 t3; obtain ⟨t0, t1, t2, t3⟩ := (((Blk.new w1 76 #[.int .u64 d.p, .slice d.Ak d.nk d.ck, .slice d.Af d.nf d.cf, .slice d.As d.ns d.cz]).below bV2.out (by omega)).alloc (.cells #[] 79)).four; clear at2 g2) |
        (at_builtin; refine wpList_append_any _ rfl (.tmp 45) (.tmp 47) 74 rfl V2.heap.size 79 i79 _ 3 32 Try.underlying74 h79 x79 y79 z79 rfl (by decide) (.slice (some ⟨V2.heap.size, 0, none⟩) 0 0) 0 [] rfl (own_made0 V2 79 3) _ _ d.ns d.cz (d.x.s.flatMap stv) rfl (Hd.out.s.keep (Kept.below (below_alloc (below_to HW2.out HB1.out bV2.out)) HB.out)).1 (flt_one stv_one _) (by unfold maxLen; omega) (by omega) (by simp only [size_alloc]; omega) ?_; intro v3 V r3 g3 at3; simp only [Nat.zero_add, List.nil_append] at r3; have r1 := Lib.hid (own_kept (r1.out.alloc _) (own_made0 V2 79 3) (by decide) g3); have r2 := Lib.hid (own_kept (r2.out.alloc _) (own_made0 V2 79 3) (by decide) g3); have bV3 := Lib.hid (step_copy bV2.out (own_made0 V2 79 3) g3); replace r3 := Lib.hid (own_base (by have := bV2.out.size; rw [size_alloc] at this; exact this) r3); clear t0 t1 t2 t3 at3 g3))
      have hsz : w.heap.size + 2 ≤ w1.heap.size := by have := HB1.out.size; rw [hz] at this; exact this
      have hzV : w1.heap.size + 1 ≤ V.heap.size := by have := bV3.out.size; rw [size_alloc] at this; exact this
      have BW := Lib.hid (fun w' (b' : Below (w1.heap.size + 1) V w') => show Below w.heap.size w w' from (below_to HW2.out HB1.out bV3.out).trans (b'.mono (by omega)))
      have k4 := Lib.hid ((((Hb4.out.below HB1.out Hb4.out.lt).alloc (.cells #[.int .u64 d.p, .slice d.Ak d.nk d.ck, .slice d.Af d.nf d.cf, .slice d.As d.ns d.cz] 76))).below bV3.out (by omega))
      have k8 := Lib.hid ((((Hb8.out.below HB1.out Hb8.out.lt).alloc (.cells #[.int .u64 d.p, .slice d.Ak d.nk d.ck, .slice d.Af d.nf d.cf, .slice d.As d.ns d.cz] 76))).below bV3.out (by omega))
      have k11 := Lib.hid ((Blk.new w1 76 #[.int .u64 d.p, .slice d.Ak d.nk d.ck, .slice d.Af d.nf d.cf, .slice d.As d.ns d.cz]).below bV3.out (by omega))
      have SX := Lib.hid (fun w' (b' : Below (w1.heap.size + 1) V w') => show (fun w' => Below (w1.heap.size + 1) V w' ∧ w'.cell? ⟨w.heap.size, 0, none⟩ = some (.int .i64 most) ∧ w'.cell? ⟨w.heap.size, 1, none⟩ = some (.slice (some ⟨b, off, none⟩) n c) ∧ w'.cell? ⟨w1.heap.size, 0, none⟩ = some (.int .u64 d.p)) w' from
        ⟨b', (b'.cell (p := ⟨w.heap.size, 0, none⟩) (by show w.heap.size < _; omega)).trans (k4.out.cell 0), (b'.cell (p := ⟨w.heap.size, 1, none⟩) (by show w.heap.size < _; omega)).trans (k4.out.cell 1), (b'.cell (p := ⟨w1.heap.size, 0, none⟩) (by show w1.heap.size < _; omega)).trans (k11.out.cell 0)⟩)
      have BX := Lib.hid (fun (w' w9 : World) (b' : Below (w1.heap.size + 1) V w') (b9 : Below w'.heap.size w' w9) => show Blk w9 (w.heap.size + 1) 32 #[.int .i64 0, .slice none 0 0] from ((k8.out.below b' (by omega)).below b9 (by have := b'.size; omega)))
      have LC := Lib.hid (fun (w' : World) (A1 : Option Addr) (c1 : Nat) (A2 : Option Addr) (c2 : Nat) (A3 : Option Addr) (c3 : Nat) (b' : Below (w1.heap.size + 1) V w') (r1 : w'.ownsRow (w1.heap.size + 1) 9 1 (.slice A1 (d.nk + 1) c1) (d.nk + 1) (keysV d.x.l ++ [.string k])) (r2 : w'.ownsRow (w1.heap.size + 1) 3 1 (.slice A2 (d.nf + 1) c2) (d.nf + 1) (flagsV d.x.l ++ [.int .i64 f])) (r3 : w'.ownsRow (w1.heap.size + 1) 79 3 (.slice A3 (d.ns + 1) c3) (d.ns + 1) (d.x.s.flatMap stv ++ [.bool false, .string k, .int .i64 f])) =>
        show Calls Try.prog 28 #[.agg #[.int .i64 most, .slice (some ⟨b, off, none⟩) n c], .agg #[.int .u64 d.p, .slice A1 (d.nk + 1) c1, .slice A2 (d.nf + 1) c2, .slice A3 (d.ns + 1) c3]] w' (RGives w' B most (layP most L (addS d.x k f))) from
        rlay_calls w' B most _ n c L (HL.out.keep (Kept.below (BW.out _ b') HB.out)) HWF.out ⟨d.p, A1, d.nk + 1, c1, A2, d.nf + 1, c2, A3, d.ns + 1, c3, addS d.x k f⟩
          ⟨by show Fix B w' 1 A1 (d.nk + 1) (keysV (d.x.l ++ [⟨k, f⟩])); rw [show keysV (d.x.l ++ [(⟨k, f⟩ : Pr)]) = keysV d.x.l ++ [.string k] by simp [keysV]]; exact Fix.of_own (by decide) r1,
            by show Fix B w' 1 A2 (d.nf + 1) (flagsV (d.x.l ++ [⟨k, f⟩])); rw [show flagsV (d.x.l ++ [(⟨k, f⟩ : Pr)]) = flagsV d.x.l ++ [.int .i64 f] by simp [flagsV]]; exact Fix.of_own (by decide) r2,
            by show Fix B w' 3 A3 (d.ns + 1) ((d.x.s ++ [(⟨false, k, f⟩ : St)]).flatMap stv); rw [List.flatMap_append]; exact Fix.of_own (by decide) r3, Hd.out.p⟩ (Nat.le_trans HB.out (BW.out _ b').size) Hb.out (by simp [addS]; rw [← Hd.out.ns]; omega))
      have hz8 : B ≤ w.heap.size + 1 := by have := HB.out; omega
      have hz8w : w.heap.size ≤ w.heap.size + 1 := by omega
      have r1 := own_drew r1.out
      have r2 := own_drew r2.out
      have r3 := own_drew r3.out
      clear hz AC HW2 Hb4 Hb8 CE HWF Hb HB1 bV1 bV2 bV3 k4 k8 k11 hjn hp'
      refine wp_region_tail (S := (fun w' => Below (w1.heap.size + 1) V w' ∧ w'.cell? ⟨w.heap.size, 0, none⟩ = some (.int .i64 most) ∧ w'.cell? ⟨w.heap.size, 1, none⟩ = some (.slice (some ⟨b, off, none⟩) n c) ∧ w'.cell? ⟨w1.heap.size, 0, none⟩ = some (.int .u64 d.p))) 18 7 rfl (by kernel_rfl) ?_ (fun hHeld => ?_)
      · exact SX.out _ (Below.refl _ _).drew
      refine wpAnyT_take (i := 0) (oi := ?o1) (v := ?v1) ?h1 (by kernel_rfl) (by kernel_rfl) (by kernel_rfl) ?q1 ?y1 (by assumption) ?_
      case h1 => (simp only [List.getElem?_toArray, List.getElem?_cons_succ, List.getElem?_cons_zero]; try rfl)
      case q1 => exact fun _ _ _ h => h
      case y1 => refine Or.inl ⟨by rfl, ?_⟩; (intro w hSw; (try dsimp only at hSw); go_simp; try with_reducible rfl)
      try simp only [Act.put, List.setIfInBounds_toArray, List.set_cons_zero, List.set_cons_succ]
      refine wpAnyT_take (i := 1) (oi := ?o2) (v := ?v2) ?h2 (by kernel_rfl) (by kernel_rfl) (by kernel_rfl) ?q2 ?y2 (by assumption) ?_
      case h2 => (simp only [List.getElem?_toArray, List.getElem?_cons_succ, List.getElem?_cons_zero]; try rfl)
      case q2 => exact fun _ _ _ h => h
      case y2 => refine Or.inl ⟨by rfl, ?_⟩; (intro w hSw; (try dsimp only at hSw); go_simp; try with_reducible rfl)
      try simp only [Act.put, List.setIfInBounds_toArray, List.set_cons_zero, List.set_cons_succ]
      refine wpAnyT_take (i := 2) (oi := ?o3) (v := ?v3) ?h3 (by kernel_rfl) (by kernel_rfl) (by kernel_rfl) ?q3 ?y3 (by assumption) ?_
      case h3 => (simp only [List.getElem?_toArray, List.getElem?_cons_succ, List.getElem?_cons_zero]; try rfl)
      case q3 => exact fun _ _ _ h => h
      case y3 => refine Or.inl ⟨by rfl, ?_⟩; (intro w hSw; (try dsimp only at hSw); go_simp; try with_reducible rfl)
      try simp only [Act.put, List.setIfInBounds_toArray, List.set_cons_zero, List.set_cons_succ]
      refine wpAnyT_take (i := 3) (oi := ?o4) (v := ?v4) ?h4 (by kernel_rfl) (by kernel_rfl) (by kernel_rfl) ?q4 ?y4 (by assumption) ?_
      case h4 => (simp only [List.getElem?_toArray, List.getElem?_cons_succ, List.getElem?_cons_zero]; try rfl)
      case q4 => exact fun _ _ _ h => h
      case y4 => refine Or.inl ⟨by rfl, ?_⟩; (intro w hSw; (try dsimp only at hSw); go_simp; try with_reducible rfl)
      try simp only [Act.put, List.setIfInBounds_toArray, List.set_cons_zero, List.set_cons_succ]
      refine wpAnyT_take (i := 4) (oi := ?o5) (v := ?v5) ?h5 (by kernel_rfl) (by kernel_rfl) (by kernel_rfl) ?q5 ?y5 (by assumption) ?_
      case h5 => (simp only [List.getElem?_toArray, List.getElem?_cons_succ, List.getElem?_cons_zero]; try rfl)
      case q5 => exact fun _ _ _ h => h
      case y5 => refine Or.inl ⟨by rfl, ?_⟩; (intro w hSw; (try dsimp only at hSw); go_simp; try with_reducible rfl)
      try simp only [Act.put, List.setIfInBounds_toArray, List.set_cons_zero, List.set_cons_succ]
      refine wpAnyT_take (i := 7) (oi := ?o6) (v := ?v6) ?h6 (by kernel_rfl) (by kernel_rfl) (by kernel_rfl) ?q6 ?y6 (by assumption) ?_
      case h6 => (simp only [List.getElem?_toArray, List.getElem?_cons_succ, List.getElem?_cons_zero]; try rfl)
      case q6 => exact fun _ _ _ h => h
      case y6 => refine Or.inl ⟨by rfl, ?_⟩; (intro w hSw; (try dsimp only at hSw); go_simp; try with_reducible rfl)
      try simp only [Act.put, List.setIfInBounds_toArray, List.set_cons_zero, List.set_cons_succ]
      refine wpAnyT_take (i := 8) (oi := ?o7) (v := ?v7) ?h7 (by kernel_rfl) (by kernel_rfl) (by kernel_rfl) ?q7 ?y7 (by assumption) ?_
      case h7 => (simp only [List.getElem?_toArray, List.getElem?_cons_succ, List.getElem?_cons_zero]; try rfl)
      case q7 => exact fun _ _ _ h => h
      case y7 => refine Or.inl ⟨by rfl, ?_⟩; (intro w hSw; (try dsimp only at hSw); go_simp; try with_reducible rfl)
      try simp only [Act.put, List.setIfInBounds_toArray, List.set_cons_zero, List.set_cons_succ]
      refine wpAnyT_take (i := 11) (oi := ?o8) (v := ?v8) ?h8 (by kernel_rfl) (by kernel_rfl) (by kernel_rfl) ?q8 ?y8 (by assumption) ?_
      case h8 => (simp only [List.getElem?_toArray, List.getElem?_cons_succ, List.getElem?_cons_zero]; try rfl)
      case q8 => exact fun _ _ _ h => h
      case y8 => refine Or.inl ⟨by rfl, ?_⟩; (intro w hSw; (try dsimp only at hSw); go_simp; try with_reducible rfl)
      try simp only [Act.put, List.setIfInBounds_toArray, List.set_cons_zero, List.set_cons_succ]
      refine wpAnyT_take (i := 12) (oi := ?o9) (v := ?v9) ?h9 (by kernel_rfl) (by kernel_rfl) (by kernel_rfl) ?q9 ?y9 (by assumption) ?_
      case h9 => (simp only [List.getElem?_toArray, List.getElem?_cons_succ, List.getElem?_cons_zero]; try rfl)
      case q9 => exact fun _ _ _ h => h
      case y9 => refine Or.inl ⟨by rfl, ?_⟩; (intro w hSw; (try dsimp only at hSw); go_simp; try with_reducible rfl)
      try simp only [Act.put, List.setIfInBounds_toArray, List.set_cons_zero, List.set_cons_succ]
      refine wpAnyT_take (i := 13) (oi := ?o10) (v := ?v10) ?h10 (by kernel_rfl) (by kernel_rfl) (by kernel_rfl) ?q10 ?y10 (by assumption) ?_
      case h10 => (simp only [List.getElem?_toArray, List.getElem?_cons_succ, List.getElem?_cons_zero]; try rfl)
      case q10 => exact fun _ _ _ h => h
      case y10 => refine Or.inl ⟨by rfl, ?_⟩; (intro w hSw; (try dsimp only at hSw); go_simp; try with_reducible rfl)
      try simp only [Act.put, List.setIfInBounds_toArray, List.set_cons_zero, List.set_cons_succ]
      refine wpAnyT_take (i := 14) (oi := ?o11) (v := ?v11) ?h11 (by kernel_rfl) (by kernel_rfl) (by kernel_rfl) ?q11 ?y11 (by assumption) ?_
      case h11 => (simp only [List.getElem?_toArray, List.getElem?_cons_succ, List.getElem?_cons_zero]; try rfl)
      case q11 => exact fun _ _ _ h => h
      case y11 => refine Or.inl ⟨by rfl, ?_⟩; (intro w hSw; (try dsimp only at hSw); go_simp; try with_reducible rfl)
      try simp only [Act.put, List.setIfInBounds_toArray, List.set_cons_zero, List.set_cons_succ]
      refine wpAnyT_ready (rs := [5, 9, 15]) (by kernel_rfl) (by simp) ?_
      refine (AllReadyT.cons (by decide) (i := 5) (o := ?o12) ?h12 (fun K hK => ?k12) (AllReadyT.cons (by decide) (i := 9) (o := ?o13) ?h13 (fun K hK => ?k13) (AllReadyT.cons (by decide) (i := 15) (o := ?o14) ?h14 (fun K hK => ?k14) AllReadyT.nil)))
      case h12 => (simp only [List.getElem?_toArray, List.getElem?_cons_succ, List.getElem?_cons_zero]; try rfl)
      case k12 =>
        go_simp
        try go_wp2_with fail
        refine hK.out _ _ ?_ (fun hHeld => ?_)
        · exact SX.out _ (hHeld.1.alloc (by have := hHeld.1.size; omega) _)
        clear hK K
        (replace r1 := World.ownsRow.alloc r1 (.cells #[.string k] 9); replace r2 := World.ownsRow.alloc r2 (.cells #[.string k] 9); replace r3 := World.ownsRow.alloc r3 (.cells #[.string k] 9); (try replace k2 := Blk.alloc k2 (.cells #[.string k] 9)); (try replace k3 := Blk.alloc k3 (.cells #[.string k] 9)); have k1 := mk_blk r1; (try simp only [size_alloc] at k1))
        try simp only [Act.put, List.setIfInBounds_toArray, List.set_cons_zero, List.set_cons_succ]
        refine wpAnyT_ready (rs := [6, 9, 15]) (by kernel_rfl) (by simp) ?_
        refine (AllReadyT.cons (by decide) (i := 6) (o := ?o15) ?h15 (fun K hK => ?k15) (AllReadyT.cons (by decide) (i := 9) (o := ?o16) ?h16 (fun K hK => ?k16) (AllReadyT.cons (by decide) (i := 15) (o := ?o17) ?h17 (fun K hK => ?k17) AllReadyT.nil)))
        case h15 => (simp only [List.getElem?_toArray, List.getElem?_cons_succ, List.getElem?_cons_zero]; try rfl)
        case k15 =>
          (refine step_append_any _ rfl (.tmp 52) (.tmp 54) 40 rfl (w1.heap.size + 1) 9 i9 _ 1 16 Try.underlying40 h9 x9 y9 z9 rfl (by decide) _ d.nk _ rfl r1 _ _ 1 1 [.string k] rfl (reads_blkS k1 rfl) one_s (by unfold maxLen; omega) (by omega) (by have := hHeld.1.size; omega) ?_; intro vA wA rA gA atA; have r2 := own_kept r2 r1 (by decide) gA; have r3 := own_kept r3 r1 (by decide) gA; (try have k2 := blk_kept k2 r1 (by decide) gA); (try have k3 := blk_kept k3 r1 (by decide) gA); have bA := hHeld.1.grown gA (by have := hHeld.1.size; omega) (fun j e => (r1.lt j e).1); obtain ⟨A1, c1, rfl⟩ := own_is_slice rA; replace r1 := rA; clear atA gA)
          refine hK.out _ _ ?_ (fun hHeld => ?_)
          · exact SX.out _ bA
          clear hK K
          try simp only [Act.put, List.setIfInBounds_toArray, List.set_cons_zero, List.set_cons_succ]
          refine wpAnyT_ready (rs := [9, 15]) (by kernel_rfl) (by simp) ?_
          refine (AllReadyT.cons (by decide) (i := 9) (o := ?o18) ?h18 (fun K hK => ?k18) (AllReadyT.cons (by decide) (i := 15) (o := ?o19) ?h19 (fun K hK => ?k19) AllReadyT.nil))
          case h18 => (simp only [List.getElem?_toArray, List.getElem?_cons_succ, List.getElem?_cons_zero]; try rfl)
          case k18 =>
            go_simp
            try go_wp2_with fail
            refine hK.out _ _ ?_ (fun hHeld => ?_)
            · exact SX.out _ (hHeld.1.alloc (by have := hHeld.1.size; omega) _)
            clear hK K
            (replace r1 := World.ownsRow.alloc r1 (.cells #[.int .i64 f] 3); replace r2 := World.ownsRow.alloc r2 (.cells #[.int .i64 f] 3); replace r3 := World.ownsRow.alloc r3 (.cells #[.int .i64 f] 3); (try replace k1 := Blk.alloc k1 (.cells #[.int .i64 f] 3)); (try replace k3 := Blk.alloc k3 (.cells #[.int .i64 f] 3)); have k2 := mk_blk r1; (try simp only [size_alloc] at k2))
            try simp only [Act.put, List.setIfInBounds_toArray, List.set_cons_zero, List.set_cons_succ]
            refine wpAnyT_ready (rs := [10, 15]) (by kernel_rfl) (by simp) ?_
            refine (AllReadyT.cons (by decide) (i := 10) (o := ?o20) ?h20 (fun K hK => ?k20) (AllReadyT.cons (by decide) (i := 15) (o := ?o21) ?h21 (fun K hK => ?k21) AllReadyT.nil))
            case h20 => (simp only [List.getElem?_toArray, List.getElem?_cons_succ, List.getElem?_cons_zero]; try rfl)
            case k20 =>
              (refine step_append_any _ rfl (.tmp 56) (.tmp 58) 73 rfl (w1.heap.size + 1) 3 i3 _ 1 8 Try.underlying73 h3 x3 y3 z3 rfl (by decide) _ d.nf _ rfl r2 _ _ 1 1 [.int .i64 f] rfl (reads_blkS k2 rfl) one_i (by unfold maxLen; omega) (by omega) (by have := hHeld.1.size; omega) ?_; intro vA wA rA gA atA; have r1 := own_kept r1 r2 (by decide) gA; have r3 := own_kept r3 r2 (by decide) gA; (try have k1 := blk_kept k1 r2 (by decide) gA); (try have k3 := blk_kept k3 r2 (by decide) gA); have bA := hHeld.1.grown gA (by have := hHeld.1.size; omega) (fun j e => (r2.lt j e).1); obtain ⟨A2, c2, rfl⟩ := own_is_slice rA; replace r2 := rA; clear atA gA)
              refine hK.out _ _ ?_ (fun hHeld => ?_)
              · exact SX.out _ bA
              clear hK K
              try simp only [Act.put, List.setIfInBounds_toArray, List.set_cons_zero, List.set_cons_succ]
              refine wpAnyT_ready (rs := [15]) (by kernel_rfl) (by simp) ?_
              refine (AllReadyT.cons (by decide) (i := 15) (o := ?o22) ?h22 (fun K hK => ?k22) AllReadyT.nil)
              case h22 => (simp only [List.getElem?_toArray, List.getElem?_cons_succ, List.getElem?_cons_zero]; try rfl)
              case k22 =>
                go_simp
                try go_wp2_with fail
                refine hK.out _ _ ?_ (fun hHeld => ?_)
                · exact SX.out _ (hHeld.1.alloc (by have := hHeld.1.size; omega) _)
                clear hK K
                (replace r1 := World.ownsRow.alloc r1 (.cells #[.bool false, .string k, .int .i64 f] 79); replace r2 := World.ownsRow.alloc r2 (.cells #[.bool false, .string k, .int .i64 f] 79); replace r3 := World.ownsRow.alloc r3 (.cells #[.bool false, .string k, .int .i64 f] 79); (try replace k1 := Blk.alloc k1 (.cells #[.bool false, .string k, .int .i64 f] 79)); (try replace k2 := Blk.alloc k2 (.cells #[.bool false, .string k, .int .i64 f] 79)); have k3 := mk_blk r1; (try simp only [size_alloc] at k3))
                try simp only [Act.put, List.setIfInBounds_toArray, List.set_cons_zero, List.set_cons_succ]
                refine wpAnyT_ready (rs := [16]) (by kernel_rfl) (by simp) ?_
                refine (AllReadyT.cons (by decide) (i := 16) (o := ?o23) ?h23 (fun K hK => ?k23) AllReadyT.nil)
                case h23 => (simp only [List.getElem?_toArray, List.getElem?_cons_succ, List.getElem?_cons_zero]; try rfl)
                case k23 =>
                  (refine step_append_any _ rfl (.tmp 60) (.tmp 64) 74 rfl (w1.heap.size + 1) 79 i79 _ 3 32 Try.underlying74 h79 x79 y79 z79 rfl (by decide) _ d.ns _ rfl r3 _ _ 1 1 [.bool false, .string k, .int .i64 f] rfl (reads_blkS k3 rfl) (stv_one ⟨false, k, f⟩) (by unfold maxLen; omega) (by omega) (by have := hHeld.1.size; omega) ?_; intro vA wA rA gA atA; have r1 := own_kept r1 r3 (by decide) gA; have r2 := own_kept r2 r3 (by decide) gA; (try have k1 := blk_kept k1 r3 (by decide) gA); (try have k2 := blk_kept k2 r3 (by decide) gA); have bA := hHeld.1.grown gA (by have := hHeld.1.size; omega) (fun j e => (r3.lt j e).1); obtain ⟨A3, c3, rfl⟩ := own_is_slice rA; replace r3 := rA; clear atA gA)
                  refine hK.out _ _ ?_ (fun hHeld => ?_)
                  · exact SX.out _ bA
                  clear hK K
                  try simp only [Act.put, List.setIfInBounds_toArray, List.set_cons_zero, List.set_cons_succ]
                  refine wpAnyT_take (i := 17) (oi := ?o24) (v := ?v24) ?h24 (by kernel_rfl) (by kernel_rfl) (by kernel_rfl) ?q24 ?y24 (by assumption) ?_
                  case h24 => (simp only [List.getElem?_toArray, List.getElem?_cons_succ, List.getElem?_cons_zero]; try rfl)
                  case q24 => exact fun _ _ _ h => h
                  case y24 => refine Or.inl ⟨by rfl, ?_⟩; (intro w hSw; (try dsimp only at hSw); go_simp; try with_reducible rfl)
                  try simp only [Act.put, List.setIfInBounds_toArray, List.set_cons_zero, List.set_cons_succ]
                  refine wpAnyT_done (by kernel_rfl) ?_
                  refine wpAnyH_ready (rs := [18]) (by kernel_rfl) (by simp) ?_
                  refine (AllReadyH.cons (i := 18) (o := ?o25) ?h25 (fun K hK => ?k25) AllReadyH.nil)
                  case h25 => (simp only [List.getElem?_toArray, List.getElem?_cons_succ, List.getElem?_cons_zero]; try rfl)
                  case k25 =>
                    go_simp
                    ((with_reducible refine (LC.out _ A1 c1 A2 c2 A3 c3 bA r1 r2 r3).mono ?_); rintro e w9 ⟨A9, n9, c9, rfl, ht, bb⟩; obtain ⟨x0, x1, x2, x3⟩ := (BX.out _ _ bA bb).two; have ht := Lib.hid ht)
                    try go_wp2_with fail
                    refine hK.out _ _ ?_ (fun hHeld => ?_)
                    · trivial
                    clear hK K
                    try simp only [Act.put, List.setIfInBounds_toArray, List.set_cons_zero, List.set_cons_succ]
                    refine wpAnyH_take (i := 19) (oi := ?o26) (v := ?v26) ?h26 (by kernel_rfl) (by kernel_rfl) (by kernel_rfl) ?q26 ?y26 (by assumption) ?_
                    case h26 => (simp only [List.getElem?_toArray, List.getElem?_cons_succ, List.getElem?_cons_zero]; try rfl)
                    case q26 => exact fun _ _ _ h => h
                    case y26 => refine Or.inl ⟨by rfl, ?_⟩; (intro w hSw; (try dsimp only at hSw); go_simp; try with_reducible rfl)
                    try simp only [Act.put, List.setIfInBounds_toArray, List.set_cons_zero, List.set_cons_succ]
                    refine wpAnyH_take (i := 20) (oi := ?o27) (v := ?v27) ?h27 (by kernel_rfl) (by kernel_rfl) (by kernel_rfl) ?q27 ?y27 (by assumption) ?_
                    case h27 => (simp only [List.getElem?_toArray, List.getElem?_cons_succ, List.getElem?_cons_zero]; try rfl)
                    case q27 => exact fun _ _ _ h => h
                    case y27 => refine Or.inl ⟨by rfl, ?_⟩; (intro w hSw; (try dsimp only at hSw); go_simp; try with_reducible rfl)
                    try simp only [Act.put, List.setIfInBounds_toArray, List.set_cons_zero, List.set_cons_succ]
                    refine wpAnyH_take (i := 21) (oi := ?o28) (v := ?v28) ?h28 (by kernel_rfl) (by kernel_rfl) (by kernel_rfl) ?q28 ?y28 (by assumption) ?_
                    case h28 => (simp only [List.getElem?_toArray, List.getElem?_cons_succ, List.getElem?_cons_zero]; try rfl)
                    case q28 => exact fun _ _ _ h => h
                    case y28 => refine Or.inl ⟨by rfl, ?_⟩; (intro w hSw; (try dsimp only at hSw); go_simp; try with_reducible rfl)
                    try simp only [Act.put, List.setIfInBounds_toArray, List.set_cons_zero, List.set_cons_succ]
                    refine wpAnyH_ready (rs := [22]) (by kernel_rfl) (by simp) ?_
                    refine (AllReadyH.cons (i := 22) (o := ?o29) ?h29 (fun K hK => ?k29) AllReadyH.nil)
                    case h29 => (simp only [List.getElem?_toArray, List.getElem?_cons_succ, List.getElem?_cons_zero]; try rfl)
                    case k29 =>
                      go_simp
                      try go_wp2_with fail
                      refine hK.out _ _ ?_ (fun hHeld => ?_)
                      · trivial
                      clear hK K
                      try simp only [Act.put, List.setIfInBounds_toArray, List.set_cons_zero, List.set_cons_succ]
                      refine wpAnyH_take (i := 23) (oi := ?o30) (v := ?v30) ?h30 (by kernel_rfl) (by kernel_rfl) (by kernel_rfl) ?q30 ?y30 (by assumption) ?_
                      case h30 => (simp only [List.getElem?_toArray, List.getElem?_cons_succ, List.getElem?_cons_zero]; try rfl)
                      case q30 => exact fun _ _ _ h => h
                      case y30 => refine Or.inl ⟨by rfl, ?_⟩; (intro w hSw; (try dsimp only at hSw); go_simp; try with_reducible rfl)
                      try simp only [Act.put, List.setIfInBounds_toArray, List.set_cons_zero, List.set_cons_succ]
                      refine wpAnyH_take (i := 24) (oi := ?o31) (v := ?v31) ?h31 (by kernel_rfl) (by kernel_rfl) (by kernel_rfl) ?q31 ?y31 (by assumption) ?_
                      case h31 => (simp only [List.getElem?_toArray, List.getElem?_cons_succ, List.getElem?_cons_zero]; try rfl)
                      case q31 => exact fun _ _ _ h => h
                      case y31 => refine Or.inl ⟨by rfl, ?_⟩; (intro w hSw; (try dsimp only at hSw); go_simp; try with_reducible rfl)
                      try simp only [Act.put, List.setIfInBounds_toArray, List.set_cons_zero, List.set_cons_succ]
                      refine wpAnyH_done (by kernel_rfl) ?_ _
                      go_wp2
                      refine bodyPost_ret (v := .tuple #[.agg #[.int .i64 most, .slice A9 n9 c9], .int .i64 (layP most L (addS d.x k f)).2.1, .bool (layP most L (addS d.x k f)).2.2]) (by simp [results, Try.results17, go_sem, x0, x1]) rfl ⟨_, _, _, by rw [HRes.out], by rw [HRes.out]; exact (ht.out.set32 (BX.out _ _ bA bb) hz8 _ _).set32 ((BX.out _ _ bA bb).set_ 0 _) hz8 _ _, ?_⟩
                      exact below_set2 (below_set2 ((BW.out _ bA).trans (bb.mono (BW.out _ bA).size)) hz8w) hz8w
            case h21 => (simp only [List.getElem?_toArray, List.getElem?_cons_succ, List.getElem?_cons_zero]; try rfl)
            case k21 =>
              go_simp
              try go_wp2_with fail
              refine hK.out _ _ ?_ (fun hHeld => ?_)
              · exact SX.out _ (hHeld.1.alloc (by have := hHeld.1.size; omega) _)
              clear hK K
              (replace r1 := World.ownsRow.alloc r1 (.cells #[.bool false, .string k, .int .i64 f] 79); replace r2 := World.ownsRow.alloc r2 (.cells #[.bool false, .string k, .int .i64 f] 79); replace r3 := World.ownsRow.alloc r3 (.cells #[.bool false, .string k, .int .i64 f] 79); (try replace k1 := Blk.alloc k1 (.cells #[.bool false, .string k, .int .i64 f] 79)); (try replace k2 := Blk.alloc k2 (.cells #[.bool false, .string k, .int .i64 f] 79)); have k3 := mk_blk r1; (try simp only [size_alloc] at k3))
              try simp only [Act.put, List.setIfInBounds_toArray, List.set_cons_zero, List.set_cons_succ]
              refine wpAnyT_ready (rs := [10]) (by kernel_rfl) (by simp) ?_
              refine (AllReadyT.cons (by decide) (i := 10) (o := ?o32) ?h32 (fun K hK => ?k32) AllReadyT.nil)
              case h32 => (simp only [List.getElem?_toArray, List.getElem?_cons_succ, List.getElem?_cons_zero]; try rfl)
              case k32 =>
                (refine step_append_any _ rfl (.tmp 56) (.tmp 58) 73 rfl (w1.heap.size + 1) 3 i3 _ 1 8 Try.underlying73 h3 x3 y3 z3 rfl (by decide) _ d.nf _ rfl r2 _ _ 1 1 [.int .i64 f] rfl (reads_blkS k2 rfl) one_i (by unfold maxLen; omega) (by omega) (by have := hHeld.1.size; omega) ?_; intro vA wA rA gA atA; have r1 := own_kept r1 r2 (by decide) gA; have r3 := own_kept r3 r2 (by decide) gA; (try have k1 := blk_kept k1 r2 (by decide) gA); (try have k3 := blk_kept k3 r2 (by decide) gA); have bA := hHeld.1.grown gA (by have := hHeld.1.size; omega) (fun j e => (r2.lt j e).1); obtain ⟨A2, c2, rfl⟩ := own_is_slice rA; replace r2 := rA; clear atA gA)
                refine hK.out _ _ ?_ (fun hHeld => ?_)
                · exact SX.out _ bA
                clear hK K
                try simp only [Act.put, List.setIfInBounds_toArray, List.set_cons_zero, List.set_cons_succ]
                refine wpAnyT_ready (rs := [16]) (by kernel_rfl) (by simp) ?_
                refine (AllReadyT.cons (by decide) (i := 16) (o := ?o33) ?h33 (fun K hK => ?k33) AllReadyT.nil)
                case h33 => (simp only [List.getElem?_toArray, List.getElem?_cons_succ, List.getElem?_cons_zero]; try rfl)
                case k33 =>
                  (refine step_append_any _ rfl (.tmp 60) (.tmp 64) 74 rfl (w1.heap.size + 1) 79 i79 _ 3 32 Try.underlying74 h79 x79 y79 z79 rfl (by decide) _ d.ns _ rfl r3 _ _ 1 1 [.bool false, .string k, .int .i64 f] rfl (reads_blkS k3 rfl) (stv_one ⟨false, k, f⟩) (by unfold maxLen; omega) (by omega) (by have := hHeld.1.size; omega) ?_; intro vA wA rA gA atA; have r1 := own_kept r1 r3 (by decide) gA; have r2 := own_kept r2 r3 (by decide) gA; (try have k1 := blk_kept k1 r3 (by decide) gA); (try have k2 := blk_kept k2 r3 (by decide) gA); have bA := hHeld.1.grown gA (by have := hHeld.1.size; omega) (fun j e => (r3.lt j e).1); obtain ⟨A3, c3, rfl⟩ := own_is_slice rA; replace r3 := rA; clear atA gA)
                  refine hK.out _ _ ?_ (fun hHeld => ?_)
                  · exact SX.out _ bA
                  clear hK K
                  try simp only [Act.put, List.setIfInBounds_toArray, List.set_cons_zero, List.set_cons_succ]
                  refine wpAnyT_take (i := 17) (oi := ?o34) (v := ?v34) ?h34 (by kernel_rfl) (by kernel_rfl) (by kernel_rfl) ?q34 ?y34 (by assumption) ?_
                  case h34 => (simp only [List.getElem?_toArray, List.getElem?_cons_succ, List.getElem?_cons_zero]; try rfl)
                  case q34 => exact fun _ _ _ h => h
                  case y34 => refine Or.inl ⟨by rfl, ?_⟩; (intro w hSw; (try dsimp only at hSw); go_simp; try with_reducible rfl)
                  try simp only [Act.put, List.setIfInBounds_toArray, List.set_cons_zero, List.set_cons_succ]
                  refine wpAnyT_done (by kernel_rfl) ?_
                  refine wpAnyH_ready (rs := [18]) (by kernel_rfl) (by simp) ?_
                  refine (AllReadyH.cons (i := 18) (o := ?o35) ?h35 (fun K hK => ?k35) AllReadyH.nil)
                  case h35 => (simp only [List.getElem?_toArray, List.getElem?_cons_succ, List.getElem?_cons_zero]; try rfl)
                  case k35 =>
                    go_simp
                    ((with_reducible refine (LC.out _ A1 c1 A2 c2 A3 c3 bA r1 r2 r3).mono ?_); rintro e w9 ⟨A9, n9, c9, rfl, ht, bb⟩; obtain ⟨x0, x1, x2, x3⟩ := (BX.out _ _ bA bb).two; have ht := Lib.hid ht)
                    try go_wp2_with fail
                    refine hK.out _ _ ?_ (fun hHeld => ?_)
                    · trivial
                    clear hK K
                    try simp only [Act.put, List.setIfInBounds_toArray, List.set_cons_zero, List.set_cons_succ]
                    refine wpAnyH_take (i := 19) (oi := ?o36) (v := ?v36) ?h36 (by kernel_rfl) (by kernel_rfl) (by kernel_rfl) ?q36 ?y36 (by assumption) ?_
                    case h36 => (simp only [List.getElem?_toArray, List.getElem?_cons_succ, List.getElem?_cons_zero]; try rfl)
                    case q36 => exact fun _ _ _ h => h
                    case y36 => refine Or.inl ⟨by rfl, ?_⟩; (intro w hSw; (try dsimp only at hSw); go_simp; try with_reducible rfl)
                    try simp only [Act.put, List.setIfInBounds_toArray, List.set_cons_zero, List.set_cons_succ]
                    refine wpAnyH_take (i := 20) (oi := ?o37) (v := ?v37) ?h37 (by kernel_rfl) (by kernel_rfl) (by kernel_rfl) ?q37 ?y37 (by assumption) ?_
                    case h37 => (simp only [List.getElem?_toArray, List.getElem?_cons_succ, List.getElem?_cons_zero]; try rfl)
                    case q37 => exact fun _ _ _ h => h
                    case y37 => refine Or.inl ⟨by rfl, ?_⟩; (intro w hSw; (try dsimp only at hSw); go_simp; try with_reducible rfl)
                    try simp only [Act.put, List.setIfInBounds_toArray, List.set_cons_zero, List.set_cons_succ]
                    refine wpAnyH_take (i := 21) (oi := ?o38) (v := ?v38) ?h38 (by kernel_rfl) (by kernel_rfl) (by kernel_rfl) ?q38 ?y38 (by assumption) ?_
                    case h38 => (simp only [List.getElem?_toArray, List.getElem?_cons_succ, List.getElem?_cons_zero]; try rfl)
                    case q38 => exact fun _ _ _ h => h
                    case y38 => refine Or.inl ⟨by rfl, ?_⟩; (intro w hSw; (try dsimp only at hSw); go_simp; try with_reducible rfl)
                    try simp only [Act.put, List.setIfInBounds_toArray, List.set_cons_zero, List.set_cons_succ]
                    refine wpAnyH_ready (rs := [22]) (by kernel_rfl) (by simp) ?_
                    refine (AllReadyH.cons (i := 22) (o := ?o39) ?h39 (fun K hK => ?k39) AllReadyH.nil)
                    case h39 => (simp only [List.getElem?_toArray, List.getElem?_cons_succ, List.getElem?_cons_zero]; try rfl)
                    case k39 =>
                      go_simp
                      try go_wp2_with fail
                      refine hK.out _ _ ?_ (fun hHeld => ?_)
                      · trivial
                      clear hK K
                      try simp only [Act.put, List.setIfInBounds_toArray, List.set_cons_zero, List.set_cons_succ]
                      refine wpAnyH_take (i := 23) (oi := ?o40) (v := ?v40) ?h40 (by kernel_rfl) (by kernel_rfl) (by kernel_rfl) ?q40 ?y40 (by assumption) ?_
                      case h40 => (simp only [List.getElem?_toArray, List.getElem?_cons_succ, List.getElem?_cons_zero]; try rfl)
                      case q40 => exact fun _ _ _ h => h
                      case y40 => refine Or.inl ⟨by rfl, ?_⟩; (intro w hSw; (try dsimp only at hSw); go_simp; try with_reducible rfl)
                      try simp only [Act.put, List.setIfInBounds_toArray, List.set_cons_zero, List.set_cons_succ]
                      refine wpAnyH_take (i := 24) (oi := ?o41) (v := ?v41) ?h41 (by kernel_rfl) (by kernel_rfl) (by kernel_rfl) ?q41 ?y41 (by assumption) ?_
                      case h41 => (simp only [List.getElem?_toArray, List.getElem?_cons_succ, List.getElem?_cons_zero]; try rfl)
                      case q41 => exact fun _ _ _ h => h
                      case y41 => refine Or.inl ⟨by rfl, ?_⟩; (intro w hSw; (try dsimp only at hSw); go_simp; try with_reducible rfl)
                      try simp only [Act.put, List.setIfInBounds_toArray, List.set_cons_zero, List.set_cons_succ]
                      refine wpAnyH_done (by kernel_rfl) ?_ _
                      go_wp2
                      refine bodyPost_ret (v := .tuple #[.agg #[.int .i64 most, .slice A9 n9 c9], .int .i64 (layP most L (addS d.x k f)).2.1, .bool (layP most L (addS d.x k f)).2.2]) (by simp [results, Try.results17, go_sem, x0, x1]) rfl ⟨_, _, _, by rw [HRes.out], by rw [HRes.out]; exact (ht.out.set32 (BX.out _ _ bA bb) hz8 _ _).set32 ((BX.out _ _ bA bb).set_ 0 _) hz8 _ _, ?_⟩
                      exact below_set2 (below_set2 ((BW.out _ bA).trans (bb.mono (BW.out _ bA).size)) hz8w) hz8w
          case h19 => (simp only [List.getElem?_toArray, List.getElem?_cons_succ, List.getElem?_cons_zero]; try rfl)
          case k19 =>
            go_simp
            try go_wp2_with fail
            refine hK.out _ _ ?_ (fun hHeld => ?_)
            · exact SX.out _ (hHeld.1.alloc (by have := hHeld.1.size; omega) _)
            clear hK K
            (replace r1 := World.ownsRow.alloc r1 (.cells #[.bool false, .string k, .int .i64 f] 79); replace r2 := World.ownsRow.alloc r2 (.cells #[.bool false, .string k, .int .i64 f] 79); replace r3 := World.ownsRow.alloc r3 (.cells #[.bool false, .string k, .int .i64 f] 79); (try replace k1 := Blk.alloc k1 (.cells #[.bool false, .string k, .int .i64 f] 79)); (try replace k2 := Blk.alloc k2 (.cells #[.bool false, .string k, .int .i64 f] 79)); have k3 := mk_blk r1; (try simp only [size_alloc] at k3))
            try simp only [Act.put, List.setIfInBounds_toArray, List.set_cons_zero, List.set_cons_succ]
            refine wpAnyT_ready (rs := [9]) (by kernel_rfl) (by simp) ?_
            refine (AllReadyT.cons (by decide) (i := 9) (o := ?o42) ?h42 (fun K hK => ?k42) AllReadyT.nil)
            case h42 => (simp only [List.getElem?_toArray, List.getElem?_cons_succ, List.getElem?_cons_zero]; try rfl)
            case k42 =>
              go_simp
              try go_wp2_with fail
              refine hK.out _ _ ?_ (fun hHeld => ?_)
              · exact SX.out _ (hHeld.1.alloc (by have := hHeld.1.size; omega) _)
              clear hK K
              (replace r1 := World.ownsRow.alloc r1 (.cells #[.int .i64 f] 3); replace r2 := World.ownsRow.alloc r2 (.cells #[.int .i64 f] 3); replace r3 := World.ownsRow.alloc r3 (.cells #[.int .i64 f] 3); (try replace k1 := Blk.alloc k1 (.cells #[.int .i64 f] 3)); (try replace k3 := Blk.alloc k3 (.cells #[.int .i64 f] 3)); have k2 := mk_blk r1; (try simp only [size_alloc] at k2))
              try simp only [Act.put, List.setIfInBounds_toArray, List.set_cons_zero, List.set_cons_succ]
              refine wpAnyT_ready (rs := [10]) (by kernel_rfl) (by simp) ?_
              refine (AllReadyT.cons (by decide) (i := 10) (o := ?o43) ?h43 (fun K hK => ?k43) AllReadyT.nil)
              case h43 => (simp only [List.getElem?_toArray, List.getElem?_cons_succ, List.getElem?_cons_zero]; try rfl)
              case k43 =>
                (refine step_append_any _ rfl (.tmp 56) (.tmp 58) 73 rfl (w1.heap.size + 1) 3 i3 _ 1 8 Try.underlying73 h3 x3 y3 z3 rfl (by decide) _ d.nf _ rfl r2 _ _ 1 1 [.int .i64 f] rfl (reads_blkS k2 rfl) one_i (by unfold maxLen; omega) (by omega) (by have := hHeld.1.size; omega) ?_; intro vA wA rA gA atA; have r1 := own_kept r1 r2 (by decide) gA; have r3 := own_kept r3 r2 (by decide) gA; (try have k1 := blk_kept k1 r2 (by decide) gA); (try have k3 := blk_kept k3 r2 (by decide) gA); have bA := hHeld.1.grown gA (by have := hHeld.1.size; omega) (fun j e => (r2.lt j e).1); obtain ⟨A2, c2, rfl⟩ := own_is_slice rA; replace r2 := rA; clear atA gA)
                refine hK.out _ _ ?_ (fun hHeld => ?_)
                · exact SX.out _ bA
                clear hK K
                try simp only [Act.put, List.setIfInBounds_toArray, List.set_cons_zero, List.set_cons_succ]
                refine wpAnyT_ready (rs := [16]) (by kernel_rfl) (by simp) ?_
                refine (AllReadyT.cons (by decide) (i := 16) (o := ?o44) ?h44 (fun K hK => ?k44) AllReadyT.nil)
                case h44 => (simp only [List.getElem?_toArray, List.getElem?_cons_succ, List.getElem?_cons_zero]; try rfl)
                case k44 =>
                  (refine step_append_any _ rfl (.tmp 60) (.tmp 64) 74 rfl (w1.heap.size + 1) 79 i79 _ 3 32 Try.underlying74 h79 x79 y79 z79 rfl (by decide) _ d.ns _ rfl r3 _ _ 1 1 [.bool false, .string k, .int .i64 f] rfl (reads_blkS k3 rfl) (stv_one ⟨false, k, f⟩) (by unfold maxLen; omega) (by omega) (by have := hHeld.1.size; omega) ?_; intro vA wA rA gA atA; have r1 := own_kept r1 r3 (by decide) gA; have r2 := own_kept r2 r3 (by decide) gA; (try have k1 := blk_kept k1 r3 (by decide) gA); (try have k2 := blk_kept k2 r3 (by decide) gA); have bA := hHeld.1.grown gA (by have := hHeld.1.size; omega) (fun j e => (r3.lt j e).1); obtain ⟨A3, c3, rfl⟩ := own_is_slice rA; replace r3 := rA; clear atA gA)
                  refine hK.out _ _ ?_ (fun hHeld => ?_)
                  · exact SX.out _ bA
                  clear hK K
                  try simp only [Act.put, List.setIfInBounds_toArray, List.set_cons_zero, List.set_cons_succ]
                  refine wpAnyT_take (i := 17) (oi := ?o45) (v := ?v45) ?h45 (by kernel_rfl) (by kernel_rfl) (by kernel_rfl) ?q45 ?y45 (by assumption) ?_
                  case h45 => (simp only [List.getElem?_toArray, List.getElem?_cons_succ, List.getElem?_cons_zero]; try rfl)
                  case q45 => exact fun _ _ _ h => h
                  case y45 => refine Or.inl ⟨by rfl, ?_⟩; (intro w hSw; (try dsimp only at hSw); go_simp; try with_reducible rfl)
                  try simp only [Act.put, List.setIfInBounds_toArray, List.set_cons_zero, List.set_cons_succ]
                  refine wpAnyT_done (by kernel_rfl) ?_
                  refine wpAnyH_ready (rs := [18]) (by kernel_rfl) (by simp) ?_
                  refine (AllReadyH.cons (i := 18) (o := ?o46) ?h46 (fun K hK => ?k46) AllReadyH.nil)
                  case h46 => (simp only [List.getElem?_toArray, List.getElem?_cons_succ, List.getElem?_cons_zero]; try rfl)
                  case k46 =>
                    go_simp
                    ((with_reducible refine (LC.out _ A1 c1 A2 c2 A3 c3 bA r1 r2 r3).mono ?_); rintro e w9 ⟨A9, n9, c9, rfl, ht, bb⟩; obtain ⟨x0, x1, x2, x3⟩ := (BX.out _ _ bA bb).two; have ht := Lib.hid ht)
                    try go_wp2_with fail
                    refine hK.out _ _ ?_ (fun hHeld => ?_)
                    · trivial
                    clear hK K
                    try simp only [Act.put, List.setIfInBounds_toArray, List.set_cons_zero, List.set_cons_succ]
                    refine wpAnyH_take (i := 19) (oi := ?o47) (v := ?v47) ?h47 (by kernel_rfl) (by kernel_rfl) (by kernel_rfl) ?q47 ?y47 (by assumption) ?_
                    case h47 => (simp only [List.getElem?_toArray, List.getElem?_cons_succ, List.getElem?_cons_zero]; try rfl)
                    case q47 => exact fun _ _ _ h => h
                    case y47 => refine Or.inl ⟨by rfl, ?_⟩; (intro w hSw; (try dsimp only at hSw); go_simp; try with_reducible rfl)
                    try simp only [Act.put, List.setIfInBounds_toArray, List.set_cons_zero, List.set_cons_succ]
                    refine wpAnyH_take (i := 20) (oi := ?o48) (v := ?v48) ?h48 (by kernel_rfl) (by kernel_rfl) (by kernel_rfl) ?q48 ?y48 (by assumption) ?_
                    case h48 => (simp only [List.getElem?_toArray, List.getElem?_cons_succ, List.getElem?_cons_zero]; try rfl)
                    case q48 => exact fun _ _ _ h => h
                    case y48 => refine Or.inl ⟨by rfl, ?_⟩; (intro w hSw; (try dsimp only at hSw); go_simp; try with_reducible rfl)
                    try simp only [Act.put, List.setIfInBounds_toArray, List.set_cons_zero, List.set_cons_succ]
                    refine wpAnyH_take (i := 21) (oi := ?o49) (v := ?v49) ?h49 (by kernel_rfl) (by kernel_rfl) (by kernel_rfl) ?q49 ?y49 (by assumption) ?_
                    case h49 => (simp only [List.getElem?_toArray, List.getElem?_cons_succ, List.getElem?_cons_zero]; try rfl)
                    case q49 => exact fun _ _ _ h => h
                    case y49 => refine Or.inl ⟨by rfl, ?_⟩; (intro w hSw; (try dsimp only at hSw); go_simp; try with_reducible rfl)
                    try simp only [Act.put, List.setIfInBounds_toArray, List.set_cons_zero, List.set_cons_succ]
                    refine wpAnyH_ready (rs := [22]) (by kernel_rfl) (by simp) ?_
                    refine (AllReadyH.cons (i := 22) (o := ?o50) ?h50 (fun K hK => ?k50) AllReadyH.nil)
                    case h50 => (simp only [List.getElem?_toArray, List.getElem?_cons_succ, List.getElem?_cons_zero]; try rfl)
                    case k50 =>
                      go_simp
                      try go_wp2_with fail
                      refine hK.out _ _ ?_ (fun hHeld => ?_)
                      · trivial
                      clear hK K
                      try simp only [Act.put, List.setIfInBounds_toArray, List.set_cons_zero, List.set_cons_succ]
                      refine wpAnyH_take (i := 23) (oi := ?o51) (v := ?v51) ?h51 (by kernel_rfl) (by kernel_rfl) (by kernel_rfl) ?q51 ?y51 (by assumption) ?_
                      case h51 => (simp only [List.getElem?_toArray, List.getElem?_cons_succ, List.getElem?_cons_zero]; try rfl)
                      case q51 => exact fun _ _ _ h => h
                      case y51 => refine Or.inl ⟨by rfl, ?_⟩; (intro w hSw; (try dsimp only at hSw); go_simp; try with_reducible rfl)
                      try simp only [Act.put, List.setIfInBounds_toArray, List.set_cons_zero, List.set_cons_succ]
                      refine wpAnyH_take (i := 24) (oi := ?o52) (v := ?v52) ?h52 (by kernel_rfl) (by kernel_rfl) (by kernel_rfl) ?q52 ?y52 (by assumption) ?_
                      case h52 => (simp only [List.getElem?_toArray, List.getElem?_cons_succ, List.getElem?_cons_zero]; try rfl)
                      case q52 => exact fun _ _ _ h => h
                      case y52 => refine Or.inl ⟨by rfl, ?_⟩; (intro w hSw; (try dsimp only at hSw); go_simp; try with_reducible rfl)
                      try simp only [Act.put, List.setIfInBounds_toArray, List.set_cons_zero, List.set_cons_succ]
                      refine wpAnyH_done (by kernel_rfl) ?_ _
                      go_wp2
                      refine bodyPost_ret (v := .tuple #[.agg #[.int .i64 most, .slice A9 n9 c9], .int .i64 (layP most L (addS d.x k f)).2.1, .bool (layP most L (addS d.x k f)).2.2]) (by simp [results, Try.results17, go_sem, x0, x1]) rfl ⟨_, _, _, by rw [HRes.out], by rw [HRes.out]; exact (ht.out.set32 (BX.out _ _ bA bb) hz8 _ _).set32 ((BX.out _ _ bA bb).set_ 0 _) hz8 _ _, ?_⟩
                      exact below_set2 (below_set2 ((BW.out _ bA).trans (bb.mono (BW.out _ bA).size)) hz8w) hz8w
        case h16 => (simp only [List.getElem?_toArray, List.getElem?_cons_succ, List.getElem?_cons_zero]; try rfl)
        case k16 =>
          go_simp
          try go_wp2_with fail
          refine hK.out _ _ ?_ (fun hHeld => ?_)
          · exact SX.out _ (hHeld.1.alloc (by have := hHeld.1.size; omega) _)
          clear hK K
          (replace r1 := World.ownsRow.alloc r1 (.cells #[.int .i64 f] 3); replace r2 := World.ownsRow.alloc r2 (.cells #[.int .i64 f] 3); replace r3 := World.ownsRow.alloc r3 (.cells #[.int .i64 f] 3); (try replace k1 := Blk.alloc k1 (.cells #[.int .i64 f] 3)); (try replace k3 := Blk.alloc k3 (.cells #[.int .i64 f] 3)); have k2 := mk_blk r1; (try simp only [size_alloc] at k2))
          try simp only [Act.put, List.setIfInBounds_toArray, List.set_cons_zero, List.set_cons_succ]
          refine wpAnyT_ready (rs := [6, 15]) (by kernel_rfl) (by simp) ?_
          refine (AllReadyT.cons (by decide) (i := 6) (o := ?o53) ?h53 (fun K hK => ?k53) (AllReadyT.cons (by decide) (i := 15) (o := ?o54) ?h54 (fun K hK => ?k54) AllReadyT.nil))
          case h53 => (simp only [List.getElem?_toArray, List.getElem?_cons_succ, List.getElem?_cons_zero]; try rfl)
          case k53 =>
            (refine step_append_any _ rfl (.tmp 52) (.tmp 54) 40 rfl (w1.heap.size + 1) 9 i9 _ 1 16 Try.underlying40 h9 x9 y9 z9 rfl (by decide) _ d.nk _ rfl r1 _ _ 1 1 [.string k] rfl (reads_blkS k1 rfl) one_s (by unfold maxLen; omega) (by omega) (by have := hHeld.1.size; omega) ?_; intro vA wA rA gA atA; have r2 := own_kept r2 r1 (by decide) gA; have r3 := own_kept r3 r1 (by decide) gA; (try have k2 := blk_kept k2 r1 (by decide) gA); (try have k3 := blk_kept k3 r1 (by decide) gA); have bA := hHeld.1.grown gA (by have := hHeld.1.size; omega) (fun j e => (r1.lt j e).1); obtain ⟨A1, c1, rfl⟩ := own_is_slice rA; replace r1 := rA; clear atA gA)
            refine hK.out _ _ ?_ (fun hHeld => ?_)
            · exact SX.out _ bA
            clear hK K
            try simp only [Act.put, List.setIfInBounds_toArray, List.set_cons_zero, List.set_cons_succ]
            refine wpAnyT_ready (rs := [10, 15]) (by kernel_rfl) (by simp) ?_
            refine (AllReadyT.cons (by decide) (i := 10) (o := ?o55) ?h55 (fun K hK => ?k55) (AllReadyT.cons (by decide) (i := 15) (o := ?o56) ?h56 (fun K hK => ?k56) AllReadyT.nil))
            case h55 => (simp only [List.getElem?_toArray, List.getElem?_cons_succ, List.getElem?_cons_zero]; try rfl)
            case k55 =>
              (refine step_append_any _ rfl (.tmp 56) (.tmp 58) 73 rfl (w1.heap.size + 1) 3 i3 _ 1 8 Try.underlying73 h3 x3 y3 z3 rfl (by decide) _ d.nf _ rfl r2 _ _ 1 1 [.int .i64 f] rfl (reads_blkS k2 rfl) one_i (by unfold maxLen; omega) (by omega) (by have := hHeld.1.size; omega) ?_; intro vA wA rA gA atA; have r1 := own_kept r1 r2 (by decide) gA; have r3 := own_kept r3 r2 (by decide) gA; (try have k1 := blk_kept k1 r2 (by decide) gA); (try have k3 := blk_kept k3 r2 (by decide) gA); have bA := hHeld.1.grown gA (by have := hHeld.1.size; omega) (fun j e => (r2.lt j e).1); obtain ⟨A2, c2, rfl⟩ := own_is_slice rA; replace r2 := rA; clear atA gA)
              refine hK.out _ _ ?_ (fun hHeld => ?_)
              · exact SX.out _ bA
              clear hK K
              try simp only [Act.put, List.setIfInBounds_toArray, List.set_cons_zero, List.set_cons_succ]
              refine wpAnyT_ready (rs := [15]) (by kernel_rfl) (by simp) ?_
              refine (AllReadyT.cons (by decide) (i := 15) (o := ?o57) ?h57 (fun K hK => ?k57) AllReadyT.nil)
              case h57 => (simp only [List.getElem?_toArray, List.getElem?_cons_succ, List.getElem?_cons_zero]; try rfl)
              case k57 =>
                go_simp
                try go_wp2_with fail
                refine hK.out _ _ ?_ (fun hHeld => ?_)
                · exact SX.out _ (hHeld.1.alloc (by have := hHeld.1.size; omega) _)
                clear hK K
                (replace r1 := World.ownsRow.alloc r1 (.cells #[.bool false, .string k, .int .i64 f] 79); replace r2 := World.ownsRow.alloc r2 (.cells #[.bool false, .string k, .int .i64 f] 79); replace r3 := World.ownsRow.alloc r3 (.cells #[.bool false, .string k, .int .i64 f] 79); (try replace k1 := Blk.alloc k1 (.cells #[.bool false, .string k, .int .i64 f] 79)); (try replace k2 := Blk.alloc k2 (.cells #[.bool false, .string k, .int .i64 f] 79)); have k3 := mk_blk r1; (try simp only [size_alloc] at k3))
                try simp only [Act.put, List.setIfInBounds_toArray, List.set_cons_zero, List.set_cons_succ]
                refine wpAnyT_ready (rs := [16]) (by kernel_rfl) (by simp) ?_
                refine (AllReadyT.cons (by decide) (i := 16) (o := ?o58) ?h58 (fun K hK => ?k58) AllReadyT.nil)
                case h58 => (simp only [List.getElem?_toArray, List.getElem?_cons_succ, List.getElem?_cons_zero]; try rfl)
                case k58 =>
                  (refine step_append_any _ rfl (.tmp 60) (.tmp 64) 74 rfl (w1.heap.size + 1) 79 i79 _ 3 32 Try.underlying74 h79 x79 y79 z79 rfl (by decide) _ d.ns _ rfl r3 _ _ 1 1 [.bool false, .string k, .int .i64 f] rfl (reads_blkS k3 rfl) (stv_one ⟨false, k, f⟩) (by unfold maxLen; omega) (by omega) (by have := hHeld.1.size; omega) ?_; intro vA wA rA gA atA; have r1 := own_kept r1 r3 (by decide) gA; have r2 := own_kept r2 r3 (by decide) gA; (try have k1 := blk_kept k1 r3 (by decide) gA); (try have k2 := blk_kept k2 r3 (by decide) gA); have bA := hHeld.1.grown gA (by have := hHeld.1.size; omega) (fun j e => (r3.lt j e).1); obtain ⟨A3, c3, rfl⟩ := own_is_slice rA; replace r3 := rA; clear atA gA)
                  refine hK.out _ _ ?_ (fun hHeld => ?_)
                  · exact SX.out _ bA
                  clear hK K
                  try simp only [Act.put, List.setIfInBounds_toArray, List.set_cons_zero, List.set_cons_succ]
                  refine wpAnyT_take (i := 17) (oi := ?o59) (v := ?v59) ?h59 (by kernel_rfl) (by kernel_rfl) (by kernel_rfl) ?q59 ?y59 (by assumption) ?_
                  case h59 => (simp only [List.getElem?_toArray, List.getElem?_cons_succ, List.getElem?_cons_zero]; try rfl)
                  case q59 => exact fun _ _ _ h => h
                  case y59 => refine Or.inl ⟨by rfl, ?_⟩; (intro w hSw; (try dsimp only at hSw); go_simp; try with_reducible rfl)
                  try simp only [Act.put, List.setIfInBounds_toArray, List.set_cons_zero, List.set_cons_succ]
                  refine wpAnyT_done (by kernel_rfl) ?_
                  refine wpAnyH_ready (rs := [18]) (by kernel_rfl) (by simp) ?_
                  refine (AllReadyH.cons (i := 18) (o := ?o60) ?h60 (fun K hK => ?k60) AllReadyH.nil)
                  case h60 => (simp only [List.getElem?_toArray, List.getElem?_cons_succ, List.getElem?_cons_zero]; try rfl)
                  case k60 =>
                    go_simp
                    ((with_reducible refine (LC.out _ A1 c1 A2 c2 A3 c3 bA r1 r2 r3).mono ?_); rintro e w9 ⟨A9, n9, c9, rfl, ht, bb⟩; obtain ⟨x0, x1, x2, x3⟩ := (BX.out _ _ bA bb).two; have ht := Lib.hid ht)
                    try go_wp2_with fail
                    refine hK.out _ _ ?_ (fun hHeld => ?_)
                    · trivial
                    clear hK K
                    try simp only [Act.put, List.setIfInBounds_toArray, List.set_cons_zero, List.set_cons_succ]
                    refine wpAnyH_take (i := 19) (oi := ?o61) (v := ?v61) ?h61 (by kernel_rfl) (by kernel_rfl) (by kernel_rfl) ?q61 ?y61 (by assumption) ?_
                    case h61 => (simp only [List.getElem?_toArray, List.getElem?_cons_succ, List.getElem?_cons_zero]; try rfl)
                    case q61 => exact fun _ _ _ h => h
                    case y61 => refine Or.inl ⟨by rfl, ?_⟩; (intro w hSw; (try dsimp only at hSw); go_simp; try with_reducible rfl)
                    try simp only [Act.put, List.setIfInBounds_toArray, List.set_cons_zero, List.set_cons_succ]
                    refine wpAnyH_take (i := 20) (oi := ?o62) (v := ?v62) ?h62 (by kernel_rfl) (by kernel_rfl) (by kernel_rfl) ?q62 ?y62 (by assumption) ?_
                    case h62 => (simp only [List.getElem?_toArray, List.getElem?_cons_succ, List.getElem?_cons_zero]; try rfl)
                    case q62 => exact fun _ _ _ h => h
                    case y62 => refine Or.inl ⟨by rfl, ?_⟩; (intro w hSw; (try dsimp only at hSw); go_simp; try with_reducible rfl)
                    try simp only [Act.put, List.setIfInBounds_toArray, List.set_cons_zero, List.set_cons_succ]
                    refine wpAnyH_take (i := 21) (oi := ?o63) (v := ?v63) ?h63 (by kernel_rfl) (by kernel_rfl) (by kernel_rfl) ?q63 ?y63 (by assumption) ?_
                    case h63 => (simp only [List.getElem?_toArray, List.getElem?_cons_succ, List.getElem?_cons_zero]; try rfl)
                    case q63 => exact fun _ _ _ h => h
                    case y63 => refine Or.inl ⟨by rfl, ?_⟩; (intro w hSw; (try dsimp only at hSw); go_simp; try with_reducible rfl)
                    try simp only [Act.put, List.setIfInBounds_toArray, List.set_cons_zero, List.set_cons_succ]
                    refine wpAnyH_ready (rs := [22]) (by kernel_rfl) (by simp) ?_
                    refine (AllReadyH.cons (i := 22) (o := ?o64) ?h64 (fun K hK => ?k64) AllReadyH.nil)
                    case h64 => (simp only [List.getElem?_toArray, List.getElem?_cons_succ, List.getElem?_cons_zero]; try rfl)
                    case k64 =>
                      go_simp
                      try go_wp2_with fail
                      refine hK.out _ _ ?_ (fun hHeld => ?_)
                      · trivial
                      clear hK K
                      try simp only [Act.put, List.setIfInBounds_toArray, List.set_cons_zero, List.set_cons_succ]
                      refine wpAnyH_take (i := 23) (oi := ?o65) (v := ?v65) ?h65 (by kernel_rfl) (by kernel_rfl) (by kernel_rfl) ?q65 ?y65 (by assumption) ?_
                      case h65 => (simp only [List.getElem?_toArray, List.getElem?_cons_succ, List.getElem?_cons_zero]; try rfl)
                      case q65 => exact fun _ _ _ h => h
                      case y65 => refine Or.inl ⟨by rfl, ?_⟩; (intro w hSw; (try dsimp only at hSw); go_simp; try with_reducible rfl)
                      try simp only [Act.put, List.setIfInBounds_toArray, List.set_cons_zero, List.set_cons_succ]
                      refine wpAnyH_take (i := 24) (oi := ?o66) (v := ?v66) ?h66 (by kernel_rfl) (by kernel_rfl) (by kernel_rfl) ?q66 ?y66 (by assumption) ?_
                      case h66 => (simp only [List.getElem?_toArray, List.getElem?_cons_succ, List.getElem?_cons_zero]; try rfl)
                      case q66 => exact fun _ _ _ h => h
                      case y66 => refine Or.inl ⟨by rfl, ?_⟩; (intro w hSw; (try dsimp only at hSw); go_simp; try with_reducible rfl)
                      try simp only [Act.put, List.setIfInBounds_toArray, List.set_cons_zero, List.set_cons_succ]
                      refine wpAnyH_done (by kernel_rfl) ?_ _
                      go_wp2
                      refine bodyPost_ret (v := .tuple #[.agg #[.int .i64 most, .slice A9 n9 c9], .int .i64 (layP most L (addS d.x k f)).2.1, .bool (layP most L (addS d.x k f)).2.2]) (by simp [results, Try.results17, go_sem, x0, x1]) rfl ⟨_, _, _, by rw [HRes.out], by rw [HRes.out]; exact (ht.out.set32 (BX.out _ _ bA bb) hz8 _ _).set32 ((BX.out _ _ bA bb).set_ 0 _) hz8 _ _, ?_⟩
                      exact below_set2 (below_set2 ((BW.out _ bA).trans (bb.mono (BW.out _ bA).size)) hz8w) hz8w
            case h56 => (simp only [List.getElem?_toArray, List.getElem?_cons_succ, List.getElem?_cons_zero]; try rfl)
            case k56 =>
              go_simp
              try go_wp2_with fail
              refine hK.out _ _ ?_ (fun hHeld => ?_)
              · exact SX.out _ (hHeld.1.alloc (by have := hHeld.1.size; omega) _)
              clear hK K
              (replace r1 := World.ownsRow.alloc r1 (.cells #[.bool false, .string k, .int .i64 f] 79); replace r2 := World.ownsRow.alloc r2 (.cells #[.bool false, .string k, .int .i64 f] 79); replace r3 := World.ownsRow.alloc r3 (.cells #[.bool false, .string k, .int .i64 f] 79); (try replace k1 := Blk.alloc k1 (.cells #[.bool false, .string k, .int .i64 f] 79)); (try replace k2 := Blk.alloc k2 (.cells #[.bool false, .string k, .int .i64 f] 79)); have k3 := mk_blk r1; (try simp only [size_alloc] at k3))
              try simp only [Act.put, List.setIfInBounds_toArray, List.set_cons_zero, List.set_cons_succ]
              refine wpAnyT_ready (rs := [10]) (by kernel_rfl) (by simp) ?_
              refine (AllReadyT.cons (by decide) (i := 10) (o := ?o67) ?h67 (fun K hK => ?k67) AllReadyT.nil)
              case h67 => (simp only [List.getElem?_toArray, List.getElem?_cons_succ, List.getElem?_cons_zero]; try rfl)
              case k67 =>
                (refine step_append_any _ rfl (.tmp 56) (.tmp 58) 73 rfl (w1.heap.size + 1) 3 i3 _ 1 8 Try.underlying73 h3 x3 y3 z3 rfl (by decide) _ d.nf _ rfl r2 _ _ 1 1 [.int .i64 f] rfl (reads_blkS k2 rfl) one_i (by unfold maxLen; omega) (by omega) (by have := hHeld.1.size; omega) ?_; intro vA wA rA gA atA; have r1 := own_kept r1 r2 (by decide) gA; have r3 := own_kept r3 r2 (by decide) gA; (try have k1 := blk_kept k1 r2 (by decide) gA); (try have k3 := blk_kept k3 r2 (by decide) gA); have bA := hHeld.1.grown gA (by have := hHeld.1.size; omega) (fun j e => (r2.lt j e).1); obtain ⟨A2, c2, rfl⟩ := own_is_slice rA; replace r2 := rA; clear atA gA)
                refine hK.out _ _ ?_ (fun hHeld => ?_)
                · exact SX.out _ bA
                clear hK K
                try simp only [Act.put, List.setIfInBounds_toArray, List.set_cons_zero, List.set_cons_succ]
                refine wpAnyT_ready (rs := [16]) (by kernel_rfl) (by simp) ?_
                refine (AllReadyT.cons (by decide) (i := 16) (o := ?o68) ?h68 (fun K hK => ?k68) AllReadyT.nil)
                case h68 => (simp only [List.getElem?_toArray, List.getElem?_cons_succ, List.getElem?_cons_zero]; try rfl)
                case k68 =>
                  (refine step_append_any _ rfl (.tmp 60) (.tmp 64) 74 rfl (w1.heap.size + 1) 79 i79 _ 3 32 Try.underlying74 h79 x79 y79 z79 rfl (by decide) _ d.ns _ rfl r3 _ _ 1 1 [.bool false, .string k, .int .i64 f] rfl (reads_blkS k3 rfl) (stv_one ⟨false, k, f⟩) (by unfold maxLen; omega) (by omega) (by have := hHeld.1.size; omega) ?_; intro vA wA rA gA atA; have r1 := own_kept r1 r3 (by decide) gA; have r2 := own_kept r2 r3 (by decide) gA; (try have k1 := blk_kept k1 r3 (by decide) gA); (try have k2 := blk_kept k2 r3 (by decide) gA); have bA := hHeld.1.grown gA (by have := hHeld.1.size; omega) (fun j e => (r3.lt j e).1); obtain ⟨A3, c3, rfl⟩ := own_is_slice rA; replace r3 := rA; clear atA gA)
                  refine hK.out _ _ ?_ (fun hHeld => ?_)
                  · exact SX.out _ bA
                  clear hK K
                  try simp only [Act.put, List.setIfInBounds_toArray, List.set_cons_zero, List.set_cons_succ]
                  refine wpAnyT_take (i := 17) (oi := ?o69) (v := ?v69) ?h69 (by kernel_rfl) (by kernel_rfl) (by kernel_rfl) ?q69 ?y69 (by assumption) ?_
                  case h69 => (simp only [List.getElem?_toArray, List.getElem?_cons_succ, List.getElem?_cons_zero]; try rfl)
                  case q69 => exact fun _ _ _ h => h
                  case y69 => refine Or.inl ⟨by rfl, ?_⟩; (intro w hSw; (try dsimp only at hSw); go_simp; try with_reducible rfl)
                  try simp only [Act.put, List.setIfInBounds_toArray, List.set_cons_zero, List.set_cons_succ]
                  refine wpAnyT_done (by kernel_rfl) ?_
                  refine wpAnyH_ready (rs := [18]) (by kernel_rfl) (by simp) ?_
                  refine (AllReadyH.cons (i := 18) (o := ?o70) ?h70 (fun K hK => ?k70) AllReadyH.nil)
                  case h70 => (simp only [List.getElem?_toArray, List.getElem?_cons_succ, List.getElem?_cons_zero]; try rfl)
                  case k70 =>
                    go_simp
                    ((with_reducible refine (LC.out _ A1 c1 A2 c2 A3 c3 bA r1 r2 r3).mono ?_); rintro e w9 ⟨A9, n9, c9, rfl, ht, bb⟩; obtain ⟨x0, x1, x2, x3⟩ := (BX.out _ _ bA bb).two; have ht := Lib.hid ht)
                    try go_wp2_with fail
                    refine hK.out _ _ ?_ (fun hHeld => ?_)
                    · trivial
                    clear hK K
                    try simp only [Act.put, List.setIfInBounds_toArray, List.set_cons_zero, List.set_cons_succ]
                    refine wpAnyH_take (i := 19) (oi := ?o71) (v := ?v71) ?h71 (by kernel_rfl) (by kernel_rfl) (by kernel_rfl) ?q71 ?y71 (by assumption) ?_
                    case h71 => (simp only [List.getElem?_toArray, List.getElem?_cons_succ, List.getElem?_cons_zero]; try rfl)
                    case q71 => exact fun _ _ _ h => h
                    case y71 => refine Or.inl ⟨by rfl, ?_⟩; (intro w hSw; (try dsimp only at hSw); go_simp; try with_reducible rfl)
                    try simp only [Act.put, List.setIfInBounds_toArray, List.set_cons_zero, List.set_cons_succ]
                    refine wpAnyH_take (i := 20) (oi := ?o72) (v := ?v72) ?h72 (by kernel_rfl) (by kernel_rfl) (by kernel_rfl) ?q72 ?y72 (by assumption) ?_
                    case h72 => (simp only [List.getElem?_toArray, List.getElem?_cons_succ, List.getElem?_cons_zero]; try rfl)
                    case q72 => exact fun _ _ _ h => h
                    case y72 => refine Or.inl ⟨by rfl, ?_⟩; (intro w hSw; (try dsimp only at hSw); go_simp; try with_reducible rfl)
                    try simp only [Act.put, List.setIfInBounds_toArray, List.set_cons_zero, List.set_cons_succ]
                    refine wpAnyH_take (i := 21) (oi := ?o73) (v := ?v73) ?h73 (by kernel_rfl) (by kernel_rfl) (by kernel_rfl) ?q73 ?y73 (by assumption) ?_
                    case h73 => (simp only [List.getElem?_toArray, List.getElem?_cons_succ, List.getElem?_cons_zero]; try rfl)
                    case q73 => exact fun _ _ _ h => h
                    case y73 => refine Or.inl ⟨by rfl, ?_⟩; (intro w hSw; (try dsimp only at hSw); go_simp; try with_reducible rfl)
                    try simp only [Act.put, List.setIfInBounds_toArray, List.set_cons_zero, List.set_cons_succ]
                    refine wpAnyH_ready (rs := [22]) (by kernel_rfl) (by simp) ?_
                    refine (AllReadyH.cons (i := 22) (o := ?o74) ?h74 (fun K hK => ?k74) AllReadyH.nil)
                    case h74 => (simp only [List.getElem?_toArray, List.getElem?_cons_succ, List.getElem?_cons_zero]; try rfl)
                    case k74 =>
                      go_simp
                      try go_wp2_with fail
                      refine hK.out _ _ ?_ (fun hHeld => ?_)
                      · trivial
                      clear hK K
                      try simp only [Act.put, List.setIfInBounds_toArray, List.set_cons_zero, List.set_cons_succ]
                      refine wpAnyH_take (i := 23) (oi := ?o75) (v := ?v75) ?h75 (by kernel_rfl) (by kernel_rfl) (by kernel_rfl) ?q75 ?y75 (by assumption) ?_
                      case h75 => (simp only [List.getElem?_toArray, List.getElem?_cons_succ, List.getElem?_cons_zero]; try rfl)
                      case q75 => exact fun _ _ _ h => h
                      case y75 => refine Or.inl ⟨by rfl, ?_⟩; (intro w hSw; (try dsimp only at hSw); go_simp; try with_reducible rfl)
                      try simp only [Act.put, List.setIfInBounds_toArray, List.set_cons_zero, List.set_cons_succ]
                      refine wpAnyH_take (i := 24) (oi := ?o76) (v := ?v76) ?h76 (by kernel_rfl) (by kernel_rfl) (by kernel_rfl) ?q76 ?y76 (by assumption) ?_
                      case h76 => (simp only [List.getElem?_toArray, List.getElem?_cons_succ, List.getElem?_cons_zero]; try rfl)
                      case q76 => exact fun _ _ _ h => h
                      case y76 => refine Or.inl ⟨by rfl, ?_⟩; (intro w hSw; (try dsimp only at hSw); go_simp; try with_reducible rfl)
                      try simp only [Act.put, List.setIfInBounds_toArray, List.set_cons_zero, List.set_cons_succ]
                      refine wpAnyH_done (by kernel_rfl) ?_ _
                      go_wp2
                      refine bodyPost_ret (v := .tuple #[.agg #[.int .i64 most, .slice A9 n9 c9], .int .i64 (layP most L (addS d.x k f)).2.1, .bool (layP most L (addS d.x k f)).2.2]) (by simp [results, Try.results17, go_sem, x0, x1]) rfl ⟨_, _, _, by rw [HRes.out], by rw [HRes.out]; exact (ht.out.set32 (BX.out _ _ bA bb) hz8 _ _).set32 ((BX.out _ _ bA bb).set_ 0 _) hz8 _ _, ?_⟩
                      exact below_set2 (below_set2 ((BW.out _ bA).trans (bb.mono (BW.out _ bA).size)) hz8w) hz8w
          case h54 => (simp only [List.getElem?_toArray, List.getElem?_cons_succ, List.getElem?_cons_zero]; try rfl)
          case k54 =>
            go_simp
            try go_wp2_with fail
            refine hK.out _ _ ?_ (fun hHeld => ?_)
            · exact SX.out _ (hHeld.1.alloc (by have := hHeld.1.size; omega) _)
            clear hK K
            (replace r1 := World.ownsRow.alloc r1 (.cells #[.bool false, .string k, .int .i64 f] 79); replace r2 := World.ownsRow.alloc r2 (.cells #[.bool false, .string k, .int .i64 f] 79); replace r3 := World.ownsRow.alloc r3 (.cells #[.bool false, .string k, .int .i64 f] 79); (try replace k1 := Blk.alloc k1 (.cells #[.bool false, .string k, .int .i64 f] 79)); (try replace k2 := Blk.alloc k2 (.cells #[.bool false, .string k, .int .i64 f] 79)); have k3 := mk_blk r1; (try simp only [size_alloc] at k3))
            try simp only [Act.put, List.setIfInBounds_toArray, List.set_cons_zero, List.set_cons_succ]
            refine wpAnyT_ready (rs := [6]) (by kernel_rfl) (by simp) ?_
            refine (AllReadyT.cons (by decide) (i := 6) (o := ?o77) ?h77 (fun K hK => ?k77) AllReadyT.nil)
            case h77 => (simp only [List.getElem?_toArray, List.getElem?_cons_succ, List.getElem?_cons_zero]; try rfl)
            case k77 =>
              (refine step_append_any _ rfl (.tmp 52) (.tmp 54) 40 rfl (w1.heap.size + 1) 9 i9 _ 1 16 Try.underlying40 h9 x9 y9 z9 rfl (by decide) _ d.nk _ rfl r1 _ _ 1 1 [.string k] rfl (reads_blkS k1 rfl) one_s (by unfold maxLen; omega) (by omega) (by have := hHeld.1.size; omega) ?_; intro vA wA rA gA atA; have r2 := own_kept r2 r1 (by decide) gA; have r3 := own_kept r3 r1 (by decide) gA; (try have k2 := blk_kept k2 r1 (by decide) gA); (try have k3 := blk_kept k3 r1 (by decide) gA); have bA := hHeld.1.grown gA (by have := hHeld.1.size; omega) (fun j e => (r1.lt j e).1); obtain ⟨A1, c1, rfl⟩ := own_is_slice rA; replace r1 := rA; clear atA gA)
              refine hK.out _ _ ?_ (fun hHeld => ?_)
              · exact SX.out _ bA
              clear hK K
              try simp only [Act.put, List.setIfInBounds_toArray, List.set_cons_zero, List.set_cons_succ]
              refine wpAnyT_ready (rs := [10]) (by kernel_rfl) (by simp) ?_
              refine (AllReadyT.cons (by decide) (i := 10) (o := ?o78) ?h78 (fun K hK => ?k78) AllReadyT.nil)
              case h78 => (simp only [List.getElem?_toArray, List.getElem?_cons_succ, List.getElem?_cons_zero]; try rfl)
              case k78 =>
                (refine step_append_any _ rfl (.tmp 56) (.tmp 58) 73 rfl (w1.heap.size + 1) 3 i3 _ 1 8 Try.underlying73 h3 x3 y3 z3 rfl (by decide) _ d.nf _ rfl r2 _ _ 1 1 [.int .i64 f] rfl (reads_blkS k2 rfl) one_i (by unfold maxLen; omega) (by omega) (by have := hHeld.1.size; omega) ?_; intro vA wA rA gA atA; have r1 := own_kept r1 r2 (by decide) gA; have r3 := own_kept r3 r2 (by decide) gA; (try have k1 := blk_kept k1 r2 (by decide) gA); (try have k3 := blk_kept k3 r2 (by decide) gA); have bA := hHeld.1.grown gA (by have := hHeld.1.size; omega) (fun j e => (r2.lt j e).1); obtain ⟨A2, c2, rfl⟩ := own_is_slice rA; replace r2 := rA; clear atA gA)
                refine hK.out _ _ ?_ (fun hHeld => ?_)
                · exact SX.out _ bA
                clear hK K
                try simp only [Act.put, List.setIfInBounds_toArray, List.set_cons_zero, List.set_cons_succ]
                refine wpAnyT_ready (rs := [16]) (by kernel_rfl) (by simp) ?_
                refine (AllReadyT.cons (by decide) (i := 16) (o := ?o79) ?h79 (fun K hK => ?k79) AllReadyT.nil)
                case h79 => (simp only [List.getElem?_toArray, List.getElem?_cons_succ, List.getElem?_cons_zero]; try rfl)
                case k79 =>
                  (refine step_append_any _ rfl (.tmp 60) (.tmp 64) 74 rfl (w1.heap.size + 1) 79 i79 _ 3 32 Try.underlying74 h79 x79 y79 z79 rfl (by decide) _ d.ns _ rfl r3 _ _ 1 1 [.bool false, .string k, .int .i64 f] rfl (reads_blkS k3 rfl) (stv_one ⟨false, k, f⟩) (by unfold maxLen; omega) (by omega) (by have := hHeld.1.size; omega) ?_; intro vA wA rA gA atA; have r1 := own_kept r1 r3 (by decide) gA; have r2 := own_kept r2 r3 (by decide) gA; (try have k1 := blk_kept k1 r3 (by decide) gA); (try have k2 := blk_kept k2 r3 (by decide) gA); have bA := hHeld.1.grown gA (by have := hHeld.1.size; omega) (fun j e => (r3.lt j e).1); obtain ⟨A3, c3, rfl⟩ := own_is_slice rA; replace r3 := rA; clear atA gA)
                  refine hK.out _ _ ?_ (fun hHeld => ?_)
                  · exact SX.out _ bA
                  clear hK K
                  try simp only [Act.put, List.setIfInBounds_toArray, List.set_cons_zero, List.set_cons_succ]
                  refine wpAnyT_take (i := 17) (oi := ?o80) (v := ?v80) ?h80 (by kernel_rfl) (by kernel_rfl) (by kernel_rfl) ?q80 ?y80 (by assumption) ?_
                  case h80 => (simp only [List.getElem?_toArray, List.getElem?_cons_succ, List.getElem?_cons_zero]; try rfl)
                  case q80 => exact fun _ _ _ h => h
                  case y80 => refine Or.inl ⟨by rfl, ?_⟩; (intro w hSw; (try dsimp only at hSw); go_simp; try with_reducible rfl)
                  try simp only [Act.put, List.setIfInBounds_toArray, List.set_cons_zero, List.set_cons_succ]
                  refine wpAnyT_done (by kernel_rfl) ?_
                  refine wpAnyH_ready (rs := [18]) (by kernel_rfl) (by simp) ?_
                  refine (AllReadyH.cons (i := 18) (o := ?o81) ?h81 (fun K hK => ?k81) AllReadyH.nil)
                  case h81 => (simp only [List.getElem?_toArray, List.getElem?_cons_succ, List.getElem?_cons_zero]; try rfl)
                  case k81 =>
                    go_simp
                    ((with_reducible refine (LC.out _ A1 c1 A2 c2 A3 c3 bA r1 r2 r3).mono ?_); rintro e w9 ⟨A9, n9, c9, rfl, ht, bb⟩; obtain ⟨x0, x1, x2, x3⟩ := (BX.out _ _ bA bb).two; have ht := Lib.hid ht)
                    try go_wp2_with fail
                    refine hK.out _ _ ?_ (fun hHeld => ?_)
                    · trivial
                    clear hK K
                    try simp only [Act.put, List.setIfInBounds_toArray, List.set_cons_zero, List.set_cons_succ]
                    refine wpAnyH_take (i := 19) (oi := ?o82) (v := ?v82) ?h82 (by kernel_rfl) (by kernel_rfl) (by kernel_rfl) ?q82 ?y82 (by assumption) ?_
                    case h82 => (simp only [List.getElem?_toArray, List.getElem?_cons_succ, List.getElem?_cons_zero]; try rfl)
                    case q82 => exact fun _ _ _ h => h
                    case y82 => refine Or.inl ⟨by rfl, ?_⟩; (intro w hSw; (try dsimp only at hSw); go_simp; try with_reducible rfl)
                    try simp only [Act.put, List.setIfInBounds_toArray, List.set_cons_zero, List.set_cons_succ]
                    refine wpAnyH_take (i := 20) (oi := ?o83) (v := ?v83) ?h83 (by kernel_rfl) (by kernel_rfl) (by kernel_rfl) ?q83 ?y83 (by assumption) ?_
                    case h83 => (simp only [List.getElem?_toArray, List.getElem?_cons_succ, List.getElem?_cons_zero]; try rfl)
                    case q83 => exact fun _ _ _ h => h
                    case y83 => refine Or.inl ⟨by rfl, ?_⟩; (intro w hSw; (try dsimp only at hSw); go_simp; try with_reducible rfl)
                    try simp only [Act.put, List.setIfInBounds_toArray, List.set_cons_zero, List.set_cons_succ]
                    refine wpAnyH_take (i := 21) (oi := ?o84) (v := ?v84) ?h84 (by kernel_rfl) (by kernel_rfl) (by kernel_rfl) ?q84 ?y84 (by assumption) ?_
                    case h84 => (simp only [List.getElem?_toArray, List.getElem?_cons_succ, List.getElem?_cons_zero]; try rfl)
                    case q84 => exact fun _ _ _ h => h
                    case y84 => refine Or.inl ⟨by rfl, ?_⟩; (intro w hSw; (try dsimp only at hSw); go_simp; try with_reducible rfl)
                    try simp only [Act.put, List.setIfInBounds_toArray, List.set_cons_zero, List.set_cons_succ]
                    refine wpAnyH_ready (rs := [22]) (by kernel_rfl) (by simp) ?_
                    refine (AllReadyH.cons (i := 22) (o := ?o85) ?h85 (fun K hK => ?k85) AllReadyH.nil)
                    case h85 => (simp only [List.getElem?_toArray, List.getElem?_cons_succ, List.getElem?_cons_zero]; try rfl)
                    case k85 =>
                      go_simp
                      try go_wp2_with fail
                      refine hK.out _ _ ?_ (fun hHeld => ?_)
                      · trivial
                      clear hK K
                      try simp only [Act.put, List.setIfInBounds_toArray, List.set_cons_zero, List.set_cons_succ]
                      refine wpAnyH_take (i := 23) (oi := ?o86) (v := ?v86) ?h86 (by kernel_rfl) (by kernel_rfl) (by kernel_rfl) ?q86 ?y86 (by assumption) ?_
                      case h86 => (simp only [List.getElem?_toArray, List.getElem?_cons_succ, List.getElem?_cons_zero]; try rfl)
                      case q86 => exact fun _ _ _ h => h
                      case y86 => refine Or.inl ⟨by rfl, ?_⟩; (intro w hSw; (try dsimp only at hSw); go_simp; try with_reducible rfl)
                      try simp only [Act.put, List.setIfInBounds_toArray, List.set_cons_zero, List.set_cons_succ]
                      refine wpAnyH_take (i := 24) (oi := ?o87) (v := ?v87) ?h87 (by kernel_rfl) (by kernel_rfl) (by kernel_rfl) ?q87 ?y87 (by assumption) ?_
                      case h87 => (simp only [List.getElem?_toArray, List.getElem?_cons_succ, List.getElem?_cons_zero]; try rfl)
                      case q87 => exact fun _ _ _ h => h
                      case y87 => refine Or.inl ⟨by rfl, ?_⟩; (intro w hSw; (try dsimp only at hSw); go_simp; try with_reducible rfl)
                      try simp only [Act.put, List.setIfInBounds_toArray, List.set_cons_zero, List.set_cons_succ]
                      refine wpAnyH_done (by kernel_rfl) ?_ _
                      go_wp2
                      refine bodyPost_ret (v := .tuple #[.agg #[.int .i64 most, .slice A9 n9 c9], .int .i64 (layP most L (addS d.x k f)).2.1, .bool (layP most L (addS d.x k f)).2.2]) (by simp [results, Try.results17, go_sem, x0, x1]) rfl ⟨_, _, _, by rw [HRes.out], by rw [HRes.out]; exact (ht.out.set32 (BX.out _ _ bA bb) hz8 _ _).set32 ((BX.out _ _ bA bb).set_ 0 _) hz8 _ _, ?_⟩
                      exact below_set2 (below_set2 ((BW.out _ bA).trans (bb.mono (BW.out _ bA).size)) hz8w) hz8w
        case h17 => (simp only [List.getElem?_toArray, List.getElem?_cons_succ, List.getElem?_cons_zero]; try rfl)
        case k17 =>
          go_simp
          try go_wp2_with fail
          refine hK.out _ _ ?_ (fun hHeld => ?_)
          · exact SX.out _ (hHeld.1.alloc (by have := hHeld.1.size; omega) _)
          clear hK K
          (replace r1 := World.ownsRow.alloc r1 (.cells #[.bool false, .string k, .int .i64 f] 79); replace r2 := World.ownsRow.alloc r2 (.cells #[.bool false, .string k, .int .i64 f] 79); replace r3 := World.ownsRow.alloc r3 (.cells #[.bool false, .string k, .int .i64 f] 79); (try replace k1 := Blk.alloc k1 (.cells #[.bool false, .string k, .int .i64 f] 79)); (try replace k2 := Blk.alloc k2 (.cells #[.bool false, .string k, .int .i64 f] 79)); have k3 := mk_blk r1; (try simp only [size_alloc] at k3))
          try simp only [Act.put, List.setIfInBounds_toArray, List.set_cons_zero, List.set_cons_succ]
          refine wpAnyT_ready (rs := [6, 9]) (by kernel_rfl) (by simp) ?_
          refine (AllReadyT.cons (by decide) (i := 6) (o := ?o88) ?h88 (fun K hK => ?k88) (AllReadyT.cons (by decide) (i := 9) (o := ?o89) ?h89 (fun K hK => ?k89) AllReadyT.nil))
          case h88 => (simp only [List.getElem?_toArray, List.getElem?_cons_succ, List.getElem?_cons_zero]; try rfl)
          case k88 =>
            (refine step_append_any _ rfl (.tmp 52) (.tmp 54) 40 rfl (w1.heap.size + 1) 9 i9 _ 1 16 Try.underlying40 h9 x9 y9 z9 rfl (by decide) _ d.nk _ rfl r1 _ _ 1 1 [.string k] rfl (reads_blkS k1 rfl) one_s (by unfold maxLen; omega) (by omega) (by have := hHeld.1.size; omega) ?_; intro vA wA rA gA atA; have r2 := own_kept r2 r1 (by decide) gA; have r3 := own_kept r3 r1 (by decide) gA; (try have k2 := blk_kept k2 r1 (by decide) gA); (try have k3 := blk_kept k3 r1 (by decide) gA); have bA := hHeld.1.grown gA (by have := hHeld.1.size; omega) (fun j e => (r1.lt j e).1); obtain ⟨A1, c1, rfl⟩ := own_is_slice rA; replace r1 := rA; clear atA gA)
            refine hK.out _ _ ?_ (fun hHeld => ?_)
            · exact SX.out _ bA
            clear hK K
            try simp only [Act.put, List.setIfInBounds_toArray, List.set_cons_zero, List.set_cons_succ]
            refine wpAnyT_ready (rs := [9]) (by kernel_rfl) (by simp) ?_
            refine (AllReadyT.cons (by decide) (i := 9) (o := ?o90) ?h90 (fun K hK => ?k90) AllReadyT.nil)
            case h90 => (simp only [List.getElem?_toArray, List.getElem?_cons_succ, List.getElem?_cons_zero]; try rfl)
            case k90 =>
              go_simp
              try go_wp2_with fail
              refine hK.out _ _ ?_ (fun hHeld => ?_)
              · exact SX.out _ (hHeld.1.alloc (by have := hHeld.1.size; omega) _)
              clear hK K
              (replace r1 := World.ownsRow.alloc r1 (.cells #[.int .i64 f] 3); replace r2 := World.ownsRow.alloc r2 (.cells #[.int .i64 f] 3); replace r3 := World.ownsRow.alloc r3 (.cells #[.int .i64 f] 3); (try replace k1 := Blk.alloc k1 (.cells #[.int .i64 f] 3)); (try replace k3 := Blk.alloc k3 (.cells #[.int .i64 f] 3)); have k2 := mk_blk r1; (try simp only [size_alloc] at k2))
              try simp only [Act.put, List.setIfInBounds_toArray, List.set_cons_zero, List.set_cons_succ]
              refine wpAnyT_ready (rs := [10]) (by kernel_rfl) (by simp) ?_
              refine (AllReadyT.cons (by decide) (i := 10) (o := ?o91) ?h91 (fun K hK => ?k91) AllReadyT.nil)
              case h91 => (simp only [List.getElem?_toArray, List.getElem?_cons_succ, List.getElem?_cons_zero]; try rfl)
              case k91 =>
                (refine step_append_any _ rfl (.tmp 56) (.tmp 58) 73 rfl (w1.heap.size + 1) 3 i3 _ 1 8 Try.underlying73 h3 x3 y3 z3 rfl (by decide) _ d.nf _ rfl r2 _ _ 1 1 [.int .i64 f] rfl (reads_blkS k2 rfl) one_i (by unfold maxLen; omega) (by omega) (by have := hHeld.1.size; omega) ?_; intro vA wA rA gA atA; have r1 := own_kept r1 r2 (by decide) gA; have r3 := own_kept r3 r2 (by decide) gA; (try have k1 := blk_kept k1 r2 (by decide) gA); (try have k3 := blk_kept k3 r2 (by decide) gA); have bA := hHeld.1.grown gA (by have := hHeld.1.size; omega) (fun j e => (r2.lt j e).1); obtain ⟨A2, c2, rfl⟩ := own_is_slice rA; replace r2 := rA; clear atA gA)
                refine hK.out _ _ ?_ (fun hHeld => ?_)
                · exact SX.out _ bA
                clear hK K
                try simp only [Act.put, List.setIfInBounds_toArray, List.set_cons_zero, List.set_cons_succ]
                refine wpAnyT_ready (rs := [16]) (by kernel_rfl) (by simp) ?_
                refine (AllReadyT.cons (by decide) (i := 16) (o := ?o92) ?h92 (fun K hK => ?k92) AllReadyT.nil)
                case h92 => (simp only [List.getElem?_toArray, List.getElem?_cons_succ, List.getElem?_cons_zero]; try rfl)
                case k92 =>
                  (refine step_append_any _ rfl (.tmp 60) (.tmp 64) 74 rfl (w1.heap.size + 1) 79 i79 _ 3 32 Try.underlying74 h79 x79 y79 z79 rfl (by decide) _ d.ns _ rfl r3 _ _ 1 1 [.bool false, .string k, .int .i64 f] rfl (reads_blkS k3 rfl) (stv_one ⟨false, k, f⟩) (by unfold maxLen; omega) (by omega) (by have := hHeld.1.size; omega) ?_; intro vA wA rA gA atA; have r1 := own_kept r1 r3 (by decide) gA; have r2 := own_kept r2 r3 (by decide) gA; (try have k1 := blk_kept k1 r3 (by decide) gA); (try have k2 := blk_kept k2 r3 (by decide) gA); have bA := hHeld.1.grown gA (by have := hHeld.1.size; omega) (fun j e => (r3.lt j e).1); obtain ⟨A3, c3, rfl⟩ := own_is_slice rA; replace r3 := rA; clear atA gA)
                  refine hK.out _ _ ?_ (fun hHeld => ?_)
                  · exact SX.out _ bA
                  clear hK K
                  try simp only [Act.put, List.setIfInBounds_toArray, List.set_cons_zero, List.set_cons_succ]
                  refine wpAnyT_take (i := 17) (oi := ?o93) (v := ?v93) ?h93 (by kernel_rfl) (by kernel_rfl) (by kernel_rfl) ?q93 ?y93 (by assumption) ?_
                  case h93 => (simp only [List.getElem?_toArray, List.getElem?_cons_succ, List.getElem?_cons_zero]; try rfl)
                  case q93 => exact fun _ _ _ h => h
                  case y93 => refine Or.inl ⟨by rfl, ?_⟩; (intro w hSw; (try dsimp only at hSw); go_simp; try with_reducible rfl)
                  try simp only [Act.put, List.setIfInBounds_toArray, List.set_cons_zero, List.set_cons_succ]
                  refine wpAnyT_done (by kernel_rfl) ?_
                  refine wpAnyH_ready (rs := [18]) (by kernel_rfl) (by simp) ?_
                  refine (AllReadyH.cons (i := 18) (o := ?o94) ?h94 (fun K hK => ?k94) AllReadyH.nil)
                  case h94 => (simp only [List.getElem?_toArray, List.getElem?_cons_succ, List.getElem?_cons_zero]; try rfl)
                  case k94 =>
                    go_simp
                    ((with_reducible refine (LC.out _ A1 c1 A2 c2 A3 c3 bA r1 r2 r3).mono ?_); rintro e w9 ⟨A9, n9, c9, rfl, ht, bb⟩; obtain ⟨x0, x1, x2, x3⟩ := (BX.out _ _ bA bb).two; have ht := Lib.hid ht)
                    try go_wp2_with fail
                    refine hK.out _ _ ?_ (fun hHeld => ?_)
                    · trivial
                    clear hK K
                    try simp only [Act.put, List.setIfInBounds_toArray, List.set_cons_zero, List.set_cons_succ]
                    refine wpAnyH_take (i := 19) (oi := ?o95) (v := ?v95) ?h95 (by kernel_rfl) (by kernel_rfl) (by kernel_rfl) ?q95 ?y95 (by assumption) ?_
                    case h95 => (simp only [List.getElem?_toArray, List.getElem?_cons_succ, List.getElem?_cons_zero]; try rfl)
                    case q95 => exact fun _ _ _ h => h
                    case y95 => refine Or.inl ⟨by rfl, ?_⟩; (intro w hSw; (try dsimp only at hSw); go_simp; try with_reducible rfl)
                    try simp only [Act.put, List.setIfInBounds_toArray, List.set_cons_zero, List.set_cons_succ]
                    refine wpAnyH_take (i := 20) (oi := ?o96) (v := ?v96) ?h96 (by kernel_rfl) (by kernel_rfl) (by kernel_rfl) ?q96 ?y96 (by assumption) ?_
                    case h96 => (simp only [List.getElem?_toArray, List.getElem?_cons_succ, List.getElem?_cons_zero]; try rfl)
                    case q96 => exact fun _ _ _ h => h
                    case y96 => refine Or.inl ⟨by rfl, ?_⟩; (intro w hSw; (try dsimp only at hSw); go_simp; try with_reducible rfl)
                    try simp only [Act.put, List.setIfInBounds_toArray, List.set_cons_zero, List.set_cons_succ]
                    refine wpAnyH_take (i := 21) (oi := ?o97) (v := ?v97) ?h97 (by kernel_rfl) (by kernel_rfl) (by kernel_rfl) ?q97 ?y97 (by assumption) ?_
                    case h97 => (simp only [List.getElem?_toArray, List.getElem?_cons_succ, List.getElem?_cons_zero]; try rfl)
                    case q97 => exact fun _ _ _ h => h
                    case y97 => refine Or.inl ⟨by rfl, ?_⟩; (intro w hSw; (try dsimp only at hSw); go_simp; try with_reducible rfl)
                    try simp only [Act.put, List.setIfInBounds_toArray, List.set_cons_zero, List.set_cons_succ]
                    refine wpAnyH_ready (rs := [22]) (by kernel_rfl) (by simp) ?_
                    refine (AllReadyH.cons (i := 22) (o := ?o98) ?h98 (fun K hK => ?k98) AllReadyH.nil)
                    case h98 => (simp only [List.getElem?_toArray, List.getElem?_cons_succ, List.getElem?_cons_zero]; try rfl)
                    case k98 =>
                      go_simp
                      try go_wp2_with fail
                      refine hK.out _ _ ?_ (fun hHeld => ?_)
                      · trivial
                      clear hK K
                      try simp only [Act.put, List.setIfInBounds_toArray, List.set_cons_zero, List.set_cons_succ]
                      refine wpAnyH_take (i := 23) (oi := ?o99) (v := ?v99) ?h99 (by kernel_rfl) (by kernel_rfl) (by kernel_rfl) ?q99 ?y99 (by assumption) ?_
                      case h99 => (simp only [List.getElem?_toArray, List.getElem?_cons_succ, List.getElem?_cons_zero]; try rfl)
                      case q99 => exact fun _ _ _ h => h
                      case y99 => refine Or.inl ⟨by rfl, ?_⟩; (intro w hSw; (try dsimp only at hSw); go_simp; try with_reducible rfl)
                      try simp only [Act.put, List.setIfInBounds_toArray, List.set_cons_zero, List.set_cons_succ]
                      refine wpAnyH_take (i := 24) (oi := ?o100) (v := ?v100) ?h100 (by kernel_rfl) (by kernel_rfl) (by kernel_rfl) ?q100 ?y100 (by assumption) ?_
                      case h100 => (simp only [List.getElem?_toArray, List.getElem?_cons_succ, List.getElem?_cons_zero]; try rfl)
                      case q100 => exact fun _ _ _ h => h
                      case y100 => refine Or.inl ⟨by rfl, ?_⟩; (intro w hSw; (try dsimp only at hSw); go_simp; try with_reducible rfl)
                      try simp only [Act.put, List.setIfInBounds_toArray, List.set_cons_zero, List.set_cons_succ]
                      refine wpAnyH_done (by kernel_rfl) ?_ _
                      go_wp2
                      refine bodyPost_ret (v := .tuple #[.agg #[.int .i64 most, .slice A9 n9 c9], .int .i64 (layP most L (addS d.x k f)).2.1, .bool (layP most L (addS d.x k f)).2.2]) (by simp [results, Try.results17, go_sem, x0, x1]) rfl ⟨_, _, _, by rw [HRes.out], by rw [HRes.out]; exact (ht.out.set32 (BX.out _ _ bA bb) hz8 _ _).set32 ((BX.out _ _ bA bb).set_ 0 _) hz8 _ _, ?_⟩
                      exact below_set2 (below_set2 ((BW.out _ bA).trans (bb.mono (BW.out _ bA).size)) hz8w) hz8w
          case h89 => (simp only [List.getElem?_toArray, List.getElem?_cons_succ, List.getElem?_cons_zero]; try rfl)
          case k89 =>
            go_simp
            try go_wp2_with fail
            refine hK.out _ _ ?_ (fun hHeld => ?_)
            · exact SX.out _ (hHeld.1.alloc (by have := hHeld.1.size; omega) _)
            clear hK K
            (replace r1 := World.ownsRow.alloc r1 (.cells #[.int .i64 f] 3); replace r2 := World.ownsRow.alloc r2 (.cells #[.int .i64 f] 3); replace r3 := World.ownsRow.alloc r3 (.cells #[.int .i64 f] 3); (try replace k1 := Blk.alloc k1 (.cells #[.int .i64 f] 3)); (try replace k3 := Blk.alloc k3 (.cells #[.int .i64 f] 3)); have k2 := mk_blk r1; (try simp only [size_alloc] at k2))
            try simp only [Act.put, List.setIfInBounds_toArray, List.set_cons_zero, List.set_cons_succ]
            refine wpAnyT_ready (rs := [6]) (by kernel_rfl) (by simp) ?_
            refine (AllReadyT.cons (by decide) (i := 6) (o := ?o101) ?h101 (fun K hK => ?k101) AllReadyT.nil)
            case h101 => (simp only [List.getElem?_toArray, List.getElem?_cons_succ, List.getElem?_cons_zero]; try rfl)
            case k101 =>
              (refine step_append_any _ rfl (.tmp 52) (.tmp 54) 40 rfl (w1.heap.size + 1) 9 i9 _ 1 16 Try.underlying40 h9 x9 y9 z9 rfl (by decide) _ d.nk _ rfl r1 _ _ 1 1 [.string k] rfl (reads_blkS k1 rfl) one_s (by unfold maxLen; omega) (by omega) (by have := hHeld.1.size; omega) ?_; intro vA wA rA gA atA; have r2 := own_kept r2 r1 (by decide) gA; have r3 := own_kept r3 r1 (by decide) gA; (try have k2 := blk_kept k2 r1 (by decide) gA); (try have k3 := blk_kept k3 r1 (by decide) gA); have bA := hHeld.1.grown gA (by have := hHeld.1.size; omega) (fun j e => (r1.lt j e).1); obtain ⟨A1, c1, rfl⟩ := own_is_slice rA; replace r1 := rA; clear atA gA)
              refine hK.out _ _ ?_ (fun hHeld => ?_)
              · exact SX.out _ bA
              clear hK K
              try simp only [Act.put, List.setIfInBounds_toArray, List.set_cons_zero, List.set_cons_succ]
              refine wpAnyT_ready (rs := [10]) (by kernel_rfl) (by simp) ?_
              refine (AllReadyT.cons (by decide) (i := 10) (o := ?o102) ?h102 (fun K hK => ?k102) AllReadyT.nil)
              case h102 => (simp only [List.getElem?_toArray, List.getElem?_cons_succ, List.getElem?_cons_zero]; try rfl)
              case k102 =>
                (refine step_append_any _ rfl (.tmp 56) (.tmp 58) 73 rfl (w1.heap.size + 1) 3 i3 _ 1 8 Try.underlying73 h3 x3 y3 z3 rfl (by decide) _ d.nf _ rfl r2 _ _ 1 1 [.int .i64 f] rfl (reads_blkS k2 rfl) one_i (by unfold maxLen; omega) (by omega) (by have := hHeld.1.size; omega) ?_; intro vA wA rA gA atA; have r1 := own_kept r1 r2 (by decide) gA; have r3 := own_kept r3 r2 (by decide) gA; (try have k1 := blk_kept k1 r2 (by decide) gA); (try have k3 := blk_kept k3 r2 (by decide) gA); have bA := hHeld.1.grown gA (by have := hHeld.1.size; omega) (fun j e => (r2.lt j e).1); obtain ⟨A2, c2, rfl⟩ := own_is_slice rA; replace r2 := rA; clear atA gA)
                refine hK.out _ _ ?_ (fun hHeld => ?_)
                · exact SX.out _ bA
                clear hK K
                try simp only [Act.put, List.setIfInBounds_toArray, List.set_cons_zero, List.set_cons_succ]
                refine wpAnyT_ready (rs := [16]) (by kernel_rfl) (by simp) ?_
                refine (AllReadyT.cons (by decide) (i := 16) (o := ?o103) ?h103 (fun K hK => ?k103) AllReadyT.nil)
                case h103 => (simp only [List.getElem?_toArray, List.getElem?_cons_succ, List.getElem?_cons_zero]; try rfl)
                case k103 =>
                  (refine step_append_any _ rfl (.tmp 60) (.tmp 64) 74 rfl (w1.heap.size + 1) 79 i79 _ 3 32 Try.underlying74 h79 x79 y79 z79 rfl (by decide) _ d.ns _ rfl r3 _ _ 1 1 [.bool false, .string k, .int .i64 f] rfl (reads_blkS k3 rfl) (stv_one ⟨false, k, f⟩) (by unfold maxLen; omega) (by omega) (by have := hHeld.1.size; omega) ?_; intro vA wA rA gA atA; have r1 := own_kept r1 r3 (by decide) gA; have r2 := own_kept r2 r3 (by decide) gA; (try have k1 := blk_kept k1 r3 (by decide) gA); (try have k2 := blk_kept k2 r3 (by decide) gA); have bA := hHeld.1.grown gA (by have := hHeld.1.size; omega) (fun j e => (r3.lt j e).1); obtain ⟨A3, c3, rfl⟩ := own_is_slice rA; replace r3 := rA; clear atA gA)
                  refine hK.out _ _ ?_ (fun hHeld => ?_)
                  · exact SX.out _ bA
                  clear hK K
                  try simp only [Act.put, List.setIfInBounds_toArray, List.set_cons_zero, List.set_cons_succ]
                  refine wpAnyT_take (i := 17) (oi := ?o104) (v := ?v104) ?h104 (by kernel_rfl) (by kernel_rfl) (by kernel_rfl) ?q104 ?y104 (by assumption) ?_
                  case h104 => (simp only [List.getElem?_toArray, List.getElem?_cons_succ, List.getElem?_cons_zero]; try rfl)
                  case q104 => exact fun _ _ _ h => h
                  case y104 => refine Or.inl ⟨by rfl, ?_⟩; (intro w hSw; (try dsimp only at hSw); go_simp; try with_reducible rfl)
                  try simp only [Act.put, List.setIfInBounds_toArray, List.set_cons_zero, List.set_cons_succ]
                  refine wpAnyT_done (by kernel_rfl) ?_
                  refine wpAnyH_ready (rs := [18]) (by kernel_rfl) (by simp) ?_
                  refine (AllReadyH.cons (i := 18) (o := ?o105) ?h105 (fun K hK => ?k105) AllReadyH.nil)
                  case h105 => (simp only [List.getElem?_toArray, List.getElem?_cons_succ, List.getElem?_cons_zero]; try rfl)
                  case k105 =>
                    go_simp
                    ((with_reducible refine (LC.out _ A1 c1 A2 c2 A3 c3 bA r1 r2 r3).mono ?_); rintro e w9 ⟨A9, n9, c9, rfl, ht, bb⟩; obtain ⟨x0, x1, x2, x3⟩ := (BX.out _ _ bA bb).two; have ht := Lib.hid ht)
                    try go_wp2_with fail
                    refine hK.out _ _ ?_ (fun hHeld => ?_)
                    · trivial
                    clear hK K
                    try simp only [Act.put, List.setIfInBounds_toArray, List.set_cons_zero, List.set_cons_succ]
                    refine wpAnyH_take (i := 19) (oi := ?o106) (v := ?v106) ?h106 (by kernel_rfl) (by kernel_rfl) (by kernel_rfl) ?q106 ?y106 (by assumption) ?_
                    case h106 => (simp only [List.getElem?_toArray, List.getElem?_cons_succ, List.getElem?_cons_zero]; try rfl)
                    case q106 => exact fun _ _ _ h => h
                    case y106 => refine Or.inl ⟨by rfl, ?_⟩; (intro w hSw; (try dsimp only at hSw); go_simp; try with_reducible rfl)
                    try simp only [Act.put, List.setIfInBounds_toArray, List.set_cons_zero, List.set_cons_succ]
                    refine wpAnyH_take (i := 20) (oi := ?o107) (v := ?v107) ?h107 (by kernel_rfl) (by kernel_rfl) (by kernel_rfl) ?q107 ?y107 (by assumption) ?_
                    case h107 => (simp only [List.getElem?_toArray, List.getElem?_cons_succ, List.getElem?_cons_zero]; try rfl)
                    case q107 => exact fun _ _ _ h => h
                    case y107 => refine Or.inl ⟨by rfl, ?_⟩; (intro w hSw; (try dsimp only at hSw); go_simp; try with_reducible rfl)
                    try simp only [Act.put, List.setIfInBounds_toArray, List.set_cons_zero, List.set_cons_succ]
                    refine wpAnyH_take (i := 21) (oi := ?o108) (v := ?v108) ?h108 (by kernel_rfl) (by kernel_rfl) (by kernel_rfl) ?q108 ?y108 (by assumption) ?_
                    case h108 => (simp only [List.getElem?_toArray, List.getElem?_cons_succ, List.getElem?_cons_zero]; try rfl)
                    case q108 => exact fun _ _ _ h => h
                    case y108 => refine Or.inl ⟨by rfl, ?_⟩; (intro w hSw; (try dsimp only at hSw); go_simp; try with_reducible rfl)
                    try simp only [Act.put, List.setIfInBounds_toArray, List.set_cons_zero, List.set_cons_succ]
                    refine wpAnyH_ready (rs := [22]) (by kernel_rfl) (by simp) ?_
                    refine (AllReadyH.cons (i := 22) (o := ?o109) ?h109 (fun K hK => ?k109) AllReadyH.nil)
                    case h109 => (simp only [List.getElem?_toArray, List.getElem?_cons_succ, List.getElem?_cons_zero]; try rfl)
                    case k109 =>
                      go_simp
                      try go_wp2_with fail
                      refine hK.out _ _ ?_ (fun hHeld => ?_)
                      · trivial
                      clear hK K
                      try simp only [Act.put, List.setIfInBounds_toArray, List.set_cons_zero, List.set_cons_succ]
                      refine wpAnyH_take (i := 23) (oi := ?o110) (v := ?v110) ?h110 (by kernel_rfl) (by kernel_rfl) (by kernel_rfl) ?q110 ?y110 (by assumption) ?_
                      case h110 => (simp only [List.getElem?_toArray, List.getElem?_cons_succ, List.getElem?_cons_zero]; try rfl)
                      case q110 => exact fun _ _ _ h => h
                      case y110 => refine Or.inl ⟨by rfl, ?_⟩; (intro w hSw; (try dsimp only at hSw); go_simp; try with_reducible rfl)
                      try simp only [Act.put, List.setIfInBounds_toArray, List.set_cons_zero, List.set_cons_succ]
                      refine wpAnyH_take (i := 24) (oi := ?o111) (v := ?v111) ?h111 (by kernel_rfl) (by kernel_rfl) (by kernel_rfl) ?q111 ?y111 (by assumption) ?_
                      case h111 => (simp only [List.getElem?_toArray, List.getElem?_cons_succ, List.getElem?_cons_zero]; try rfl)
                      case q111 => exact fun _ _ _ h => h
                      case y111 => refine Or.inl ⟨by rfl, ?_⟩; (intro w hSw; (try dsimp only at hSw); go_simp; try with_reducible rfl)
                      try simp only [Act.put, List.setIfInBounds_toArray, List.set_cons_zero, List.set_cons_succ]
                      refine wpAnyH_done (by kernel_rfl) ?_ _
                      go_wp2
                      refine bodyPost_ret (v := .tuple #[.agg #[.int .i64 most, .slice A9 n9 c9], .int .i64 (layP most L (addS d.x k f)).2.1, .bool (layP most L (addS d.x k f)).2.2]) (by simp [results, Try.results17, go_sem, x0, x1]) rfl ⟨_, _, _, by rw [HRes.out], by rw [HRes.out]; exact (ht.out.set32 (BX.out _ _ bA bb) hz8 _ _).set32 ((BX.out _ _ bA bb).set_ 0 _) hz8 _ _, ?_⟩
                      exact below_set2 (below_set2 ((BW.out _ bA).trans (bb.mono (BW.out _ bA).size)) hz8w) hz8w
      case h13 => (simp only [List.getElem?_toArray, List.getElem?_cons_succ, List.getElem?_cons_zero]; try rfl)
      case k13 =>
        go_simp
        try go_wp2_with fail
        refine hK.out _ _ ?_ (fun hHeld => ?_)
        · exact SX.out _ (hHeld.1.alloc (by have := hHeld.1.size; omega) _)
        clear hK K
        (replace r1 := World.ownsRow.alloc r1 (.cells #[.int .i64 f] 3); replace r2 := World.ownsRow.alloc r2 (.cells #[.int .i64 f] 3); replace r3 := World.ownsRow.alloc r3 (.cells #[.int .i64 f] 3); (try replace k1 := Blk.alloc k1 (.cells #[.int .i64 f] 3)); (try replace k3 := Blk.alloc k3 (.cells #[.int .i64 f] 3)); have k2 := mk_blk r1; (try simp only [size_alloc] at k2))
        try simp only [Act.put, List.setIfInBounds_toArray, List.set_cons_zero, List.set_cons_succ]
        refine wpAnyT_ready (rs := [5, 15]) (by kernel_rfl) (by simp) ?_
        refine (AllReadyT.cons (by decide) (i := 5) (o := ?o112) ?h112 (fun K hK => ?k112) (AllReadyT.cons (by decide) (i := 15) (o := ?o113) ?h113 (fun K hK => ?k113) AllReadyT.nil))
        case h112 => (simp only [List.getElem?_toArray, List.getElem?_cons_succ, List.getElem?_cons_zero]; try rfl)
        case k112 =>
          go_simp
          try go_wp2_with fail
          refine hK.out _ _ ?_ (fun hHeld => ?_)
          · exact SX.out _ (hHeld.1.alloc (by have := hHeld.1.size; omega) _)
          clear hK K
          (replace r1 := World.ownsRow.alloc r1 (.cells #[.string k] 9); replace r2 := World.ownsRow.alloc r2 (.cells #[.string k] 9); replace r3 := World.ownsRow.alloc r3 (.cells #[.string k] 9); (try replace k2 := Blk.alloc k2 (.cells #[.string k] 9)); (try replace k3 := Blk.alloc k3 (.cells #[.string k] 9)); have k1 := mk_blk r1; (try simp only [size_alloc] at k1))
          try simp only [Act.put, List.setIfInBounds_toArray, List.set_cons_zero, List.set_cons_succ]
          refine wpAnyT_ready (rs := [6, 15]) (by kernel_rfl) (by simp) ?_
          refine (AllReadyT.cons (by decide) (i := 6) (o := ?o114) ?h114 (fun K hK => ?k114) (AllReadyT.cons (by decide) (i := 15) (o := ?o115) ?h115 (fun K hK => ?k115) AllReadyT.nil))
          case h114 => (simp only [List.getElem?_toArray, List.getElem?_cons_succ, List.getElem?_cons_zero]; try rfl)
          case k114 =>
            (refine step_append_any _ rfl (.tmp 52) (.tmp 54) 40 rfl (w1.heap.size + 1) 9 i9 _ 1 16 Try.underlying40 h9 x9 y9 z9 rfl (by decide) _ d.nk _ rfl r1 _ _ 1 1 [.string k] rfl (reads_blkS k1 rfl) one_s (by unfold maxLen; omega) (by omega) (by have := hHeld.1.size; omega) ?_; intro vA wA rA gA atA; have r2 := own_kept r2 r1 (by decide) gA; have r3 := own_kept r3 r1 (by decide) gA; (try have k2 := blk_kept k2 r1 (by decide) gA); (try have k3 := blk_kept k3 r1 (by decide) gA); have bA := hHeld.1.grown gA (by have := hHeld.1.size; omega) (fun j e => (r1.lt j e).1); obtain ⟨A1, c1, rfl⟩ := own_is_slice rA; replace r1 := rA; clear atA gA)
            refine hK.out _ _ ?_ (fun hHeld => ?_)
            · exact SX.out _ bA
            clear hK K
            try simp only [Act.put, List.setIfInBounds_toArray, List.set_cons_zero, List.set_cons_succ]
            refine wpAnyT_ready (rs := [10, 15]) (by kernel_rfl) (by simp) ?_
            refine (AllReadyT.cons (by decide) (i := 10) (o := ?o116) ?h116 (fun K hK => ?k116) (AllReadyT.cons (by decide) (i := 15) (o := ?o117) ?h117 (fun K hK => ?k117) AllReadyT.nil))
            case h116 => (simp only [List.getElem?_toArray, List.getElem?_cons_succ, List.getElem?_cons_zero]; try rfl)
            case k116 =>
              (refine step_append_any _ rfl (.tmp 56) (.tmp 58) 73 rfl (w1.heap.size + 1) 3 i3 _ 1 8 Try.underlying73 h3 x3 y3 z3 rfl (by decide) _ d.nf _ rfl r2 _ _ 1 1 [.int .i64 f] rfl (reads_blkS k2 rfl) one_i (by unfold maxLen; omega) (by omega) (by have := hHeld.1.size; omega) ?_; intro vA wA rA gA atA; have r1 := own_kept r1 r2 (by decide) gA; have r3 := own_kept r3 r2 (by decide) gA; (try have k1 := blk_kept k1 r2 (by decide) gA); (try have k3 := blk_kept k3 r2 (by decide) gA); have bA := hHeld.1.grown gA (by have := hHeld.1.size; omega) (fun j e => (r2.lt j e).1); obtain ⟨A2, c2, rfl⟩ := own_is_slice rA; replace r2 := rA; clear atA gA)
              refine hK.out _ _ ?_ (fun hHeld => ?_)
              · exact SX.out _ bA
              clear hK K
              try simp only [Act.put, List.setIfInBounds_toArray, List.set_cons_zero, List.set_cons_succ]
              refine wpAnyT_ready (rs := [15]) (by kernel_rfl) (by simp) ?_
              refine (AllReadyT.cons (by decide) (i := 15) (o := ?o118) ?h118 (fun K hK => ?k118) AllReadyT.nil)
              case h118 => (simp only [List.getElem?_toArray, List.getElem?_cons_succ, List.getElem?_cons_zero]; try rfl)
              case k118 =>
                go_simp
                try go_wp2_with fail
                refine hK.out _ _ ?_ (fun hHeld => ?_)
                · exact SX.out _ (hHeld.1.alloc (by have := hHeld.1.size; omega) _)
                clear hK K
                (replace r1 := World.ownsRow.alloc r1 (.cells #[.bool false, .string k, .int .i64 f] 79); replace r2 := World.ownsRow.alloc r2 (.cells #[.bool false, .string k, .int .i64 f] 79); replace r3 := World.ownsRow.alloc r3 (.cells #[.bool false, .string k, .int .i64 f] 79); (try replace k1 := Blk.alloc k1 (.cells #[.bool false, .string k, .int .i64 f] 79)); (try replace k2 := Blk.alloc k2 (.cells #[.bool false, .string k, .int .i64 f] 79)); have k3 := mk_blk r1; (try simp only [size_alloc] at k3))
                try simp only [Act.put, List.setIfInBounds_toArray, List.set_cons_zero, List.set_cons_succ]
                refine wpAnyT_ready (rs := [16]) (by kernel_rfl) (by simp) ?_
                refine (AllReadyT.cons (by decide) (i := 16) (o := ?o119) ?h119 (fun K hK => ?k119) AllReadyT.nil)
                case h119 => (simp only [List.getElem?_toArray, List.getElem?_cons_succ, List.getElem?_cons_zero]; try rfl)
                case k119 =>
                  (refine step_append_any _ rfl (.tmp 60) (.tmp 64) 74 rfl (w1.heap.size + 1) 79 i79 _ 3 32 Try.underlying74 h79 x79 y79 z79 rfl (by decide) _ d.ns _ rfl r3 _ _ 1 1 [.bool false, .string k, .int .i64 f] rfl (reads_blkS k3 rfl) (stv_one ⟨false, k, f⟩) (by unfold maxLen; omega) (by omega) (by have := hHeld.1.size; omega) ?_; intro vA wA rA gA atA; have r1 := own_kept r1 r3 (by decide) gA; have r2 := own_kept r2 r3 (by decide) gA; (try have k1 := blk_kept k1 r3 (by decide) gA); (try have k2 := blk_kept k2 r3 (by decide) gA); have bA := hHeld.1.grown gA (by have := hHeld.1.size; omega) (fun j e => (r3.lt j e).1); obtain ⟨A3, c3, rfl⟩ := own_is_slice rA; replace r3 := rA; clear atA gA)
                  refine hK.out _ _ ?_ (fun hHeld => ?_)
                  · exact SX.out _ bA
                  clear hK K
                  try simp only [Act.put, List.setIfInBounds_toArray, List.set_cons_zero, List.set_cons_succ]
                  refine wpAnyT_take (i := 17) (oi := ?o120) (v := ?v120) ?h120 (by kernel_rfl) (by kernel_rfl) (by kernel_rfl) ?q120 ?y120 (by assumption) ?_
                  case h120 => (simp only [List.getElem?_toArray, List.getElem?_cons_succ, List.getElem?_cons_zero]; try rfl)
                  case q120 => exact fun _ _ _ h => h
                  case y120 => refine Or.inl ⟨by rfl, ?_⟩; (intro w hSw; (try dsimp only at hSw); go_simp; try with_reducible rfl)
                  try simp only [Act.put, List.setIfInBounds_toArray, List.set_cons_zero, List.set_cons_succ]
                  refine wpAnyT_done (by kernel_rfl) ?_
                  refine wpAnyH_ready (rs := [18]) (by kernel_rfl) (by simp) ?_
                  refine (AllReadyH.cons (i := 18) (o := ?o121) ?h121 (fun K hK => ?k121) AllReadyH.nil)
                  case h121 => (simp only [List.getElem?_toArray, List.getElem?_cons_succ, List.getElem?_cons_zero]; try rfl)
                  case k121 =>
                    go_simp
                    ((with_reducible refine (LC.out _ A1 c1 A2 c2 A3 c3 bA r1 r2 r3).mono ?_); rintro e w9 ⟨A9, n9, c9, rfl, ht, bb⟩; obtain ⟨x0, x1, x2, x3⟩ := (BX.out _ _ bA bb).two; have ht := Lib.hid ht)
                    try go_wp2_with fail
                    refine hK.out _ _ ?_ (fun hHeld => ?_)
                    · trivial
                    clear hK K
                    try simp only [Act.put, List.setIfInBounds_toArray, List.set_cons_zero, List.set_cons_succ]
                    refine wpAnyH_take (i := 19) (oi := ?o122) (v := ?v122) ?h122 (by kernel_rfl) (by kernel_rfl) (by kernel_rfl) ?q122 ?y122 (by assumption) ?_
                    case h122 => (simp only [List.getElem?_toArray, List.getElem?_cons_succ, List.getElem?_cons_zero]; try rfl)
                    case q122 => exact fun _ _ _ h => h
                    case y122 => refine Or.inl ⟨by rfl, ?_⟩; (intro w hSw; (try dsimp only at hSw); go_simp; try with_reducible rfl)
                    try simp only [Act.put, List.setIfInBounds_toArray, List.set_cons_zero, List.set_cons_succ]
                    refine wpAnyH_take (i := 20) (oi := ?o123) (v := ?v123) ?h123 (by kernel_rfl) (by kernel_rfl) (by kernel_rfl) ?q123 ?y123 (by assumption) ?_
                    case h123 => (simp only [List.getElem?_toArray, List.getElem?_cons_succ, List.getElem?_cons_zero]; try rfl)
                    case q123 => exact fun _ _ _ h => h
                    case y123 => refine Or.inl ⟨by rfl, ?_⟩; (intro w hSw; (try dsimp only at hSw); go_simp; try with_reducible rfl)
                    try simp only [Act.put, List.setIfInBounds_toArray, List.set_cons_zero, List.set_cons_succ]
                    refine wpAnyH_take (i := 21) (oi := ?o124) (v := ?v124) ?h124 (by kernel_rfl) (by kernel_rfl) (by kernel_rfl) ?q124 ?y124 (by assumption) ?_
                    case h124 => (simp only [List.getElem?_toArray, List.getElem?_cons_succ, List.getElem?_cons_zero]; try rfl)
                    case q124 => exact fun _ _ _ h => h
                    case y124 => refine Or.inl ⟨by rfl, ?_⟩; (intro w hSw; (try dsimp only at hSw); go_simp; try with_reducible rfl)
                    try simp only [Act.put, List.setIfInBounds_toArray, List.set_cons_zero, List.set_cons_succ]
                    refine wpAnyH_ready (rs := [22]) (by kernel_rfl) (by simp) ?_
                    refine (AllReadyH.cons (i := 22) (o := ?o125) ?h125 (fun K hK => ?k125) AllReadyH.nil)
                    case h125 => (simp only [List.getElem?_toArray, List.getElem?_cons_succ, List.getElem?_cons_zero]; try rfl)
                    case k125 =>
                      go_simp
                      try go_wp2_with fail
                      refine hK.out _ _ ?_ (fun hHeld => ?_)
                      · trivial
                      clear hK K
                      try simp only [Act.put, List.setIfInBounds_toArray, List.set_cons_zero, List.set_cons_succ]
                      refine wpAnyH_take (i := 23) (oi := ?o126) (v := ?v126) ?h126 (by kernel_rfl) (by kernel_rfl) (by kernel_rfl) ?q126 ?y126 (by assumption) ?_
                      case h126 => (simp only [List.getElem?_toArray, List.getElem?_cons_succ, List.getElem?_cons_zero]; try rfl)
                      case q126 => exact fun _ _ _ h => h
                      case y126 => refine Or.inl ⟨by rfl, ?_⟩; (intro w hSw; (try dsimp only at hSw); go_simp; try with_reducible rfl)
                      try simp only [Act.put, List.setIfInBounds_toArray, List.set_cons_zero, List.set_cons_succ]
                      refine wpAnyH_take (i := 24) (oi := ?o127) (v := ?v127) ?h127 (by kernel_rfl) (by kernel_rfl) (by kernel_rfl) ?q127 ?y127 (by assumption) ?_
                      case h127 => (simp only [List.getElem?_toArray, List.getElem?_cons_succ, List.getElem?_cons_zero]; try rfl)
                      case q127 => exact fun _ _ _ h => h
                      case y127 => refine Or.inl ⟨by rfl, ?_⟩; (intro w hSw; (try dsimp only at hSw); go_simp; try with_reducible rfl)
                      try simp only [Act.put, List.setIfInBounds_toArray, List.set_cons_zero, List.set_cons_succ]
                      refine wpAnyH_done (by kernel_rfl) ?_ _
                      go_wp2
                      refine bodyPost_ret (v := .tuple #[.agg #[.int .i64 most, .slice A9 n9 c9], .int .i64 (layP most L (addS d.x k f)).2.1, .bool (layP most L (addS d.x k f)).2.2]) (by simp [results, Try.results17, go_sem, x0, x1]) rfl ⟨_, _, _, by rw [HRes.out], by rw [HRes.out]; exact (ht.out.set32 (BX.out _ _ bA bb) hz8 _ _).set32 ((BX.out _ _ bA bb).set_ 0 _) hz8 _ _, ?_⟩
                      exact below_set2 (below_set2 ((BW.out _ bA).trans (bb.mono (BW.out _ bA).size)) hz8w) hz8w
            case h117 => (simp only [List.getElem?_toArray, List.getElem?_cons_succ, List.getElem?_cons_zero]; try rfl)
            case k117 =>
              go_simp
              try go_wp2_with fail
              refine hK.out _ _ ?_ (fun hHeld => ?_)
              · exact SX.out _ (hHeld.1.alloc (by have := hHeld.1.size; omega) _)
              clear hK K
              (replace r1 := World.ownsRow.alloc r1 (.cells #[.bool false, .string k, .int .i64 f] 79); replace r2 := World.ownsRow.alloc r2 (.cells #[.bool false, .string k, .int .i64 f] 79); replace r3 := World.ownsRow.alloc r3 (.cells #[.bool false, .string k, .int .i64 f] 79); (try replace k1 := Blk.alloc k1 (.cells #[.bool false, .string k, .int .i64 f] 79)); (try replace k2 := Blk.alloc k2 (.cells #[.bool false, .string k, .int .i64 f] 79)); have k3 := mk_blk r1; (try simp only [size_alloc] at k3))
              try simp only [Act.put, List.setIfInBounds_toArray, List.set_cons_zero, List.set_cons_succ]
              refine wpAnyT_ready (rs := [10]) (by kernel_rfl) (by simp) ?_
              refine (AllReadyT.cons (by decide) (i := 10) (o := ?o128) ?h128 (fun K hK => ?k128) AllReadyT.nil)
              case h128 => (simp only [List.getElem?_toArray, List.getElem?_cons_succ, List.getElem?_cons_zero]; try rfl)
              case k128 =>
                (refine step_append_any _ rfl (.tmp 56) (.tmp 58) 73 rfl (w1.heap.size + 1) 3 i3 _ 1 8 Try.underlying73 h3 x3 y3 z3 rfl (by decide) _ d.nf _ rfl r2 _ _ 1 1 [.int .i64 f] rfl (reads_blkS k2 rfl) one_i (by unfold maxLen; omega) (by omega) (by have := hHeld.1.size; omega) ?_; intro vA wA rA gA atA; have r1 := own_kept r1 r2 (by decide) gA; have r3 := own_kept r3 r2 (by decide) gA; (try have k1 := blk_kept k1 r2 (by decide) gA); (try have k3 := blk_kept k3 r2 (by decide) gA); have bA := hHeld.1.grown gA (by have := hHeld.1.size; omega) (fun j e => (r2.lt j e).1); obtain ⟨A2, c2, rfl⟩ := own_is_slice rA; replace r2 := rA; clear atA gA)
                refine hK.out _ _ ?_ (fun hHeld => ?_)
                · exact SX.out _ bA
                clear hK K
                try simp only [Act.put, List.setIfInBounds_toArray, List.set_cons_zero, List.set_cons_succ]
                refine wpAnyT_ready (rs := [16]) (by kernel_rfl) (by simp) ?_
                refine (AllReadyT.cons (by decide) (i := 16) (o := ?o129) ?h129 (fun K hK => ?k129) AllReadyT.nil)
                case h129 => (simp only [List.getElem?_toArray, List.getElem?_cons_succ, List.getElem?_cons_zero]; try rfl)
                case k129 =>
                  (refine step_append_any _ rfl (.tmp 60) (.tmp 64) 74 rfl (w1.heap.size + 1) 79 i79 _ 3 32 Try.underlying74 h79 x79 y79 z79 rfl (by decide) _ d.ns _ rfl r3 _ _ 1 1 [.bool false, .string k, .int .i64 f] rfl (reads_blkS k3 rfl) (stv_one ⟨false, k, f⟩) (by unfold maxLen; omega) (by omega) (by have := hHeld.1.size; omega) ?_; intro vA wA rA gA atA; have r1 := own_kept r1 r3 (by decide) gA; have r2 := own_kept r2 r3 (by decide) gA; (try have k1 := blk_kept k1 r3 (by decide) gA); (try have k2 := blk_kept k2 r3 (by decide) gA); have bA := hHeld.1.grown gA (by have := hHeld.1.size; omega) (fun j e => (r3.lt j e).1); obtain ⟨A3, c3, rfl⟩ := own_is_slice rA; replace r3 := rA; clear atA gA)
                  refine hK.out _ _ ?_ (fun hHeld => ?_)
                  · exact SX.out _ bA
                  clear hK K
                  try simp only [Act.put, List.setIfInBounds_toArray, List.set_cons_zero, List.set_cons_succ]
                  refine wpAnyT_take (i := 17) (oi := ?o130) (v := ?v130) ?h130 (by kernel_rfl) (by kernel_rfl) (by kernel_rfl) ?q130 ?y130 (by assumption) ?_
                  case h130 => (simp only [List.getElem?_toArray, List.getElem?_cons_succ, List.getElem?_cons_zero]; try rfl)
                  case q130 => exact fun _ _ _ h => h
                  case y130 => refine Or.inl ⟨by rfl, ?_⟩; (intro w hSw; (try dsimp only at hSw); go_simp; try with_reducible rfl)
                  try simp only [Act.put, List.setIfInBounds_toArray, List.set_cons_zero, List.set_cons_succ]
                  refine wpAnyT_done (by kernel_rfl) ?_
                  refine wpAnyH_ready (rs := [18]) (by kernel_rfl) (by simp) ?_
                  refine (AllReadyH.cons (i := 18) (o := ?o131) ?h131 (fun K hK => ?k131) AllReadyH.nil)
                  case h131 => (simp only [List.getElem?_toArray, List.getElem?_cons_succ, List.getElem?_cons_zero]; try rfl)
                  case k131 =>
                    go_simp
                    ((with_reducible refine (LC.out _ A1 c1 A2 c2 A3 c3 bA r1 r2 r3).mono ?_); rintro e w9 ⟨A9, n9, c9, rfl, ht, bb⟩; obtain ⟨x0, x1, x2, x3⟩ := (BX.out _ _ bA bb).two; have ht := Lib.hid ht)
                    try go_wp2_with fail
                    refine hK.out _ _ ?_ (fun hHeld => ?_)
                    · trivial
                    clear hK K
                    try simp only [Act.put, List.setIfInBounds_toArray, List.set_cons_zero, List.set_cons_succ]
                    refine wpAnyH_take (i := 19) (oi := ?o132) (v := ?v132) ?h132 (by kernel_rfl) (by kernel_rfl) (by kernel_rfl) ?q132 ?y132 (by assumption) ?_
                    case h132 => (simp only [List.getElem?_toArray, List.getElem?_cons_succ, List.getElem?_cons_zero]; try rfl)
                    case q132 => exact fun _ _ _ h => h
                    case y132 => refine Or.inl ⟨by rfl, ?_⟩; (intro w hSw; (try dsimp only at hSw); go_simp; try with_reducible rfl)
                    try simp only [Act.put, List.setIfInBounds_toArray, List.set_cons_zero, List.set_cons_succ]
                    refine wpAnyH_take (i := 20) (oi := ?o133) (v := ?v133) ?h133 (by kernel_rfl) (by kernel_rfl) (by kernel_rfl) ?q133 ?y133 (by assumption) ?_
                    case h133 => (simp only [List.getElem?_toArray, List.getElem?_cons_succ, List.getElem?_cons_zero]; try rfl)
                    case q133 => exact fun _ _ _ h => h
                    case y133 => refine Or.inl ⟨by rfl, ?_⟩; (intro w hSw; (try dsimp only at hSw); go_simp; try with_reducible rfl)
                    try simp only [Act.put, List.setIfInBounds_toArray, List.set_cons_zero, List.set_cons_succ]
                    refine wpAnyH_take (i := 21) (oi := ?o134) (v := ?v134) ?h134 (by kernel_rfl) (by kernel_rfl) (by kernel_rfl) ?q134 ?y134 (by assumption) ?_
                    case h134 => (simp only [List.getElem?_toArray, List.getElem?_cons_succ, List.getElem?_cons_zero]; try rfl)
                    case q134 => exact fun _ _ _ h => h
                    case y134 => refine Or.inl ⟨by rfl, ?_⟩; (intro w hSw; (try dsimp only at hSw); go_simp; try with_reducible rfl)
                    try simp only [Act.put, List.setIfInBounds_toArray, List.set_cons_zero, List.set_cons_succ]
                    refine wpAnyH_ready (rs := [22]) (by kernel_rfl) (by simp) ?_
                    refine (AllReadyH.cons (i := 22) (o := ?o135) ?h135 (fun K hK => ?k135) AllReadyH.nil)
                    case h135 => (simp only [List.getElem?_toArray, List.getElem?_cons_succ, List.getElem?_cons_zero]; try rfl)
                    case k135 =>
                      go_simp
                      try go_wp2_with fail
                      refine hK.out _ _ ?_ (fun hHeld => ?_)
                      · trivial
                      clear hK K
                      try simp only [Act.put, List.setIfInBounds_toArray, List.set_cons_zero, List.set_cons_succ]
                      refine wpAnyH_take (i := 23) (oi := ?o136) (v := ?v136) ?h136 (by kernel_rfl) (by kernel_rfl) (by kernel_rfl) ?q136 ?y136 (by assumption) ?_
                      case h136 => (simp only [List.getElem?_toArray, List.getElem?_cons_succ, List.getElem?_cons_zero]; try rfl)
                      case q136 => exact fun _ _ _ h => h
                      case y136 => refine Or.inl ⟨by rfl, ?_⟩; (intro w hSw; (try dsimp only at hSw); go_simp; try with_reducible rfl)
                      try simp only [Act.put, List.setIfInBounds_toArray, List.set_cons_zero, List.set_cons_succ]
                      refine wpAnyH_take (i := 24) (oi := ?o137) (v := ?v137) ?h137 (by kernel_rfl) (by kernel_rfl) (by kernel_rfl) ?q137 ?y137 (by assumption) ?_
                      case h137 => (simp only [List.getElem?_toArray, List.getElem?_cons_succ, List.getElem?_cons_zero]; try rfl)
                      case q137 => exact fun _ _ _ h => h
                      case y137 => refine Or.inl ⟨by rfl, ?_⟩; (intro w hSw; (try dsimp only at hSw); go_simp; try with_reducible rfl)
                      try simp only [Act.put, List.setIfInBounds_toArray, List.set_cons_zero, List.set_cons_succ]
                      refine wpAnyH_done (by kernel_rfl) ?_ _
                      go_wp2
                      refine bodyPost_ret (v := .tuple #[.agg #[.int .i64 most, .slice A9 n9 c9], .int .i64 (layP most L (addS d.x k f)).2.1, .bool (layP most L (addS d.x k f)).2.2]) (by simp [results, Try.results17, go_sem, x0, x1]) rfl ⟨_, _, _, by rw [HRes.out], by rw [HRes.out]; exact (ht.out.set32 (BX.out _ _ bA bb) hz8 _ _).set32 ((BX.out _ _ bA bb).set_ 0 _) hz8 _ _, ?_⟩
                      exact below_set2 (below_set2 ((BW.out _ bA).trans (bb.mono (BW.out _ bA).size)) hz8w) hz8w
          case h115 => (simp only [List.getElem?_toArray, List.getElem?_cons_succ, List.getElem?_cons_zero]; try rfl)
          case k115 =>
            go_simp
            try go_wp2_with fail
            refine hK.out _ _ ?_ (fun hHeld => ?_)
            · exact SX.out _ (hHeld.1.alloc (by have := hHeld.1.size; omega) _)
            clear hK K
            (replace r1 := World.ownsRow.alloc r1 (.cells #[.bool false, .string k, .int .i64 f] 79); replace r2 := World.ownsRow.alloc r2 (.cells #[.bool false, .string k, .int .i64 f] 79); replace r3 := World.ownsRow.alloc r3 (.cells #[.bool false, .string k, .int .i64 f] 79); (try replace k1 := Blk.alloc k1 (.cells #[.bool false, .string k, .int .i64 f] 79)); (try replace k2 := Blk.alloc k2 (.cells #[.bool false, .string k, .int .i64 f] 79)); have k3 := mk_blk r1; (try simp only [size_alloc] at k3))
            try simp only [Act.put, List.setIfInBounds_toArray, List.set_cons_zero, List.set_cons_succ]
            refine wpAnyT_ready (rs := [6]) (by kernel_rfl) (by simp) ?_
            refine (AllReadyT.cons (by decide) (i := 6) (o := ?o138) ?h138 (fun K hK => ?k138) AllReadyT.nil)
            case h138 => (simp only [List.getElem?_toArray, List.getElem?_cons_succ, List.getElem?_cons_zero]; try rfl)
            case k138 =>
              (refine step_append_any _ rfl (.tmp 52) (.tmp 54) 40 rfl (w1.heap.size + 1) 9 i9 _ 1 16 Try.underlying40 h9 x9 y9 z9 rfl (by decide) _ d.nk _ rfl r1 _ _ 1 1 [.string k] rfl (reads_blkS k1 rfl) one_s (by unfold maxLen; omega) (by omega) (by have := hHeld.1.size; omega) ?_; intro vA wA rA gA atA; have r2 := own_kept r2 r1 (by decide) gA; have r3 := own_kept r3 r1 (by decide) gA; (try have k2 := blk_kept k2 r1 (by decide) gA); (try have k3 := blk_kept k3 r1 (by decide) gA); have bA := hHeld.1.grown gA (by have := hHeld.1.size; omega) (fun j e => (r1.lt j e).1); obtain ⟨A1, c1, rfl⟩ := own_is_slice rA; replace r1 := rA; clear atA gA)
              refine hK.out _ _ ?_ (fun hHeld => ?_)
              · exact SX.out _ bA
              clear hK K
              try simp only [Act.put, List.setIfInBounds_toArray, List.set_cons_zero, List.set_cons_succ]
              refine wpAnyT_ready (rs := [10]) (by kernel_rfl) (by simp) ?_
              refine (AllReadyT.cons (by decide) (i := 10) (o := ?o139) ?h139 (fun K hK => ?k139) AllReadyT.nil)
              case h139 => (simp only [List.getElem?_toArray, List.getElem?_cons_succ, List.getElem?_cons_zero]; try rfl)
              case k139 =>
                (refine step_append_any _ rfl (.tmp 56) (.tmp 58) 73 rfl (w1.heap.size + 1) 3 i3 _ 1 8 Try.underlying73 h3 x3 y3 z3 rfl (by decide) _ d.nf _ rfl r2 _ _ 1 1 [.int .i64 f] rfl (reads_blkS k2 rfl) one_i (by unfold maxLen; omega) (by omega) (by have := hHeld.1.size; omega) ?_; intro vA wA rA gA atA; have r1 := own_kept r1 r2 (by decide) gA; have r3 := own_kept r3 r2 (by decide) gA; (try have k1 := blk_kept k1 r2 (by decide) gA); (try have k3 := blk_kept k3 r2 (by decide) gA); have bA := hHeld.1.grown gA (by have := hHeld.1.size; omega) (fun j e => (r2.lt j e).1); obtain ⟨A2, c2, rfl⟩ := own_is_slice rA; replace r2 := rA; clear atA gA)
                refine hK.out _ _ ?_ (fun hHeld => ?_)
                · exact SX.out _ bA
                clear hK K
                try simp only [Act.put, List.setIfInBounds_toArray, List.set_cons_zero, List.set_cons_succ]
                refine wpAnyT_ready (rs := [16]) (by kernel_rfl) (by simp) ?_
                refine (AllReadyT.cons (by decide) (i := 16) (o := ?o140) ?h140 (fun K hK => ?k140) AllReadyT.nil)
                case h140 => (simp only [List.getElem?_toArray, List.getElem?_cons_succ, List.getElem?_cons_zero]; try rfl)
                case k140 =>
                  (refine step_append_any _ rfl (.tmp 60) (.tmp 64) 74 rfl (w1.heap.size + 1) 79 i79 _ 3 32 Try.underlying74 h79 x79 y79 z79 rfl (by decide) _ d.ns _ rfl r3 _ _ 1 1 [.bool false, .string k, .int .i64 f] rfl (reads_blkS k3 rfl) (stv_one ⟨false, k, f⟩) (by unfold maxLen; omega) (by omega) (by have := hHeld.1.size; omega) ?_; intro vA wA rA gA atA; have r1 := own_kept r1 r3 (by decide) gA; have r2 := own_kept r2 r3 (by decide) gA; (try have k1 := blk_kept k1 r3 (by decide) gA); (try have k2 := blk_kept k2 r3 (by decide) gA); have bA := hHeld.1.grown gA (by have := hHeld.1.size; omega) (fun j e => (r3.lt j e).1); obtain ⟨A3, c3, rfl⟩ := own_is_slice rA; replace r3 := rA; clear atA gA)
                  refine hK.out _ _ ?_ (fun hHeld => ?_)
                  · exact SX.out _ bA
                  clear hK K
                  try simp only [Act.put, List.setIfInBounds_toArray, List.set_cons_zero, List.set_cons_succ]
                  refine wpAnyT_take (i := 17) (oi := ?o141) (v := ?v141) ?h141 (by kernel_rfl) (by kernel_rfl) (by kernel_rfl) ?q141 ?y141 (by assumption) ?_
                  case h141 => (simp only [List.getElem?_toArray, List.getElem?_cons_succ, List.getElem?_cons_zero]; try rfl)
                  case q141 => exact fun _ _ _ h => h
                  case y141 => refine Or.inl ⟨by rfl, ?_⟩; (intro w hSw; (try dsimp only at hSw); go_simp; try with_reducible rfl)
                  try simp only [Act.put, List.setIfInBounds_toArray, List.set_cons_zero, List.set_cons_succ]
                  refine wpAnyT_done (by kernel_rfl) ?_
                  refine wpAnyH_ready (rs := [18]) (by kernel_rfl) (by simp) ?_
                  refine (AllReadyH.cons (i := 18) (o := ?o142) ?h142 (fun K hK => ?k142) AllReadyH.nil)
                  case h142 => (simp only [List.getElem?_toArray, List.getElem?_cons_succ, List.getElem?_cons_zero]; try rfl)
                  case k142 =>
                    go_simp
                    ((with_reducible refine (LC.out _ A1 c1 A2 c2 A3 c3 bA r1 r2 r3).mono ?_); rintro e w9 ⟨A9, n9, c9, rfl, ht, bb⟩; obtain ⟨x0, x1, x2, x3⟩ := (BX.out _ _ bA bb).two; have ht := Lib.hid ht)
                    try go_wp2_with fail
                    refine hK.out _ _ ?_ (fun hHeld => ?_)
                    · trivial
                    clear hK K
                    try simp only [Act.put, List.setIfInBounds_toArray, List.set_cons_zero, List.set_cons_succ]
                    refine wpAnyH_take (i := 19) (oi := ?o143) (v := ?v143) ?h143 (by kernel_rfl) (by kernel_rfl) (by kernel_rfl) ?q143 ?y143 (by assumption) ?_
                    case h143 => (simp only [List.getElem?_toArray, List.getElem?_cons_succ, List.getElem?_cons_zero]; try rfl)
                    case q143 => exact fun _ _ _ h => h
                    case y143 => refine Or.inl ⟨by rfl, ?_⟩; (intro w hSw; (try dsimp only at hSw); go_simp; try with_reducible rfl)
                    try simp only [Act.put, List.setIfInBounds_toArray, List.set_cons_zero, List.set_cons_succ]
                    refine wpAnyH_take (i := 20) (oi := ?o144) (v := ?v144) ?h144 (by kernel_rfl) (by kernel_rfl) (by kernel_rfl) ?q144 ?y144 (by assumption) ?_
                    case h144 => (simp only [List.getElem?_toArray, List.getElem?_cons_succ, List.getElem?_cons_zero]; try rfl)
                    case q144 => exact fun _ _ _ h => h
                    case y144 => refine Or.inl ⟨by rfl, ?_⟩; (intro w hSw; (try dsimp only at hSw); go_simp; try with_reducible rfl)
                    try simp only [Act.put, List.setIfInBounds_toArray, List.set_cons_zero, List.set_cons_succ]
                    refine wpAnyH_take (i := 21) (oi := ?o145) (v := ?v145) ?h145 (by kernel_rfl) (by kernel_rfl) (by kernel_rfl) ?q145 ?y145 (by assumption) ?_
                    case h145 => (simp only [List.getElem?_toArray, List.getElem?_cons_succ, List.getElem?_cons_zero]; try rfl)
                    case q145 => exact fun _ _ _ h => h
                    case y145 => refine Or.inl ⟨by rfl, ?_⟩; (intro w hSw; (try dsimp only at hSw); go_simp; try with_reducible rfl)
                    try simp only [Act.put, List.setIfInBounds_toArray, List.set_cons_zero, List.set_cons_succ]
                    refine wpAnyH_ready (rs := [22]) (by kernel_rfl) (by simp) ?_
                    refine (AllReadyH.cons (i := 22) (o := ?o146) ?h146 (fun K hK => ?k146) AllReadyH.nil)
                    case h146 => (simp only [List.getElem?_toArray, List.getElem?_cons_succ, List.getElem?_cons_zero]; try rfl)
                    case k146 =>
                      go_simp
                      try go_wp2_with fail
                      refine hK.out _ _ ?_ (fun hHeld => ?_)
                      · trivial
                      clear hK K
                      try simp only [Act.put, List.setIfInBounds_toArray, List.set_cons_zero, List.set_cons_succ]
                      refine wpAnyH_take (i := 23) (oi := ?o147) (v := ?v147) ?h147 (by kernel_rfl) (by kernel_rfl) (by kernel_rfl) ?q147 ?y147 (by assumption) ?_
                      case h147 => (simp only [List.getElem?_toArray, List.getElem?_cons_succ, List.getElem?_cons_zero]; try rfl)
                      case q147 => exact fun _ _ _ h => h
                      case y147 => refine Or.inl ⟨by rfl, ?_⟩; (intro w hSw; (try dsimp only at hSw); go_simp; try with_reducible rfl)
                      try simp only [Act.put, List.setIfInBounds_toArray, List.set_cons_zero, List.set_cons_succ]
                      refine wpAnyH_take (i := 24) (oi := ?o148) (v := ?v148) ?h148 (by kernel_rfl) (by kernel_rfl) (by kernel_rfl) ?q148 ?y148 (by assumption) ?_
                      case h148 => (simp only [List.getElem?_toArray, List.getElem?_cons_succ, List.getElem?_cons_zero]; try rfl)
                      case q148 => exact fun _ _ _ h => h
                      case y148 => refine Or.inl ⟨by rfl, ?_⟩; (intro w hSw; (try dsimp only at hSw); go_simp; try with_reducible rfl)
                      try simp only [Act.put, List.setIfInBounds_toArray, List.set_cons_zero, List.set_cons_succ]
                      refine wpAnyH_done (by kernel_rfl) ?_ _
                      go_wp2
                      refine bodyPost_ret (v := .tuple #[.agg #[.int .i64 most, .slice A9 n9 c9], .int .i64 (layP most L (addS d.x k f)).2.1, .bool (layP most L (addS d.x k f)).2.2]) (by simp [results, Try.results17, go_sem, x0, x1]) rfl ⟨_, _, _, by rw [HRes.out], by rw [HRes.out]; exact (ht.out.set32 (BX.out _ _ bA bb) hz8 _ _).set32 ((BX.out _ _ bA bb).set_ 0 _) hz8 _ _, ?_⟩
                      exact below_set2 (below_set2 ((BW.out _ bA).trans (bb.mono (BW.out _ bA).size)) hz8w) hz8w
        case h113 => (simp only [List.getElem?_toArray, List.getElem?_cons_succ, List.getElem?_cons_zero]; try rfl)
        case k113 =>
          go_simp
          try go_wp2_with fail
          refine hK.out _ _ ?_ (fun hHeld => ?_)
          · exact SX.out _ (hHeld.1.alloc (by have := hHeld.1.size; omega) _)
          clear hK K
          (replace r1 := World.ownsRow.alloc r1 (.cells #[.bool false, .string k, .int .i64 f] 79); replace r2 := World.ownsRow.alloc r2 (.cells #[.bool false, .string k, .int .i64 f] 79); replace r3 := World.ownsRow.alloc r3 (.cells #[.bool false, .string k, .int .i64 f] 79); (try replace k1 := Blk.alloc k1 (.cells #[.bool false, .string k, .int .i64 f] 79)); (try replace k2 := Blk.alloc k2 (.cells #[.bool false, .string k, .int .i64 f] 79)); have k3 := mk_blk r1; (try simp only [size_alloc] at k3))
          try simp only [Act.put, List.setIfInBounds_toArray, List.set_cons_zero, List.set_cons_succ]
          refine wpAnyT_ready (rs := [5]) (by kernel_rfl) (by simp) ?_
          refine (AllReadyT.cons (by decide) (i := 5) (o := ?o149) ?h149 (fun K hK => ?k149) AllReadyT.nil)
          case h149 => (simp only [List.getElem?_toArray, List.getElem?_cons_succ, List.getElem?_cons_zero]; try rfl)
          case k149 =>
            go_simp
            try go_wp2_with fail
            refine hK.out _ _ ?_ (fun hHeld => ?_)
            · exact SX.out _ (hHeld.1.alloc (by have := hHeld.1.size; omega) _)
            clear hK K
            (replace r1 := World.ownsRow.alloc r1 (.cells #[.string k] 9); replace r2 := World.ownsRow.alloc r2 (.cells #[.string k] 9); replace r3 := World.ownsRow.alloc r3 (.cells #[.string k] 9); (try replace k2 := Blk.alloc k2 (.cells #[.string k] 9)); (try replace k3 := Blk.alloc k3 (.cells #[.string k] 9)); have k1 := mk_blk r1; (try simp only [size_alloc] at k1))
            try simp only [Act.put, List.setIfInBounds_toArray, List.set_cons_zero, List.set_cons_succ]
            refine wpAnyT_ready (rs := [6]) (by kernel_rfl) (by simp) ?_
            refine (AllReadyT.cons (by decide) (i := 6) (o := ?o150) ?h150 (fun K hK => ?k150) AllReadyT.nil)
            case h150 => (simp only [List.getElem?_toArray, List.getElem?_cons_succ, List.getElem?_cons_zero]; try rfl)
            case k150 =>
              (refine step_append_any _ rfl (.tmp 52) (.tmp 54) 40 rfl (w1.heap.size + 1) 9 i9 _ 1 16 Try.underlying40 h9 x9 y9 z9 rfl (by decide) _ d.nk _ rfl r1 _ _ 1 1 [.string k] rfl (reads_blkS k1 rfl) one_s (by unfold maxLen; omega) (by omega) (by have := hHeld.1.size; omega) ?_; intro vA wA rA gA atA; have r2 := own_kept r2 r1 (by decide) gA; have r3 := own_kept r3 r1 (by decide) gA; (try have k2 := blk_kept k2 r1 (by decide) gA); (try have k3 := blk_kept k3 r1 (by decide) gA); have bA := hHeld.1.grown gA (by have := hHeld.1.size; omega) (fun j e => (r1.lt j e).1); obtain ⟨A1, c1, rfl⟩ := own_is_slice rA; replace r1 := rA; clear atA gA)
              refine hK.out _ _ ?_ (fun hHeld => ?_)
              · exact SX.out _ bA
              clear hK K
              try simp only [Act.put, List.setIfInBounds_toArray, List.set_cons_zero, List.set_cons_succ]
              refine wpAnyT_ready (rs := [10]) (by kernel_rfl) (by simp) ?_
              refine (AllReadyT.cons (by decide) (i := 10) (o := ?o151) ?h151 (fun K hK => ?k151) AllReadyT.nil)
              case h151 => (simp only [List.getElem?_toArray, List.getElem?_cons_succ, List.getElem?_cons_zero]; try rfl)
              case k151 =>
                (refine step_append_any _ rfl (.tmp 56) (.tmp 58) 73 rfl (w1.heap.size + 1) 3 i3 _ 1 8 Try.underlying73 h3 x3 y3 z3 rfl (by decide) _ d.nf _ rfl r2 _ _ 1 1 [.int .i64 f] rfl (reads_blkS k2 rfl) one_i (by unfold maxLen; omega) (by omega) (by have := hHeld.1.size; omega) ?_; intro vA wA rA gA atA; have r1 := own_kept r1 r2 (by decide) gA; have r3 := own_kept r3 r2 (by decide) gA; (try have k1 := blk_kept k1 r2 (by decide) gA); (try have k3 := blk_kept k3 r2 (by decide) gA); have bA := hHeld.1.grown gA (by have := hHeld.1.size; omega) (fun j e => (r2.lt j e).1); obtain ⟨A2, c2, rfl⟩ := own_is_slice rA; replace r2 := rA; clear atA gA)
                refine hK.out _ _ ?_ (fun hHeld => ?_)
                · exact SX.out _ bA
                clear hK K
                try simp only [Act.put, List.setIfInBounds_toArray, List.set_cons_zero, List.set_cons_succ]
                refine wpAnyT_ready (rs := [16]) (by kernel_rfl) (by simp) ?_
                refine (AllReadyT.cons (by decide) (i := 16) (o := ?o152) ?h152 (fun K hK => ?k152) AllReadyT.nil)
                case h152 => (simp only [List.getElem?_toArray, List.getElem?_cons_succ, List.getElem?_cons_zero]; try rfl)
                case k152 =>
                  (refine step_append_any _ rfl (.tmp 60) (.tmp 64) 74 rfl (w1.heap.size + 1) 79 i79 _ 3 32 Try.underlying74 h79 x79 y79 z79 rfl (by decide) _ d.ns _ rfl r3 _ _ 1 1 [.bool false, .string k, .int .i64 f] rfl (reads_blkS k3 rfl) (stv_one ⟨false, k, f⟩) (by unfold maxLen; omega) (by omega) (by have := hHeld.1.size; omega) ?_; intro vA wA rA gA atA; have r1 := own_kept r1 r3 (by decide) gA; have r2 := own_kept r2 r3 (by decide) gA; (try have k1 := blk_kept k1 r3 (by decide) gA); (try have k2 := blk_kept k2 r3 (by decide) gA); have bA := hHeld.1.grown gA (by have := hHeld.1.size; omega) (fun j e => (r3.lt j e).1); obtain ⟨A3, c3, rfl⟩ := own_is_slice rA; replace r3 := rA; clear atA gA)
                  refine hK.out _ _ ?_ (fun hHeld => ?_)
                  · exact SX.out _ bA
                  clear hK K
                  try simp only [Act.put, List.setIfInBounds_toArray, List.set_cons_zero, List.set_cons_succ]
                  refine wpAnyT_take (i := 17) (oi := ?o153) (v := ?v153) ?h153 (by kernel_rfl) (by kernel_rfl) (by kernel_rfl) ?q153 ?y153 (by assumption) ?_
                  case h153 => (simp only [List.getElem?_toArray, List.getElem?_cons_succ, List.getElem?_cons_zero]; try rfl)
                  case q153 => exact fun _ _ _ h => h
                  case y153 => refine Or.inl ⟨by rfl, ?_⟩; (intro w hSw; (try dsimp only at hSw); go_simp; try with_reducible rfl)
                  try simp only [Act.put, List.setIfInBounds_toArray, List.set_cons_zero, List.set_cons_succ]
                  refine wpAnyT_done (by kernel_rfl) ?_
                  refine wpAnyH_ready (rs := [18]) (by kernel_rfl) (by simp) ?_
                  refine (AllReadyH.cons (i := 18) (o := ?o154) ?h154 (fun K hK => ?k154) AllReadyH.nil)
                  case h154 => (simp only [List.getElem?_toArray, List.getElem?_cons_succ, List.getElem?_cons_zero]; try rfl)
                  case k154 =>
                    go_simp
                    ((with_reducible refine (LC.out _ A1 c1 A2 c2 A3 c3 bA r1 r2 r3).mono ?_); rintro e w9 ⟨A9, n9, c9, rfl, ht, bb⟩; obtain ⟨x0, x1, x2, x3⟩ := (BX.out _ _ bA bb).two; have ht := Lib.hid ht)
                    try go_wp2_with fail
                    refine hK.out _ _ ?_ (fun hHeld => ?_)
                    · trivial
                    clear hK K
                    try simp only [Act.put, List.setIfInBounds_toArray, List.set_cons_zero, List.set_cons_succ]
                    refine wpAnyH_take (i := 19) (oi := ?o155) (v := ?v155) ?h155 (by kernel_rfl) (by kernel_rfl) (by kernel_rfl) ?q155 ?y155 (by assumption) ?_
                    case h155 => (simp only [List.getElem?_toArray, List.getElem?_cons_succ, List.getElem?_cons_zero]; try rfl)
                    case q155 => exact fun _ _ _ h => h
                    case y155 => refine Or.inl ⟨by rfl, ?_⟩; (intro w hSw; (try dsimp only at hSw); go_simp; try with_reducible rfl)
                    try simp only [Act.put, List.setIfInBounds_toArray, List.set_cons_zero, List.set_cons_succ]
                    refine wpAnyH_take (i := 20) (oi := ?o156) (v := ?v156) ?h156 (by kernel_rfl) (by kernel_rfl) (by kernel_rfl) ?q156 ?y156 (by assumption) ?_
                    case h156 => (simp only [List.getElem?_toArray, List.getElem?_cons_succ, List.getElem?_cons_zero]; try rfl)
                    case q156 => exact fun _ _ _ h => h
                    case y156 => refine Or.inl ⟨by rfl, ?_⟩; (intro w hSw; (try dsimp only at hSw); go_simp; try with_reducible rfl)
                    try simp only [Act.put, List.setIfInBounds_toArray, List.set_cons_zero, List.set_cons_succ]
                    refine wpAnyH_take (i := 21) (oi := ?o157) (v := ?v157) ?h157 (by kernel_rfl) (by kernel_rfl) (by kernel_rfl) ?q157 ?y157 (by assumption) ?_
                    case h157 => (simp only [List.getElem?_toArray, List.getElem?_cons_succ, List.getElem?_cons_zero]; try rfl)
                    case q157 => exact fun _ _ _ h => h
                    case y157 => refine Or.inl ⟨by rfl, ?_⟩; (intro w hSw; (try dsimp only at hSw); go_simp; try with_reducible rfl)
                    try simp only [Act.put, List.setIfInBounds_toArray, List.set_cons_zero, List.set_cons_succ]
                    refine wpAnyH_ready (rs := [22]) (by kernel_rfl) (by simp) ?_
                    refine (AllReadyH.cons (i := 22) (o := ?o158) ?h158 (fun K hK => ?k158) AllReadyH.nil)
                    case h158 => (simp only [List.getElem?_toArray, List.getElem?_cons_succ, List.getElem?_cons_zero]; try rfl)
                    case k158 =>
                      go_simp
                      try go_wp2_with fail
                      refine hK.out _ _ ?_ (fun hHeld => ?_)
                      · trivial
                      clear hK K
                      try simp only [Act.put, List.setIfInBounds_toArray, List.set_cons_zero, List.set_cons_succ]
                      refine wpAnyH_take (i := 23) (oi := ?o159) (v := ?v159) ?h159 (by kernel_rfl) (by kernel_rfl) (by kernel_rfl) ?q159 ?y159 (by assumption) ?_
                      case h159 => (simp only [List.getElem?_toArray, List.getElem?_cons_succ, List.getElem?_cons_zero]; try rfl)
                      case q159 => exact fun _ _ _ h => h
                      case y159 => refine Or.inl ⟨by rfl, ?_⟩; (intro w hSw; (try dsimp only at hSw); go_simp; try with_reducible rfl)
                      try simp only [Act.put, List.setIfInBounds_toArray, List.set_cons_zero, List.set_cons_succ]
                      refine wpAnyH_take (i := 24) (oi := ?o160) (v := ?v160) ?h160 (by kernel_rfl) (by kernel_rfl) (by kernel_rfl) ?q160 ?y160 (by assumption) ?_
                      case h160 => (simp only [List.getElem?_toArray, List.getElem?_cons_succ, List.getElem?_cons_zero]; try rfl)
                      case q160 => exact fun _ _ _ h => h
                      case y160 => refine Or.inl ⟨by rfl, ?_⟩; (intro w hSw; (try dsimp only at hSw); go_simp; try with_reducible rfl)
                      try simp only [Act.put, List.setIfInBounds_toArray, List.set_cons_zero, List.set_cons_succ]
                      refine wpAnyH_done (by kernel_rfl) ?_ _
                      go_wp2
                      refine bodyPost_ret (v := .tuple #[.agg #[.int .i64 most, .slice A9 n9 c9], .int .i64 (layP most L (addS d.x k f)).2.1, .bool (layP most L (addS d.x k f)).2.2]) (by simp [results, Try.results17, go_sem, x0, x1]) rfl ⟨_, _, _, by rw [HRes.out], by rw [HRes.out]; exact (ht.out.set32 (BX.out _ _ bA bb) hz8 _ _).set32 ((BX.out _ _ bA bb).set_ 0 _) hz8 _ _, ?_⟩
                      exact below_set2 (below_set2 ((BW.out _ bA).trans (bb.mono (BW.out _ bA).size)) hz8w) hz8w
      case h14 => (simp only [List.getElem?_toArray, List.getElem?_cons_succ, List.getElem?_cons_zero]; try rfl)
      case k14 =>
        go_simp
        try go_wp2_with fail
        refine hK.out _ _ ?_ (fun hHeld => ?_)
        · exact SX.out _ (hHeld.1.alloc (by have := hHeld.1.size; omega) _)
        clear hK K
        (replace r1 := World.ownsRow.alloc r1 (.cells #[.bool false, .string k, .int .i64 f] 79); replace r2 := World.ownsRow.alloc r2 (.cells #[.bool false, .string k, .int .i64 f] 79); replace r3 := World.ownsRow.alloc r3 (.cells #[.bool false, .string k, .int .i64 f] 79); (try replace k1 := Blk.alloc k1 (.cells #[.bool false, .string k, .int .i64 f] 79)); (try replace k2 := Blk.alloc k2 (.cells #[.bool false, .string k, .int .i64 f] 79)); have k3 := mk_blk r1; (try simp only [size_alloc] at k3))
        try simp only [Act.put, List.setIfInBounds_toArray, List.set_cons_zero, List.set_cons_succ]
        refine wpAnyT_ready (rs := [5, 9]) (by kernel_rfl) (by simp) ?_
        refine (AllReadyT.cons (by decide) (i := 5) (o := ?o161) ?h161 (fun K hK => ?k161) (AllReadyT.cons (by decide) (i := 9) (o := ?o162) ?h162 (fun K hK => ?k162) AllReadyT.nil))
        case h161 => (simp only [List.getElem?_toArray, List.getElem?_cons_succ, List.getElem?_cons_zero]; try rfl)
        case k161 =>
          go_simp
          try go_wp2_with fail
          refine hK.out _ _ ?_ (fun hHeld => ?_)
          · exact SX.out _ (hHeld.1.alloc (by have := hHeld.1.size; omega) _)
          clear hK K
          (replace r1 := World.ownsRow.alloc r1 (.cells #[.string k] 9); replace r2 := World.ownsRow.alloc r2 (.cells #[.string k] 9); replace r3 := World.ownsRow.alloc r3 (.cells #[.string k] 9); (try replace k2 := Blk.alloc k2 (.cells #[.string k] 9)); (try replace k3 := Blk.alloc k3 (.cells #[.string k] 9)); have k1 := mk_blk r1; (try simp only [size_alloc] at k1))
          try simp only [Act.put, List.setIfInBounds_toArray, List.set_cons_zero, List.set_cons_succ]
          refine wpAnyT_ready (rs := [6, 9]) (by kernel_rfl) (by simp) ?_
          refine (AllReadyT.cons (by decide) (i := 6) (o := ?o163) ?h163 (fun K hK => ?k163) (AllReadyT.cons (by decide) (i := 9) (o := ?o164) ?h164 (fun K hK => ?k164) AllReadyT.nil))
          case h163 => (simp only [List.getElem?_toArray, List.getElem?_cons_succ, List.getElem?_cons_zero]; try rfl)
          case k163 =>
            (refine step_append_any _ rfl (.tmp 52) (.tmp 54) 40 rfl (w1.heap.size + 1) 9 i9 _ 1 16 Try.underlying40 h9 x9 y9 z9 rfl (by decide) _ d.nk _ rfl r1 _ _ 1 1 [.string k] rfl (reads_blkS k1 rfl) one_s (by unfold maxLen; omega) (by omega) (by have := hHeld.1.size; omega) ?_; intro vA wA rA gA atA; have r2 := own_kept r2 r1 (by decide) gA; have r3 := own_kept r3 r1 (by decide) gA; (try have k2 := blk_kept k2 r1 (by decide) gA); (try have k3 := blk_kept k3 r1 (by decide) gA); have bA := hHeld.1.grown gA (by have := hHeld.1.size; omega) (fun j e => (r1.lt j e).1); obtain ⟨A1, c1, rfl⟩ := own_is_slice rA; replace r1 := rA; clear atA gA)
            refine hK.out _ _ ?_ (fun hHeld => ?_)
            · exact SX.out _ bA
            clear hK K
            try simp only [Act.put, List.setIfInBounds_toArray, List.set_cons_zero, List.set_cons_succ]
            refine wpAnyT_ready (rs := [9]) (by kernel_rfl) (by simp) ?_
            refine (AllReadyT.cons (by decide) (i := 9) (o := ?o165) ?h165 (fun K hK => ?k165) AllReadyT.nil)
            case h165 => (simp only [List.getElem?_toArray, List.getElem?_cons_succ, List.getElem?_cons_zero]; try rfl)
            case k165 =>
              go_simp
              try go_wp2_with fail
              refine hK.out _ _ ?_ (fun hHeld => ?_)
              · exact SX.out _ (hHeld.1.alloc (by have := hHeld.1.size; omega) _)
              clear hK K
              (replace r1 := World.ownsRow.alloc r1 (.cells #[.int .i64 f] 3); replace r2 := World.ownsRow.alloc r2 (.cells #[.int .i64 f] 3); replace r3 := World.ownsRow.alloc r3 (.cells #[.int .i64 f] 3); (try replace k1 := Blk.alloc k1 (.cells #[.int .i64 f] 3)); (try replace k3 := Blk.alloc k3 (.cells #[.int .i64 f] 3)); have k2 := mk_blk r1; (try simp only [size_alloc] at k2))
              try simp only [Act.put, List.setIfInBounds_toArray, List.set_cons_zero, List.set_cons_succ]
              refine wpAnyT_ready (rs := [10]) (by kernel_rfl) (by simp) ?_
              refine (AllReadyT.cons (by decide) (i := 10) (o := ?o166) ?h166 (fun K hK => ?k166) AllReadyT.nil)
              case h166 => (simp only [List.getElem?_toArray, List.getElem?_cons_succ, List.getElem?_cons_zero]; try rfl)
              case k166 =>
                (refine step_append_any _ rfl (.tmp 56) (.tmp 58) 73 rfl (w1.heap.size + 1) 3 i3 _ 1 8 Try.underlying73 h3 x3 y3 z3 rfl (by decide) _ d.nf _ rfl r2 _ _ 1 1 [.int .i64 f] rfl (reads_blkS k2 rfl) one_i (by unfold maxLen; omega) (by omega) (by have := hHeld.1.size; omega) ?_; intro vA wA rA gA atA; have r1 := own_kept r1 r2 (by decide) gA; have r3 := own_kept r3 r2 (by decide) gA; (try have k1 := blk_kept k1 r2 (by decide) gA); (try have k3 := blk_kept k3 r2 (by decide) gA); have bA := hHeld.1.grown gA (by have := hHeld.1.size; omega) (fun j e => (r2.lt j e).1); obtain ⟨A2, c2, rfl⟩ := own_is_slice rA; replace r2 := rA; clear atA gA)
                refine hK.out _ _ ?_ (fun hHeld => ?_)
                · exact SX.out _ bA
                clear hK K
                try simp only [Act.put, List.setIfInBounds_toArray, List.set_cons_zero, List.set_cons_succ]
                refine wpAnyT_ready (rs := [16]) (by kernel_rfl) (by simp) ?_
                refine (AllReadyT.cons (by decide) (i := 16) (o := ?o167) ?h167 (fun K hK => ?k167) AllReadyT.nil)
                case h167 => (simp only [List.getElem?_toArray, List.getElem?_cons_succ, List.getElem?_cons_zero]; try rfl)
                case k167 =>
                  (refine step_append_any _ rfl (.tmp 60) (.tmp 64) 74 rfl (w1.heap.size + 1) 79 i79 _ 3 32 Try.underlying74 h79 x79 y79 z79 rfl (by decide) _ d.ns _ rfl r3 _ _ 1 1 [.bool false, .string k, .int .i64 f] rfl (reads_blkS k3 rfl) (stv_one ⟨false, k, f⟩) (by unfold maxLen; omega) (by omega) (by have := hHeld.1.size; omega) ?_; intro vA wA rA gA atA; have r1 := own_kept r1 r3 (by decide) gA; have r2 := own_kept r2 r3 (by decide) gA; (try have k1 := blk_kept k1 r3 (by decide) gA); (try have k2 := blk_kept k2 r3 (by decide) gA); have bA := hHeld.1.grown gA (by have := hHeld.1.size; omega) (fun j e => (r3.lt j e).1); obtain ⟨A3, c3, rfl⟩ := own_is_slice rA; replace r3 := rA; clear atA gA)
                  refine hK.out _ _ ?_ (fun hHeld => ?_)
                  · exact SX.out _ bA
                  clear hK K
                  try simp only [Act.put, List.setIfInBounds_toArray, List.set_cons_zero, List.set_cons_succ]
                  refine wpAnyT_take (i := 17) (oi := ?o168) (v := ?v168) ?h168 (by kernel_rfl) (by kernel_rfl) (by kernel_rfl) ?q168 ?y168 (by assumption) ?_
                  case h168 => (simp only [List.getElem?_toArray, List.getElem?_cons_succ, List.getElem?_cons_zero]; try rfl)
                  case q168 => exact fun _ _ _ h => h
                  case y168 => refine Or.inl ⟨by rfl, ?_⟩; (intro w hSw; (try dsimp only at hSw); go_simp; try with_reducible rfl)
                  try simp only [Act.put, List.setIfInBounds_toArray, List.set_cons_zero, List.set_cons_succ]
                  refine wpAnyT_done (by kernel_rfl) ?_
                  refine wpAnyH_ready (rs := [18]) (by kernel_rfl) (by simp) ?_
                  refine (AllReadyH.cons (i := 18) (o := ?o169) ?h169 (fun K hK => ?k169) AllReadyH.nil)
                  case h169 => (simp only [List.getElem?_toArray, List.getElem?_cons_succ, List.getElem?_cons_zero]; try rfl)
                  case k169 =>
                    go_simp
                    ((with_reducible refine (LC.out _ A1 c1 A2 c2 A3 c3 bA r1 r2 r3).mono ?_); rintro e w9 ⟨A9, n9, c9, rfl, ht, bb⟩; obtain ⟨x0, x1, x2, x3⟩ := (BX.out _ _ bA bb).two; have ht := Lib.hid ht)
                    try go_wp2_with fail
                    refine hK.out _ _ ?_ (fun hHeld => ?_)
                    · trivial
                    clear hK K
                    try simp only [Act.put, List.setIfInBounds_toArray, List.set_cons_zero, List.set_cons_succ]
                    refine wpAnyH_take (i := 19) (oi := ?o170) (v := ?v170) ?h170 (by kernel_rfl) (by kernel_rfl) (by kernel_rfl) ?q170 ?y170 (by assumption) ?_
                    case h170 => (simp only [List.getElem?_toArray, List.getElem?_cons_succ, List.getElem?_cons_zero]; try rfl)
                    case q170 => exact fun _ _ _ h => h
                    case y170 => refine Or.inl ⟨by rfl, ?_⟩; (intro w hSw; (try dsimp only at hSw); go_simp; try with_reducible rfl)
                    try simp only [Act.put, List.setIfInBounds_toArray, List.set_cons_zero, List.set_cons_succ]
                    refine wpAnyH_take (i := 20) (oi := ?o171) (v := ?v171) ?h171 (by kernel_rfl) (by kernel_rfl) (by kernel_rfl) ?q171 ?y171 (by assumption) ?_
                    case h171 => (simp only [List.getElem?_toArray, List.getElem?_cons_succ, List.getElem?_cons_zero]; try rfl)
                    case q171 => exact fun _ _ _ h => h
                    case y171 => refine Or.inl ⟨by rfl, ?_⟩; (intro w hSw; (try dsimp only at hSw); go_simp; try with_reducible rfl)
                    try simp only [Act.put, List.setIfInBounds_toArray, List.set_cons_zero, List.set_cons_succ]
                    refine wpAnyH_take (i := 21) (oi := ?o172) (v := ?v172) ?h172 (by kernel_rfl) (by kernel_rfl) (by kernel_rfl) ?q172 ?y172 (by assumption) ?_
                    case h172 => (simp only [List.getElem?_toArray, List.getElem?_cons_succ, List.getElem?_cons_zero]; try rfl)
                    case q172 => exact fun _ _ _ h => h
                    case y172 => refine Or.inl ⟨by rfl, ?_⟩; (intro w hSw; (try dsimp only at hSw); go_simp; try with_reducible rfl)
                    try simp only [Act.put, List.setIfInBounds_toArray, List.set_cons_zero, List.set_cons_succ]
                    refine wpAnyH_ready (rs := [22]) (by kernel_rfl) (by simp) ?_
                    refine (AllReadyH.cons (i := 22) (o := ?o173) ?h173 (fun K hK => ?k173) AllReadyH.nil)
                    case h173 => (simp only [List.getElem?_toArray, List.getElem?_cons_succ, List.getElem?_cons_zero]; try rfl)
                    case k173 =>
                      go_simp
                      try go_wp2_with fail
                      refine hK.out _ _ ?_ (fun hHeld => ?_)
                      · trivial
                      clear hK K
                      try simp only [Act.put, List.setIfInBounds_toArray, List.set_cons_zero, List.set_cons_succ]
                      refine wpAnyH_take (i := 23) (oi := ?o174) (v := ?v174) ?h174 (by kernel_rfl) (by kernel_rfl) (by kernel_rfl) ?q174 ?y174 (by assumption) ?_
                      case h174 => (simp only [List.getElem?_toArray, List.getElem?_cons_succ, List.getElem?_cons_zero]; try rfl)
                      case q174 => exact fun _ _ _ h => h
                      case y174 => refine Or.inl ⟨by rfl, ?_⟩; (intro w hSw; (try dsimp only at hSw); go_simp; try with_reducible rfl)
                      try simp only [Act.put, List.setIfInBounds_toArray, List.set_cons_zero, List.set_cons_succ]
                      refine wpAnyH_take (i := 24) (oi := ?o175) (v := ?v175) ?h175 (by kernel_rfl) (by kernel_rfl) (by kernel_rfl) ?q175 ?y175 (by assumption) ?_
                      case h175 => (simp only [List.getElem?_toArray, List.getElem?_cons_succ, List.getElem?_cons_zero]; try rfl)
                      case q175 => exact fun _ _ _ h => h
                      case y175 => refine Or.inl ⟨by rfl, ?_⟩; (intro w hSw; (try dsimp only at hSw); go_simp; try with_reducible rfl)
                      try simp only [Act.put, List.setIfInBounds_toArray, List.set_cons_zero, List.set_cons_succ]
                      refine wpAnyH_done (by kernel_rfl) ?_ _
                      go_wp2
                      refine bodyPost_ret (v := .tuple #[.agg #[.int .i64 most, .slice A9 n9 c9], .int .i64 (layP most L (addS d.x k f)).2.1, .bool (layP most L (addS d.x k f)).2.2]) (by simp [results, Try.results17, go_sem, x0, x1]) rfl ⟨_, _, _, by rw [HRes.out], by rw [HRes.out]; exact (ht.out.set32 (BX.out _ _ bA bb) hz8 _ _).set32 ((BX.out _ _ bA bb).set_ 0 _) hz8 _ _, ?_⟩
                      exact below_set2 (below_set2 ((BW.out _ bA).trans (bb.mono (BW.out _ bA).size)) hz8w) hz8w
          case h164 => (simp only [List.getElem?_toArray, List.getElem?_cons_succ, List.getElem?_cons_zero]; try rfl)
          case k164 =>
            go_simp
            try go_wp2_with fail
            refine hK.out _ _ ?_ (fun hHeld => ?_)
            · exact SX.out _ (hHeld.1.alloc (by have := hHeld.1.size; omega) _)
            clear hK K
            (replace r1 := World.ownsRow.alloc r1 (.cells #[.int .i64 f] 3); replace r2 := World.ownsRow.alloc r2 (.cells #[.int .i64 f] 3); replace r3 := World.ownsRow.alloc r3 (.cells #[.int .i64 f] 3); (try replace k1 := Blk.alloc k1 (.cells #[.int .i64 f] 3)); (try replace k3 := Blk.alloc k3 (.cells #[.int .i64 f] 3)); have k2 := mk_blk r1; (try simp only [size_alloc] at k2))
            try simp only [Act.put, List.setIfInBounds_toArray, List.set_cons_zero, List.set_cons_succ]
            refine wpAnyT_ready (rs := [6]) (by kernel_rfl) (by simp) ?_
            refine (AllReadyT.cons (by decide) (i := 6) (o := ?o176) ?h176 (fun K hK => ?k176) AllReadyT.nil)
            case h176 => (simp only [List.getElem?_toArray, List.getElem?_cons_succ, List.getElem?_cons_zero]; try rfl)
            case k176 =>
              (refine step_append_any _ rfl (.tmp 52) (.tmp 54) 40 rfl (w1.heap.size + 1) 9 i9 _ 1 16 Try.underlying40 h9 x9 y9 z9 rfl (by decide) _ d.nk _ rfl r1 _ _ 1 1 [.string k] rfl (reads_blkS k1 rfl) one_s (by unfold maxLen; omega) (by omega) (by have := hHeld.1.size; omega) ?_; intro vA wA rA gA atA; have r2 := own_kept r2 r1 (by decide) gA; have r3 := own_kept r3 r1 (by decide) gA; (try have k2 := blk_kept k2 r1 (by decide) gA); (try have k3 := blk_kept k3 r1 (by decide) gA); have bA := hHeld.1.grown gA (by have := hHeld.1.size; omega) (fun j e => (r1.lt j e).1); obtain ⟨A1, c1, rfl⟩ := own_is_slice rA; replace r1 := rA; clear atA gA)
              refine hK.out _ _ ?_ (fun hHeld => ?_)
              · exact SX.out _ bA
              clear hK K
              try simp only [Act.put, List.setIfInBounds_toArray, List.set_cons_zero, List.set_cons_succ]
              refine wpAnyT_ready (rs := [10]) (by kernel_rfl) (by simp) ?_
              refine (AllReadyT.cons (by decide) (i := 10) (o := ?o177) ?h177 (fun K hK => ?k177) AllReadyT.nil)
              case h177 => (simp only [List.getElem?_toArray, List.getElem?_cons_succ, List.getElem?_cons_zero]; try rfl)
              case k177 =>
                (refine step_append_any _ rfl (.tmp 56) (.tmp 58) 73 rfl (w1.heap.size + 1) 3 i3 _ 1 8 Try.underlying73 h3 x3 y3 z3 rfl (by decide) _ d.nf _ rfl r2 _ _ 1 1 [.int .i64 f] rfl (reads_blkS k2 rfl) one_i (by unfold maxLen; omega) (by omega) (by have := hHeld.1.size; omega) ?_; intro vA wA rA gA atA; have r1 := own_kept r1 r2 (by decide) gA; have r3 := own_kept r3 r2 (by decide) gA; (try have k1 := blk_kept k1 r2 (by decide) gA); (try have k3 := blk_kept k3 r2 (by decide) gA); have bA := hHeld.1.grown gA (by have := hHeld.1.size; omega) (fun j e => (r2.lt j e).1); obtain ⟨A2, c2, rfl⟩ := own_is_slice rA; replace r2 := rA; clear atA gA)
                refine hK.out _ _ ?_ (fun hHeld => ?_)
                · exact SX.out _ bA
                clear hK K
                try simp only [Act.put, List.setIfInBounds_toArray, List.set_cons_zero, List.set_cons_succ]
                refine wpAnyT_ready (rs := [16]) (by kernel_rfl) (by simp) ?_
                refine (AllReadyT.cons (by decide) (i := 16) (o := ?o178) ?h178 (fun K hK => ?k178) AllReadyT.nil)
                case h178 => (simp only [List.getElem?_toArray, List.getElem?_cons_succ, List.getElem?_cons_zero]; try rfl)
                case k178 =>
                  (refine step_append_any _ rfl (.tmp 60) (.tmp 64) 74 rfl (w1.heap.size + 1) 79 i79 _ 3 32 Try.underlying74 h79 x79 y79 z79 rfl (by decide) _ d.ns _ rfl r3 _ _ 1 1 [.bool false, .string k, .int .i64 f] rfl (reads_blkS k3 rfl) (stv_one ⟨false, k, f⟩) (by unfold maxLen; omega) (by omega) (by have := hHeld.1.size; omega) ?_; intro vA wA rA gA atA; have r1 := own_kept r1 r3 (by decide) gA; have r2 := own_kept r2 r3 (by decide) gA; (try have k1 := blk_kept k1 r3 (by decide) gA); (try have k2 := blk_kept k2 r3 (by decide) gA); have bA := hHeld.1.grown gA (by have := hHeld.1.size; omega) (fun j e => (r3.lt j e).1); obtain ⟨A3, c3, rfl⟩ := own_is_slice rA; replace r3 := rA; clear atA gA)
                  refine hK.out _ _ ?_ (fun hHeld => ?_)
                  · exact SX.out _ bA
                  clear hK K
                  try simp only [Act.put, List.setIfInBounds_toArray, List.set_cons_zero, List.set_cons_succ]
                  refine wpAnyT_take (i := 17) (oi := ?o179) (v := ?v179) ?h179 (by kernel_rfl) (by kernel_rfl) (by kernel_rfl) ?q179 ?y179 (by assumption) ?_
                  case h179 => (simp only [List.getElem?_toArray, List.getElem?_cons_succ, List.getElem?_cons_zero]; try rfl)
                  case q179 => exact fun _ _ _ h => h
                  case y179 => refine Or.inl ⟨by rfl, ?_⟩; (intro w hSw; (try dsimp only at hSw); go_simp; try with_reducible rfl)
                  try simp only [Act.put, List.setIfInBounds_toArray, List.set_cons_zero, List.set_cons_succ]
                  refine wpAnyT_done (by kernel_rfl) ?_
                  refine wpAnyH_ready (rs := [18]) (by kernel_rfl) (by simp) ?_
                  refine (AllReadyH.cons (i := 18) (o := ?o180) ?h180 (fun K hK => ?k180) AllReadyH.nil)
                  case h180 => (simp only [List.getElem?_toArray, List.getElem?_cons_succ, List.getElem?_cons_zero]; try rfl)
                  case k180 =>
                    go_simp
                    ((with_reducible refine (LC.out _ A1 c1 A2 c2 A3 c3 bA r1 r2 r3).mono ?_); rintro e w9 ⟨A9, n9, c9, rfl, ht, bb⟩; obtain ⟨x0, x1, x2, x3⟩ := (BX.out _ _ bA bb).two; have ht := Lib.hid ht)
                    try go_wp2_with fail
                    refine hK.out _ _ ?_ (fun hHeld => ?_)
                    · trivial
                    clear hK K
                    try simp only [Act.put, List.setIfInBounds_toArray, List.set_cons_zero, List.set_cons_succ]
                    refine wpAnyH_take (i := 19) (oi := ?o181) (v := ?v181) ?h181 (by kernel_rfl) (by kernel_rfl) (by kernel_rfl) ?q181 ?y181 (by assumption) ?_
                    case h181 => (simp only [List.getElem?_toArray, List.getElem?_cons_succ, List.getElem?_cons_zero]; try rfl)
                    case q181 => exact fun _ _ _ h => h
                    case y181 => refine Or.inl ⟨by rfl, ?_⟩; (intro w hSw; (try dsimp only at hSw); go_simp; try with_reducible rfl)
                    try simp only [Act.put, List.setIfInBounds_toArray, List.set_cons_zero, List.set_cons_succ]
                    refine wpAnyH_take (i := 20) (oi := ?o182) (v := ?v182) ?h182 (by kernel_rfl) (by kernel_rfl) (by kernel_rfl) ?q182 ?y182 (by assumption) ?_
                    case h182 => (simp only [List.getElem?_toArray, List.getElem?_cons_succ, List.getElem?_cons_zero]; try rfl)
                    case q182 => exact fun _ _ _ h => h
                    case y182 => refine Or.inl ⟨by rfl, ?_⟩; (intro w hSw; (try dsimp only at hSw); go_simp; try with_reducible rfl)
                    try simp only [Act.put, List.setIfInBounds_toArray, List.set_cons_zero, List.set_cons_succ]
                    refine wpAnyH_take (i := 21) (oi := ?o183) (v := ?v183) ?h183 (by kernel_rfl) (by kernel_rfl) (by kernel_rfl) ?q183 ?y183 (by assumption) ?_
                    case h183 => (simp only [List.getElem?_toArray, List.getElem?_cons_succ, List.getElem?_cons_zero]; try rfl)
                    case q183 => exact fun _ _ _ h => h
                    case y183 => refine Or.inl ⟨by rfl, ?_⟩; (intro w hSw; (try dsimp only at hSw); go_simp; try with_reducible rfl)
                    try simp only [Act.put, List.setIfInBounds_toArray, List.set_cons_zero, List.set_cons_succ]
                    refine wpAnyH_ready (rs := [22]) (by kernel_rfl) (by simp) ?_
                    refine (AllReadyH.cons (i := 22) (o := ?o184) ?h184 (fun K hK => ?k184) AllReadyH.nil)
                    case h184 => (simp only [List.getElem?_toArray, List.getElem?_cons_succ, List.getElem?_cons_zero]; try rfl)
                    case k184 =>
                      go_simp
                      try go_wp2_with fail
                      refine hK.out _ _ ?_ (fun hHeld => ?_)
                      · trivial
                      clear hK K
                      try simp only [Act.put, List.setIfInBounds_toArray, List.set_cons_zero, List.set_cons_succ]
                      refine wpAnyH_take (i := 23) (oi := ?o185) (v := ?v185) ?h185 (by kernel_rfl) (by kernel_rfl) (by kernel_rfl) ?q185 ?y185 (by assumption) ?_
                      case h185 => (simp only [List.getElem?_toArray, List.getElem?_cons_succ, List.getElem?_cons_zero]; try rfl)
                      case q185 => exact fun _ _ _ h => h
                      case y185 => refine Or.inl ⟨by rfl, ?_⟩; (intro w hSw; (try dsimp only at hSw); go_simp; try with_reducible rfl)
                      try simp only [Act.put, List.setIfInBounds_toArray, List.set_cons_zero, List.set_cons_succ]
                      refine wpAnyH_take (i := 24) (oi := ?o186) (v := ?v186) ?h186 (by kernel_rfl) (by kernel_rfl) (by kernel_rfl) ?q186 ?y186 (by assumption) ?_
                      case h186 => (simp only [List.getElem?_toArray, List.getElem?_cons_succ, List.getElem?_cons_zero]; try rfl)
                      case q186 => exact fun _ _ _ h => h
                      case y186 => refine Or.inl ⟨by rfl, ?_⟩; (intro w hSw; (try dsimp only at hSw); go_simp; try with_reducible rfl)
                      try simp only [Act.put, List.setIfInBounds_toArray, List.set_cons_zero, List.set_cons_succ]
                      refine wpAnyH_done (by kernel_rfl) ?_ _
                      go_wp2
                      refine bodyPost_ret (v := .tuple #[.agg #[.int .i64 most, .slice A9 n9 c9], .int .i64 (layP most L (addS d.x k f)).2.1, .bool (layP most L (addS d.x k f)).2.2]) (by simp [results, Try.results17, go_sem, x0, x1]) rfl ⟨_, _, _, by rw [HRes.out], by rw [HRes.out]; exact (ht.out.set32 (BX.out _ _ bA bb) hz8 _ _).set32 ((BX.out _ _ bA bb).set_ 0 _) hz8 _ _, ?_⟩
                      exact below_set2 (below_set2 ((BW.out _ bA).trans (bb.mono (BW.out _ bA).size)) hz8w) hz8w
        case h162 => (simp only [List.getElem?_toArray, List.getElem?_cons_succ, List.getElem?_cons_zero]; try rfl)
        case k162 =>
          go_simp
          try go_wp2_with fail
          refine hK.out _ _ ?_ (fun hHeld => ?_)
          · exact SX.out _ (hHeld.1.alloc (by have := hHeld.1.size; omega) _)
          clear hK K
          (replace r1 := World.ownsRow.alloc r1 (.cells #[.int .i64 f] 3); replace r2 := World.ownsRow.alloc r2 (.cells #[.int .i64 f] 3); replace r3 := World.ownsRow.alloc r3 (.cells #[.int .i64 f] 3); (try replace k1 := Blk.alloc k1 (.cells #[.int .i64 f] 3)); (try replace k3 := Blk.alloc k3 (.cells #[.int .i64 f] 3)); have k2 := mk_blk r1; (try simp only [size_alloc] at k2))
          try simp only [Act.put, List.setIfInBounds_toArray, List.set_cons_zero, List.set_cons_succ]
          refine wpAnyT_ready (rs := [5]) (by kernel_rfl) (by simp) ?_
          refine (AllReadyT.cons (by decide) (i := 5) (o := ?o187) ?h187 (fun K hK => ?k187) AllReadyT.nil)
          case h187 => (simp only [List.getElem?_toArray, List.getElem?_cons_succ, List.getElem?_cons_zero]; try rfl)
          case k187 =>
            go_simp
            try go_wp2_with fail
            refine hK.out _ _ ?_ (fun hHeld => ?_)
            · exact SX.out _ (hHeld.1.alloc (by have := hHeld.1.size; omega) _)
            clear hK K
            (replace r1 := World.ownsRow.alloc r1 (.cells #[.string k] 9); replace r2 := World.ownsRow.alloc r2 (.cells #[.string k] 9); replace r3 := World.ownsRow.alloc r3 (.cells #[.string k] 9); (try replace k2 := Blk.alloc k2 (.cells #[.string k] 9)); (try replace k3 := Blk.alloc k3 (.cells #[.string k] 9)); have k1 := mk_blk r1; (try simp only [size_alloc] at k1))
            try simp only [Act.put, List.setIfInBounds_toArray, List.set_cons_zero, List.set_cons_succ]
            refine wpAnyT_ready (rs := [6]) (by kernel_rfl) (by simp) ?_
            refine (AllReadyT.cons (by decide) (i := 6) (o := ?o188) ?h188 (fun K hK => ?k188) AllReadyT.nil)
            case h188 => (simp only [List.getElem?_toArray, List.getElem?_cons_succ, List.getElem?_cons_zero]; try rfl)
            case k188 =>
              (refine step_append_any _ rfl (.tmp 52) (.tmp 54) 40 rfl (w1.heap.size + 1) 9 i9 _ 1 16 Try.underlying40 h9 x9 y9 z9 rfl (by decide) _ d.nk _ rfl r1 _ _ 1 1 [.string k] rfl (reads_blkS k1 rfl) one_s (by unfold maxLen; omega) (by omega) (by have := hHeld.1.size; omega) ?_; intro vA wA rA gA atA; have r2 := own_kept r2 r1 (by decide) gA; have r3 := own_kept r3 r1 (by decide) gA; (try have k2 := blk_kept k2 r1 (by decide) gA); (try have k3 := blk_kept k3 r1 (by decide) gA); have bA := hHeld.1.grown gA (by have := hHeld.1.size; omega) (fun j e => (r1.lt j e).1); obtain ⟨A1, c1, rfl⟩ := own_is_slice rA; replace r1 := rA; clear atA gA)
              refine hK.out _ _ ?_ (fun hHeld => ?_)
              · exact SX.out _ bA
              clear hK K
              try simp only [Act.put, List.setIfInBounds_toArray, List.set_cons_zero, List.set_cons_succ]
              refine wpAnyT_ready (rs := [10]) (by kernel_rfl) (by simp) ?_
              refine (AllReadyT.cons (by decide) (i := 10) (o := ?o189) ?h189 (fun K hK => ?k189) AllReadyT.nil)
              case h189 => (simp only [List.getElem?_toArray, List.getElem?_cons_succ, List.getElem?_cons_zero]; try rfl)
              case k189 =>
                (refine step_append_any _ rfl (.tmp 56) (.tmp 58) 73 rfl (w1.heap.size + 1) 3 i3 _ 1 8 Try.underlying73 h3 x3 y3 z3 rfl (by decide) _ d.nf _ rfl r2 _ _ 1 1 [.int .i64 f] rfl (reads_blkS k2 rfl) one_i (by unfold maxLen; omega) (by omega) (by have := hHeld.1.size; omega) ?_; intro vA wA rA gA atA; have r1 := own_kept r1 r2 (by decide) gA; have r3 := own_kept r3 r2 (by decide) gA; (try have k1 := blk_kept k1 r2 (by decide) gA); (try have k3 := blk_kept k3 r2 (by decide) gA); have bA := hHeld.1.grown gA (by have := hHeld.1.size; omega) (fun j e => (r2.lt j e).1); obtain ⟨A2, c2, rfl⟩ := own_is_slice rA; replace r2 := rA; clear atA gA)
                refine hK.out _ _ ?_ (fun hHeld => ?_)
                · exact SX.out _ bA
                clear hK K
                try simp only [Act.put, List.setIfInBounds_toArray, List.set_cons_zero, List.set_cons_succ]
                refine wpAnyT_ready (rs := [16]) (by kernel_rfl) (by simp) ?_
                refine (AllReadyT.cons (by decide) (i := 16) (o := ?o190) ?h190 (fun K hK => ?k190) AllReadyT.nil)
                case h190 => (simp only [List.getElem?_toArray, List.getElem?_cons_succ, List.getElem?_cons_zero]; try rfl)
                case k190 =>
                  (refine step_append_any _ rfl (.tmp 60) (.tmp 64) 74 rfl (w1.heap.size + 1) 79 i79 _ 3 32 Try.underlying74 h79 x79 y79 z79 rfl (by decide) _ d.ns _ rfl r3 _ _ 1 1 [.bool false, .string k, .int .i64 f] rfl (reads_blkS k3 rfl) (stv_one ⟨false, k, f⟩) (by unfold maxLen; omega) (by omega) (by have := hHeld.1.size; omega) ?_; intro vA wA rA gA atA; have r1 := own_kept r1 r3 (by decide) gA; have r2 := own_kept r2 r3 (by decide) gA; (try have k1 := blk_kept k1 r3 (by decide) gA); (try have k2 := blk_kept k2 r3 (by decide) gA); have bA := hHeld.1.grown gA (by have := hHeld.1.size; omega) (fun j e => (r3.lt j e).1); obtain ⟨A3, c3, rfl⟩ := own_is_slice rA; replace r3 := rA; clear atA gA)
                  refine hK.out _ _ ?_ (fun hHeld => ?_)
                  · exact SX.out _ bA
                  clear hK K
                  try simp only [Act.put, List.setIfInBounds_toArray, List.set_cons_zero, List.set_cons_succ]
                  refine wpAnyT_take (i := 17) (oi := ?o191) (v := ?v191) ?h191 (by kernel_rfl) (by kernel_rfl) (by kernel_rfl) ?q191 ?y191 (by assumption) ?_
                  case h191 => (simp only [List.getElem?_toArray, List.getElem?_cons_succ, List.getElem?_cons_zero]; try rfl)
                  case q191 => exact fun _ _ _ h => h
                  case y191 => refine Or.inl ⟨by rfl, ?_⟩; (intro w hSw; (try dsimp only at hSw); go_simp; try with_reducible rfl)
                  try simp only [Act.put, List.setIfInBounds_toArray, List.set_cons_zero, List.set_cons_succ]
                  refine wpAnyT_done (by kernel_rfl) ?_
                  refine wpAnyH_ready (rs := [18]) (by kernel_rfl) (by simp) ?_
                  refine (AllReadyH.cons (i := 18) (o := ?o192) ?h192 (fun K hK => ?k192) AllReadyH.nil)
                  case h192 => (simp only [List.getElem?_toArray, List.getElem?_cons_succ, List.getElem?_cons_zero]; try rfl)
                  case k192 =>
                    go_simp
                    ((with_reducible refine (LC.out _ A1 c1 A2 c2 A3 c3 bA r1 r2 r3).mono ?_); rintro e w9 ⟨A9, n9, c9, rfl, ht, bb⟩; obtain ⟨x0, x1, x2, x3⟩ := (BX.out _ _ bA bb).two; have ht := Lib.hid ht)
                    try go_wp2_with fail
                    refine hK.out _ _ ?_ (fun hHeld => ?_)
                    · trivial
                    clear hK K
                    try simp only [Act.put, List.setIfInBounds_toArray, List.set_cons_zero, List.set_cons_succ]
                    refine wpAnyH_take (i := 19) (oi := ?o193) (v := ?v193) ?h193 (by kernel_rfl) (by kernel_rfl) (by kernel_rfl) ?q193 ?y193 (by assumption) ?_
                    case h193 => (simp only [List.getElem?_toArray, List.getElem?_cons_succ, List.getElem?_cons_zero]; try rfl)
                    case q193 => exact fun _ _ _ h => h
                    case y193 => refine Or.inl ⟨by rfl, ?_⟩; (intro w hSw; (try dsimp only at hSw); go_simp; try with_reducible rfl)
                    try simp only [Act.put, List.setIfInBounds_toArray, List.set_cons_zero, List.set_cons_succ]
                    refine wpAnyH_take (i := 20) (oi := ?o194) (v := ?v194) ?h194 (by kernel_rfl) (by kernel_rfl) (by kernel_rfl) ?q194 ?y194 (by assumption) ?_
                    case h194 => (simp only [List.getElem?_toArray, List.getElem?_cons_succ, List.getElem?_cons_zero]; try rfl)
                    case q194 => exact fun _ _ _ h => h
                    case y194 => refine Or.inl ⟨by rfl, ?_⟩; (intro w hSw; (try dsimp only at hSw); go_simp; try with_reducible rfl)
                    try simp only [Act.put, List.setIfInBounds_toArray, List.set_cons_zero, List.set_cons_succ]
                    refine wpAnyH_take (i := 21) (oi := ?o195) (v := ?v195) ?h195 (by kernel_rfl) (by kernel_rfl) (by kernel_rfl) ?q195 ?y195 (by assumption) ?_
                    case h195 => (simp only [List.getElem?_toArray, List.getElem?_cons_succ, List.getElem?_cons_zero]; try rfl)
                    case q195 => exact fun _ _ _ h => h
                    case y195 => refine Or.inl ⟨by rfl, ?_⟩; (intro w hSw; (try dsimp only at hSw); go_simp; try with_reducible rfl)
                    try simp only [Act.put, List.setIfInBounds_toArray, List.set_cons_zero, List.set_cons_succ]
                    refine wpAnyH_ready (rs := [22]) (by kernel_rfl) (by simp) ?_
                    refine (AllReadyH.cons (i := 22) (o := ?o196) ?h196 (fun K hK => ?k196) AllReadyH.nil)
                    case h196 => (simp only [List.getElem?_toArray, List.getElem?_cons_succ, List.getElem?_cons_zero]; try rfl)
                    case k196 =>
                      go_simp
                      try go_wp2_with fail
                      refine hK.out _ _ ?_ (fun hHeld => ?_)
                      · trivial
                      clear hK K
                      try simp only [Act.put, List.setIfInBounds_toArray, List.set_cons_zero, List.set_cons_succ]
                      refine wpAnyH_take (i := 23) (oi := ?o197) (v := ?v197) ?h197 (by kernel_rfl) (by kernel_rfl) (by kernel_rfl) ?q197 ?y197 (by assumption) ?_
                      case h197 => (simp only [List.getElem?_toArray, List.getElem?_cons_succ, List.getElem?_cons_zero]; try rfl)
                      case q197 => exact fun _ _ _ h => h
                      case y197 => refine Or.inl ⟨by rfl, ?_⟩; (intro w hSw; (try dsimp only at hSw); go_simp; try with_reducible rfl)
                      try simp only [Act.put, List.setIfInBounds_toArray, List.set_cons_zero, List.set_cons_succ]
                      refine wpAnyH_take (i := 24) (oi := ?o198) (v := ?v198) ?h198 (by kernel_rfl) (by kernel_rfl) (by kernel_rfl) ?q198 ?y198 (by assumption) ?_
                      case h198 => (simp only [List.getElem?_toArray, List.getElem?_cons_succ, List.getElem?_cons_zero]; try rfl)
                      case q198 => exact fun _ _ _ h => h
                      case y198 => refine Or.inl ⟨by rfl, ?_⟩; (intro w hSw; (try dsimp only at hSw); go_simp; try with_reducible rfl)
                      try simp only [Act.put, List.setIfInBounds_toArray, List.set_cons_zero, List.set_cons_succ]
                      refine wpAnyH_done (by kernel_rfl) ?_ _
                      go_wp2
                      refine bodyPost_ret (v := .tuple #[.agg #[.int .i64 most, .slice A9 n9 c9], .int .i64 (layP most L (addS d.x k f)).2.1, .bool (layP most L (addS d.x k f)).2.2]) (by simp [results, Try.results17, go_sem, x0, x1]) rfl ⟨_, _, _, by rw [HRes.out], by rw [HRes.out]; exact (ht.out.set32 (BX.out _ _ bA bb) hz8 _ _).set32 ((BX.out _ _ bA bb).set_ 0 _) hz8 _ _, ?_⟩
                      exact below_set2 (below_set2 ((BW.out _ bA).trans (bb.mono (BW.out _ bA).size)) hz8w) hz8w
end Go.Proofs.Ytchbgececcclgaa
