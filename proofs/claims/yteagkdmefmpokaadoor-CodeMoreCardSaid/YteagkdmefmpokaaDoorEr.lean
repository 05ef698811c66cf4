/- Code: a program of the call's own, function by function. -/
import Derived.Test.YteagkdmefmpokaaDoorEq
namespace Go.Proofs.YteagkdmefmpokaaDoor
open Go.RowKit Go
set_option linter.unusedVariables false
set_option linter.unusedSimpArgs false
theorem info36 : (Tryd.prog.info? 36).map (fun i => (i.zero, i.size, i.bytes)) = some (some (.agg #[.string ⟨#[]⟩, .int .i64 0, .int .i64 0, .bool false, .slice none 0 0, .slice none 0 0, .slice none 0 0, .slice none 0 0]), 8, 136) := by kernel_rfl
theorem info43 : (Tryd.prog.info? 43).map (fun i => (i.zero, i.size, i.bytes)) = some (some (.agg #[.bool false, .int .u64 0, .string ⟨#[]⟩]), 3, 32) := by kernel_rfl
theorem blk_at (w : World) (g : Nat) (t : TypeId) (cs : Array Value) (h : g = w.heap.size) : Blk (w.alloc (.cells cs t)) g t cs := h ▸ Blk.new w t cs
theorem own_fresh (w : World) (t : TypeId) (s g base : Nat) (h : g = w.heap.size) (hb : base ≤ g) : (w.alloc (.cells #[] t)).ownsRow base t s (.slice (some ⟨g, 0, none⟩) 0 0) 0 [] := by
  subst h
  exact ⟨by simp, .inr ⟨w.heap.size, 0, #[], rfl, hb, Blk.new w t #[], Nat.le_refl _, by unfold maxLen; omega, by simp, by simp⟩⟩
/-- blocks that are older, or hold constants, are as they were. -/
def Keeps (B : Nat) (w w' : World) : Prop := w.heap.size ≤ w'.heap.size ∧ ∀ b, b < w.heap.size → (b < B ∨ ∃ cs, w.heap[b]? = some (.cells cs 43 (0, 0))) → w'.heap[b]? = w.heap[b]?
theorem Keeps.refl (B : Nat) (w : World) : Keeps B w w := ⟨Nat.le_refl _, fun _ _ _ => rfl⟩
theorem Keeps.trans {B : Nat} {a b c : World} (h : Keeps B a b) (k : Keeps B b c) : Keeps B a c :=
  ⟨Nat.le_trans h.1 k.1, fun x hx ho => by
    have e := h.2 x hx ho
    rw [k.2 x (Nat.lt_of_lt_of_le hx h.1) (ho.imp id fun ⟨cs, hc⟩ => ⟨cs, e.trans hc⟩), e]⟩
theorem Keeps.alloc (B : Nat) (w : World) (o : Obj) : Keeps B w (w.alloc o) := ⟨by rw [size_alloc]; omega, fun b hb _ => Below.heap_alloc w o b hb⟩
theorem Keeps.drew (B : Nat) (w : World) : Keeps B w w.drew := Keeps.refl B w
theorem Keeps.below {B : Nat} {w w' : World} (h : Below w.heap.size w w') : Keeps B w w' := ⟨h.size, fun b hb _ => h.block b hb⟩
theorem Keeps.set_ {B : Nat} {w : World} {p : Addr} {t : TypeId} {cs : Array Value} (hb : Blk w p.block t cs) (ht : t ≠ 43) (hB : B ≤ p.block) (u : Value) : Keeps B w (w.setCell p u) := by
  refine ⟨by simp [World.setCell], fun b hlt ho => Below.heap_setCell w p u b ?_⟩
  rintro rfl
  rcases ho with ho | ⟨cs', ho⟩
  · omega
  · unfold Blk at hb; rw [hb] at ho; injection ho with ho; injection ho with _ ho; exact ht ho
theorem Keeps.grown {B : Nat} {w w' : World} {base : Nat} {e : TypeId} {s n : Nat} {v : Value} {xs : List Value} (h : w.grownBy w' v.ownBlock) (ho : w.ownsRow base e s v n xs) (he : e ≠ 43) (hB : B ≤ base) : Keeps B w w' := by
  refine ⟨h.size, fun b hb hk => h.block b hb ?_⟩
  intro hv
  obtain ⟨k1, k2⟩ := ho.lt b hv.symm
  rcases hk with hk | ⟨cs, hk⟩
  · omega
  · exact own_blk_ne ho (show Blk w b 43 cs from hk) he hv.symm
theorem Keeps.grown_at {B : Nat} {w w' : World} {g : Nat} {t : TypeId} {cs : Array Value} (h : w.grownBy w' (some g)) (hb : Blk w g t cs) (ht : t ≠ 43) (hB : B ≤ g) : Keeps B w w' := by
  refine ⟨h.size, fun b hlt hk => h.block b hlt ?_⟩
  intro hv
  cases hv
  rcases hk with hk | ⟨cs', hk⟩
  · omega
  · unfold Blk at hb; rw [hb] at hk; injection hk with hk; injection hk with _ hk; exact ht hk
/-- constants that stay. -/
def KS (B : Nat) (w : World) (A : Option Addr) (n : Nat) (K : List Cn) : Prop := Reads w w.heap.size 3 A n (kf K) ∧ ∀ ad, A = some ad → 0 < n → ad.block < B ∨ ∃ cs, w.heap[ad.block]? = some (.cells cs 43 (0, 0))
theorem KS.keep {B : Nat} {w w' : World} {A : Option Addr} {n : Nat} {K : List Cn} (h : KS B w A n K) (k : Keeps B w w') : KS B w' A n K := by
  obtain ⟨h1, h2⟩ := h
  refine ⟨⟨h1.1, fun hn => ?_⟩, fun ad hA hn => ?_⟩
  · obtain ⟨ad, hA, hb, hc⟩ := h1.2 hn
    refine ⟨ad, hA, Nat.lt_of_lt_of_le hb k.1, fun j u hj => ?_⟩
    exact (World.cell?_of_block (by rw [block_of_add]; exact k.2 _ hb (h2 ad hA hn))).trans (hc j u hj)
  · obtain ⟨ad', hA', hb, _⟩ := h1.2 hn
    rw [hA] at hA'
    cases hA'
    exact (h2 ad hA hn).imp id fun ⟨cs, hc⟩ => ⟨cs, (k.2 _ hb (h2 ad hA hn)).trans hc⟩
theorem KS.of_own {B base : Nat} {w : World} {A : Option Addr} {n c : Nat} {K : List Cn} (h : w.ownsRow base 43 3 (.slice A n c) n (kf K)) : KS B w A n K := by
  refine ⟨Reads.of_own h, fun ad hA hn => .inr ?_⟩
  rcases h.2 with ⟨h1, h2⟩ | ⟨g, cap, cur, h1, h2, h3, _⟩
  · omega
  · injection h1 with e1
    rw [e1] at hA
    cases hA
    exact ⟨cur, h3⟩
theorem KS.of_old {B : Nat} {w0 w : World} {A : Option Addr} {n : Nat} {K : List Cn} (hB : w0.heap.size ≤ B) (h : Reads w0 w0.heap.size 3 A n (kf K)) (b : Below w0.heap.size w0 w) : KS B w A n K := by
  refine ⟨(h.below b).more b.size, fun ad hA hn => .inl ?_⟩
  obtain ⟨ad', hA', hb, _⟩ := h.2 hn
  rw [hA] at hA'
  cases hA'
  omega
/-- the program that is made: its functions, each with as much as the one that it stands for, or more. -/
structure Made (w : World) (B gq : Nat) (Fs : List Fn) (k : Nat) (wr : World) (v : Value) (Gs : List Fn) : Prop where
  q : Blk wr gq 24 #[v]
  own : wr.ownsRow B 36 8 v Gs.length (hf Gs)
  ks : ∀ G ∈ Gs, KS B wr G.hd.Ak G.hd.nk G.K
  from_ : ∀ G ∈ Gs, ∃ F ∈ Fs, More F G ∧ G.hd.Ac = F.hd.Ac ∧ G.hd.Ap = F.hd.Ap ∧ G.hd.Ah = F.hd.Ah ∧ G.hd.nh = F.hd.nh
  at_ : ∀ (i : Nat) (F : Fn), i < k → Fs[i]? = some F → ∃ G, Gs[i]? = some G ∧ More F G
  old : Below w.heap.size w wr
theorem made_push {w wr wy w' : World} {B gq k k' : Nat} {Fs Gs : List Fn} {v v' : Value} {F G : Fn} (hM : Made w B gq Fs k wr v Gs) (hbel : Below wr.heap.size wr wy) (hF : F ∈ Fs) (m : More F G) (h1 : G.hd.Ac = F.hd.Ac) (h2 : G.hd.Ap = F.hd.Ap) (h3 : G.hd.Ah = F.hd.Ah) (h4 : G.hd.nh = F.hd.nh) (hk : KS B wy G.hd.Ak G.hd.nk G.K)
    (hown : w'.ownsRow B 36 8 v' (Gs.length + 1) (hf Gs ++ hdf G.hd)) (hgrow : wy.grownBy w' v.ownBlock) (hB : w.heap.size ≤ B) (hq : B ≤ gq) (hat : ∀ (i : Nat) (F : Fn), i < k' → Fs[i]? = some F → ∃ G', (Gs ++ [G])[i]? = some G' ∧ More F G') :
    Made w B gq Fs k' (w'.setCell ⟨gq, 0, none⟩ v') v' (Gs ++ [G]) := by
  have ho := own_below hbel hM.own
  have kq := hM.q.below hbel hM.q.lt
  have kq' := kq.grown hgrow (fun e => own_blk_ne ho kq (by decide) e.symm)
  have hK : Keeps B wy (w'.setCell ⟨gq, 0, none⟩ v') := (Keeps.grown hgrow ho (by decide) (Nat.le_refl _)).trans (Keeps.set_ (p := ⟨gq, 0, none⟩) kq' (by decide) hq _)
  refine ⟨kq'.set_ 0 _, ?_, ?_, ?_, hat, ?_⟩
  · have := ownsRow_setCell_other hown (a := ⟨gq, 0, none⟩) (own_blk_ne hown kq' (by decide)) v'
    rw [List.length_append, hf_append, show hf [G] = hdf G.hd from by rw [← hf_flat]; simp]; exact this
  · intro G' hG'
    rcases List.mem_append.1 hG' with hG' | hG'
    · exact (hM.ks G' hG').keep ((Keeps.below hbel).trans hK)
    · simp only [List.mem_singleton] at hG'; subst hG'; exact hk.keep hK
  · intro G' hG'
    rcases List.mem_append.1 hG' with hG' | hG'
    · exact hM.from_ G' hG'
    · simp only [List.mem_singleton] at hG'; subst hG'; exact ⟨F, hF, m, h1, h2, h3, h4⟩
  · have b1 := below_via hM.old hbel
    exact (b1.grown hgrow b1.size (fun k e => by have := (ho.lt k e).1; omega)).setCell (by show w.heap.size ≤ gq; omega) _
/-- a made function, as it is read. -/
theorem made_is {w wr : World} {B : Nat} {F G : Fn} (hF : F.Is w) (b : Below w.heap.size w wr) (m : More F G) (h1 : G.hd.Ac = F.hd.Ac) (h2 : G.hd.Ap = F.hd.Ap) (h3 : G.hd.Ah = F.hd.Ah) (h4 : G.hd.nh = F.hd.nh) (hk : KS B wr G.hd.Ak G.hd.nk G.K) (hn : G.hd.nk ≤ 65536) : G.Is wr := by
  have i := hF.later b
  refine ⟨⟨?_, ?_, ?_, ?_⟩, hk.1, ?_, by omega, ?_⟩
  · rw [h1, m.nc, m.C]; exact i.his.code
  · rw [h3, h4, m.T]; exact i.his.hand
  · rw [m.nc]; exact i.his.nc
  · rw [h4]; exact i.his.nh
  · rw [h2, m.np, m.P]; exact i.cap
  · rw [m.np]; exact i.np
/-- the header of a made function. -/
def moreH (h : Hd) (re : Int) (A : Option Addr) (n c : Nat) : Hd := { h with re := re, Ak := A, nk := n, ck := c }
def moreF (F : Fn) (re : Int) (A : Option Addr) (n c : Nat) (K : List Cn) : Fn := { F with hd := moreH F.hd re A n c, K := K }
abbrev Hd.o (h : Hd) : Obj := .cells #[.string h.nm, .int .i64 h.pa, .int .i64 h.re, .bool h.ge, .slice h.Ac h.nc h.cc, .slice h.Ak h.nk h.ck, .slice h.Ap h.np h.cp, .slice h.Ah h.nh h.ch] 36
theorem reads_hd (w : World) (h : Hd) : Reads (w.alloc (.cells #[.string h.nm, .int .i64 h.pa, .int .i64 h.re, .bool h.ge, .slice h.Ac h.nc h.cc, .slice h.Ak h.nk h.ck, .slice h.Ap h.np h.cp, .slice h.Ah h.nh h.ch] 36)) (w.heap.size + 1) 8 (some ⟨w.heap.size, 0, none⟩) 1 (hdf h) := by
  have := reads_blk (n := 1) (size := 8) (Blk.new w 36 #[.string h.nm, .int .i64 h.pa, .int .i64 h.re, .bool h.ge, .slice h.Ac h.nc h.cc, .slice h.Ak h.nk h.ck, .slice h.Ap h.np h.cp, .slice h.Ah h.nh h.ch]) rfl
  rw [size_alloc] at this
  exact this
theorem hd_one (h : Hd) : ∀ u ∈ hdf h, u.oneCell' = true := by
  intro u hu
  simp only [hdf, List.mem_cons, List.not_mem_nil, or_false] at hu
  rcases hu with rfl | rfl | rfl | rfl | rfl | rfl | rfl | rfl <;> rfl
section
open Go.ChangeShapes Go.WideShapes Go.Deep Go.Joins
variable {H : Type} {enc : TypeId × Value → H} {P : Program} {w : World} {base : Nat} {spare : Nat → Bool} {held : Bool}
theorem open_agg3 {r : Reach} {b0 : Nat} {t : TypeId} {f0 f1 f2 : Field} {v : Value} {d : DataW H} {p : List MemPlace} (hs : P.underlying t = some (.struct #[f0, f1, f2])) (hone : oneCellFields P #[f0, f1, f2] = true) (hC : P.cellsOf t = 3)
    (hv : Value.okWide P w r b0 t v) (h : DataW.Trod enc P w base spare held t v d p) :
    ∃ (v0 v1 v2 : Value) (y0 y1 y2 : DataW H × List MemPlace) (n : Nat), v = .agg #[v0, v1, v2] ∧ d = .agg [y0.1, y1.1, y2.1] ∧
      DataW.trod enc P w base spare held n f0.type [v0] = some y0 ∧ DataW.trod enc P w base spare held n f1.type [v1] = some y1 ∧ DataW.trod enc P w base spare held n f2.type [v2] = some y2 := by
  obtain ⟨cs, rfl, hsz⟩ := okWide_struct hs hv
  obtain ⟨l⟩ := cs
  match l, hsz.trans hC with
  | [c0, c1, c2], _ =>
    obtain ⟨fuel, hf⟩ := h
    obtain ⟨xs, n, _, hx, _, hlen, hg⟩ := DataW.trod_struct hs hf
    obtain ⟨o0, k0⟩ := hone_of hone 0 f0 rfl
    obtain ⟨o1, k1⟩ := hone_of hone 1 f1 rfl
    obtain ⟨o2, k2⟩ := hone_of hone 2 f2 rfl
    match xs, hlen with
    | [y0, y1, y2], _ =>
      simp only [Prod.mk.injEq] at hx
      exact ⟨c0, c1, c2, y0, y1, y2, n, rfl, by simpa using hx.1, by simpa [Value.cells, o0, k0] using hg 0 f0 rfl, by simpa [Value.cells, o1, k1] using hg 1 f1 rfl, by simpa [Value.cells, o2, k2] using hg 2 f2 rfl⟩
end
/-- a constant that came in. -/
theorem open_const {H : Type} {enc : TypeId × Value → H} {w : World} {b0 : Nat} {spare : Nat → Bool} {held : Bool} {v : Value} {d : DataW H} {p : List MemPlace} (hv : Value.okWide Tryd.prog w .any b0 43 v) (h : DataW.Trod enc Tryd.prog w 0 spare held 43 v d p) :
    ∃ m : Cn, v = .agg #[.bool m.t, .int .u64 m.n, .string m.s] := by
  obtain ⟨v0, v1, v2, y0, y1, y2, n, rfl, rfl, h0, h1, h2⟩ := open_agg3 Tryd.underlying43 (by kernel_rfl) (by kernel_rfl) hv h
  obtain ⟨z0, rfl⟩ := bool_at h0
  obtain ⟨z1, rfl⟩ := u64_at h1
  obtain ⟨z2, rfl⟩ := str_at h2
  exact ⟨⟨z0, z1, z2⟩, rfl⟩
end Go.Proofs.YteagkdmefmpokaaDoor
