/- Package cells: the walk of Break. -/
import Derived.Test.YtoicddafonpjhaaKf
import Derived.Deep.LoopGhost
import Derived.RegionTactic
import Derived.WalkMore
namespace Go.Proofs.Ytoicddafonpjhaa
open Go.RowKit Go
set_option linter.unusedVariables false
set_option linter.unusedSimpArgs false
variable {S : Nat → Prop}
theorem rep_alloc {w : World} {base b : Nat} {v : Value} {l : List Cl} {A : List Value} (r : Rep S w base b v l A) (o : Obj) : Rep S (w.alloc o) base b v l A := by
  obtain ⟨cur, hblk⟩ := r.blk
  have h2 := heap_alloc_old w o (heap_lt hblk)
  exact ⟨r.bb, ⟨cur, by rw [h2]; exact hblk⟩, by rw [World.cell?_of_block (w := w) (a := ⟨b, 0, none⟩) h2]; exact r.cell, by rw [World.frozen?_of_block (w := w) (a := ⟨b, 0, none⟩) h2]; exact r.fr, r.row.alloc o, r.len, fun i h h3 => (r.ab i h h3).alloc o, r.ap, fun k hk => by have := r.qs k hk; simp only [World.alloc]; rw [Array.size_push]; omega, r.qb, r.qv, r.qa⟩
/-- at the start: one to be done. -/
theorem binv_start {w : World} {base b g cap : Nat} {A : List Value} {l : List Cl} (n : Int) (r : Rep S w base b (.slice (some ⟨g, 0, none⟩) l.length cap) l A) (hl : 1 + load l ≤ 1000000) :
    BInv S w (w.alloc (.cells #[.int .i64 n] 3)) base b g cap l.length A l (.slice (some ⟨w.heap.size, 0, none⟩) 1 1) [n] := by
  have hb : base ≤ w.heap.size := by obtain ⟨cur, hblk⟩ := r.blk; have := heap_lt hblk; have := r.bb; omega
  refine ⟨rep_alloc r _, rfl, ?_, ?_, (BelowS.refl base w r.qs).alloc hb _, by simp; omega, fun k hk hS => by simp [Value.ownBlock] at hk; have := r.qs k hS; omega⟩
  · exact ⟨by simp, .inr ⟨w.heap.size, 1, #[.int .i64 n], rfl, hb, heap_alloc_new w _, by simp, by unfold maxLen; omega, by simp, by simp⟩⟩
  · intro i h
    cases hv : A[i].ownBlock with
    | none => exact .inl rfl
    | some q =>
      right
      have := ((r.ab i h (by have := r.len; omega)).lt q hv).2
      simp [Value.ownBlock]; omega
theorem brk_nil (f : Nat) (l : List Cl) (k : Nat) : brk f l [] k = (l, k) := by cases f <;> simp [brk]
theorem brk_in {f : Nat} {l : List Cl} {t : List Int} {x : Int} {k : Nat} {ab : List Int} (h : vld l x = true) (ha : abv l x = ab) : brk (f + 1) l (t ++ [x]) k = brk f (l.set x.toNat (false, ab)) (t ++ ab) (k + 1) := by
  rw [brk, if_neg (by simp)]
  simp only [List.getLast?_concat, Option.getD_some, List.dropLast_concat, h, ha, if_true]
theorem brk_out {f : Nat} {l : List Cl} {t : List Int} {x : Int} {k : Nat} (h : vld l x = false) : brk (f + 1) l (t ++ [x]) k = brk f l t k := by
  rw [brk, if_neg (by simp)]
  simp only [List.getLast?_concat, Option.getD_some, List.dropLast_concat, h, Bool.false_eq_true, if_false]
/-- what the walk leans on where a valid one is met. -/
structure Hit (S : Nat → Prop) (w0 wd : World) (base b g cap m : Nat) (A : List Value) (l : List Cl) (tv : Value) (t : List Int) (i : Nat) (ab : List Int) (av : Value) : Prop where
  c0 : wd.cell? ⟨b, 0, none⟩ = some (.slice (some ⟨g, 0, none⟩) m cap)
  c1 : wd.cell? ⟨g, i * 2, none⟩ = some (.bool true)
  fr : wd.frozen? ⟨g, i * 2, none⟩ = false
  d0 : (wd.setCell ⟨g, i * 2, none⟩ (.bool false)).cell? ⟨b, 0, none⟩ = some (.slice (some ⟨g, 0, none⟩) m cap)
  d2 : (wd.setCell ⟨g, i * 2, none⟩ (.bool false)).cell? ⟨g, i * 2 + 1, none⟩ = some av
  lt : i < m
  inv : BInv S w0 (wd.setCell ⟨g, i * 2, none⟩ (.bool false)) base b g cap m A (l.set i (false, ab)) tv t
  bd : t.length + ab.length + load (l.set i (false, ab)) ≤ 1000000
  ld : load (l.set i (false, ab)) + ab.length + 1 = load l
  src : (av = .slice none 0 0 ∧ ab = []) ∨ ∃ ga ca, av = .slice (some ⟨ga, 0, none⟩) ab.length ca ∧ ∀ j x, (ab.map (Value.int .i64))[j]? = some x → (wd.setCell ⟨g, i * 2, none⟩ (.bool false)).cell? ((⟨ga, 0, none⟩ : Addr).add j) = some x
  base : base ≤ (wd.setCell ⟨g, i * 2, none⟩ (.bool false)).heap.size
theorem hit_of {w0 wd : World} {base b g cap m : Nat} {A : List Value} {l : List Cl} {tv : Value} {t : List Int} (k : BInv S w0 wd base b g cap m A l tv t) {i : Nat} {ab : List Int} (hx : l[i]? = some (true, ab)) : ∃ av, Hit S w0 wd base b g cap m A l tv t i ab av := by
  have ld := load_set hx
  have hl := k.ld
  have kb := binv_break k hx (by omega)
  have hx2 : (l.set i (false, ab))[i]? = some (false, ab) := by
    have hi := (List.getElem?_eq_some_iff.1 hx).1
    rw [List.getElem?_set_self hi]
  obtain ⟨av0, s1, s2, s3, s4⟩ := binv_src k hx
  obtain ⟨av, r1, r2, r3, r4⟩ := binv_src kb hx2
  have hi := (List.getElem?_eq_some_iff.1 hx).1
  refine ⟨av, k.rep.cell, s2, s3, kb.rep.cell, r1, by have := k.len; omega, kb, by omega, ld, ?_, ?_⟩
  · rcases r4 with h | ⟨ga, ca, e, _, h⟩
    · exact .inl h
    · exact .inr ⟨ga, ca, e, h⟩
  · obtain ⟨cur, hblk⟩ := kb.rep.blk
    have := heap_lt hblk
    have := kb.rep.bb
    omega
set_option maxRecDepth 100000 in
set_option maxHeartbeats 4000000 in
theorem Break_calls (w : World) (base b g cap : Nat) (l : List Cl) (A : List Value) (n : Int) (r : Rep S w base b (.slice (some ⟨g, 0, none⟩) l.length cap) l A) (hl : 1 + load l ≤ 1000000) (hm : l.length < 1000000) :
    Calls Try.prog 12 #[.pointer (some ⟨b, 0, none⟩), .int .i64 n] w fun e w' => e = .returned (.int .i64 (brk (1 + load l) l [n] 0).2) ∧ Rep S w' base b (.slice (some ⟨g, 0, none⟩) l.length cap) (brk (1 + load l) l [n] 0).1 A ∧ BelowS S base w w' := by
  have B0 := Lib.hid (binv_start n r hl)
  obtain ⟨F, hF⟩ : ∃ F, 1 + load l = F := ⟨_, rfl⟩
  obtain ⟨R, hR⟩ : ∃ R, brk F l [n] 0 = R := ⟨_, rfl⟩
  rw [hF] at hl ⊢
  rw [hR]
  have HR := Lib.hid hR
  have HF := Lib.hid hF
  obtain ⟨m, hlm⟩ : ∃ m, l.length = m := ⟨_, rfl⟩
  rw [hlm] at B0 hm ⊢
  clear r hR hF hlm
  go_enter Try.func12, Try.ntmps12
  go_wp2
  go_step3
  go_wp2
  go_step3
  go_wp2
  go_loopg [5, 6] F (fun f c tv wr => ∃ l' t, ∃ k : Nat, BInv S w wr base b g cap m A l' tv t ∧ c = .int .i64 k ∧ brk f l' t k = R ∧ t.length + load l' ≤ f ∧ k + load l' ≤ 1000000)
  case atStart => exact ⟨l, [n], 0, B0.out, rfl, HR.out, by have := HF.out; simp; omega, by have := HF.out; omega⟩
  case round =>
    obtain ⟨l', t, k, K, rfl, hb, hf, hk⟩ := hrel
    rcases List.eq_nil_or_concat t with rfl | ⟨t', x, rfl⟩
    · rw [brk_nil] at hb
      subst hb
      have K0 := Lib.hid K
      rcases K.own.2 with ⟨rfl, _⟩ | ⟨gt, ct, cur, rfl, _⟩
      · clear K hf
        go_wp2
        rw [Exit.noGoto_ret]
        go_ret
        exact ⟨rfl, K0.out.rep, K0.out.bel⟩
      · clear K hf
        go_wp2
        rw [Exit.noGoto_ret]
        go_ret
        exact ⟨rfl, K0.out.rep, K0.out.bel⟩
    · rw [List.concat_eq_append] at K hb hf
      obtain ⟨gt, ct, rfl, hct, hcx⟩ := binv_last K
      have K1 := Lib.hid (binv_pop K rfl)
      have hld := K.ld
      obtain ⟨q, hq⟩ : ∃ q, t'.length = q := ⟨_, rfl⟩
      have HQ := Lib.hid hq
      rw [hq] at hct hcx K1
      simp only [List.length_append, List.length_singleton, hq] at hf hld
      rw [hq] 
      have HB := Lib.hid hb
      obtain ⟨f', hf'⟩ : ∃ f', gk = f' + 1 := ⟨gk - 1, by omega⟩
      have HF' := Lib.hid hf'
      have HFB := Lib.hid hf
      clear K hb hq hf' hf
      have KD := Lib.hid (binv_drew K1.out)
      have VL := Valid_calls wr.drew base b _ l' A x KD.out.rep
      obtain ⟨i3, h3, hy0, hy1, hy2⟩ := info_parts Try.info3
      clear K1
      go_wp2
      go_region
      clear hcx
      generalize wr.drew = wd at *
      clear wr
      cases hv : vld l' x
      · have HV := Lib.hid hv
        rw [hv] at VL
        clear hv
        replace VL := Lib.hid VL
        go_wp2_with (first | (go_at_call 13; refine VL.out.mono ?_; rintro e w' ⟨rfl, rfl⟩))
        go_roundg f'
        case measure => have := HF'.out; omega
        case rel => exact ⟨l', t', k, KD.out, rfl, by have := HB.out; rw [HF'.out, brk_out HV.out] at this; exact this, by have := HFB.out; have := HF'.out; have := HQ.out; omega, hk⟩
      · obtain ⟨x0, x1, hx⟩ := vld_pos hv
        obtain ⟨i, rfl⟩ := Int.eq_ofNat_of_zero_le x0
        rw [Int.toNat_natCast] at hx
        obtain ⟨ab, hab⟩ : ∃ ab, abv l' (i : Int) = ab := ⟨_, rfl⟩
        rw [hab] at hx
        obtain ⟨av, HH⟩ := hit_of KD.out hx
        have HV := Lib.hid (And.intro hv hab)
        rw [hv] at VL
        have c0 := HH.c0
        have c1 := HH.c1
        have fr := HH.fr
        have d0 := HH.d0
        have d2 := HH.d2
        have hlt : (i : Int) < (m : Int) := by have := HH.lt; omega
        have src := HH.src
        have HHh := Lib.hid HH
        clear HH hv hab hx x0 x1
        replace VL := Lib.hid VL
        rcases src with ⟨rfl, rfl⟩ | ⟨ga, ca, rfl, hsrc⟩
        · go_wp2_with (first | (go_at_call 13; refine VL.out.mono ?_; rintro e w' ⟨rfl, rfl⟩))
          go_roundg f'
          case measure => have := HF'.out; omega
          case rel => exact ⟨l'.set i (false, []), t', k + 1, HHh.out.inv, by go_num, by have := HB.out; rw [HF'.out, brk_in HV.out.1 HV.out.2, Int.toNat_natCast, List.append_nil] at this; exact this, by have := HFB.out; have := HF'.out; have := HQ.out; have := HHh.out.ld; simp at this; omega, by have := HHh.out.ld; simp at this; omega⟩
        · have own1 : (wd.setCell ⟨g, i * 2, none⟩ (.bool false)).ownsRow base 3 1 (.slice (some ⟨gt, 0, none⟩) q ct) q (t'.map (Value.int .i64)) := by
            have := HHh.out.inv.own; rw [HQ.out] at this; exact this
          have bd := HHh.out.bd
          rw [HQ.out] at bd
          have hbs := HHh.out.base
          have OW := Lib.hid own1
          have SR := Lib.hid hsrc
          have BS := Lib.hid hbs
          clear own1 hsrc hbs
          go_wp2_with (first | (go_at_call 13; refine VL.out.mono ?_; rintro e w' ⟨rfl, rfl⟩) | (at_builtin; refine wpList_append_fresh rfl (.tmp 36) (.tmp 44) 38 rfl base 3 i3 _ 8 Try.underlying38 h3 hy0 hy1 hy2 rfl _ q (t'.map (Value.int .i64)) rfl OW.out ⟨ga, 0, none⟩ ab.length ca (ab.map (Value.int .i64)) rfl (by simp) SR.out (by intro u hu; simp at hu; obtain ⟨y, _, rfl⟩ := hu; rfl) (by unfold maxLen; omega) (by omega) BS.out ?_; intro v' w2 hown hgr hfr))
          go_roundg f'
          case measure => have := HF'.out; omega
          case rel => exact ⟨l'.set i (false, ab), t' ++ ab, k + 1, binv_more HHh.out.inv HHh.out.bd (by rw [HQ.out]; exact hown) hgr hfr, by go_num, by have := HB.out; rw [HF'.out, brk_in HV.out.1 HV.out.2, Int.toNat_natCast] at this; exact this, by have := HFB.out; have := HF'.out; have := HQ.out; have := HHh.out.ld; simp; omega, by have := HHh.out.ld; omega⟩
end Go.Proofs.Ytoicddafonpjhaa
