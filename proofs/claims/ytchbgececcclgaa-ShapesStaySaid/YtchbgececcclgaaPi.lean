/- Shapes: Move walked. -/
import Derived.Test.YtchbgececcclgaaPh
namespace Go.Proofs.Ytchbgececcclgaa
open Go.RowKit Go
set_option linter.unusedVariables false
set_option linter.unusedSimpArgs false
theorem One.keep {w w' : World} {B g i m : Nat} {x : Sh} {gs cv dn dc dm : Nat} {dp : Int} {dA : Option Addr} (h : One w B g i m x gs cv dn dc dm dp dA) (k : Kept B w w') {j : Nat} {q : Pr} (hq : x.l[j]? = some q) {b off : Nat} (hA : dA = some ⟨b, off, none⟩) :
    w'.cell? ⟨b, off + j * 2, none⟩ = some (.string q.k) ∧ w'.cell? ⟨b, off + j * 2 + 1, none⟩ = some (.int .i64 q.f) := by
  obtain ⟨b', off', hA', hb, hc⟩ := reads_get pv_len (by decide) (h.fix.keep k).1 hq
  rw [hA] at hA'
  cases hA'
  exact ⟨hc 0 _ rfl, hc 1 _ rfl⟩
theorem movL_no {most : Int} {r : Res} (h : r.2.2 = false) (h0 : r.2.1 = 0) (l : List Pr) : movL most r l = (r.1, 0, false) := by
  cases l with
  | nil => obtain ⟨a, b, c⟩ := r; simp at h h0; subst h; subst h0; rfl
  | cons q l => unfold movL; rw [if_neg (by rw [h]; decide)]
set_option maxRecDepth 100000 in
set_option maxHeartbeats 8000000 in
theorem move_calls (w : World) (B g : Nat) (most : Int) (L : List Sh) (h : TreeIs w B g most L) (hW : WF L) (n : Int) (p : Int) (hp : okU p) (hb : 2 * L.length + 2 ≤ 1000000000000) :
    Calls Try.prog 20 #[.pointer (some ⟨g, 0, none⟩), .int .i64 n, .int .u64 p] w (Gives w B g most (movP most L n p)) := by
  have H := Lib.hid h
  have HTh := tree_there h n
  cases e : getI L n with
  | none =>
    rw [e] at HTh
    have HTh := Lib.hid HTh
    have hres : movP most L n p = (L, 0, false) := by unfold movP; rw [e]
    rw [hres]
    clear h hres e hW hp hb
    go_enter Try.func20, Try.ntmps20
    go_wp2_with (first | (go_at_call 23; (with_reducible refine HTh.out.mono ?_); rintro e w1 ⟨rfl, rfl⟩))
    go_ret2
    exact ⟨rfl, H.out, Kept.refl _ _⟩
  | some x =>
    rw [e] at HTh
    have HTh := Lib.hid HTh
    obtain ⟨h0, hx, hlt⟩ := getI_some e
    obtain ⟨i, rfl⟩ : ∃ i : Nat, n = i := ⟨n.toNat, by omega⟩
    simp only [Int.toNat_natCast] at hx
    obtain ⟨gs, cv, dn, dc, dm, dp, dA, o⟩ := tree_one h hW (by omega) hx
    have hres : movP most L i p = movL most (rootP most L p) x.l := by unfold movP; rw [e]
    have HRes := Lib.hid hres
    have RC := Lib.hid (root_calls w B g most L h hW p hp (by omega))
    have hg := rootP_grown most hW hp
    have hdep := (hW.depth i x hx).1
    have hok := (hW.ok x (List.mem_of_getElem? hx)).l
    have c1 := o.c1
    have e1 := o.e1
    have hi2 := o.lt
    have hn := o.n
    have O := Lib.hid o
    have HLen := Lib.hid o.len
    have HW := Lib.hid hg.wf
    have HM := Lib.hid hg.many
    have HNo := Lib.hid hg.no
    have HOk := Lib.hid hok
    have hsm : L.length + dn + 1 ≤ 1000000000000 := by rw [o.len]; omega
    generalize hr0 : rootP most L p = r0 at *
    clear hr0 h hW hp hg hdep hok e h0 hx hlt hres o hb
    go_enter Try.func20, Try.ntmps20
    go_wp2_with (first | (go_at_call 23; (with_reducible refine HTh.out.mono ?_); rintro e w1 ⟨rfl, rfl⟩) | (go_at_call 15; (with_reducible refine RC.out.mono ?_); rintro e w1 ⟨rfl, ht, k1⟩; have ht := Lib.hid ht; have k1 := Lib.hid k1; clear c1 e1))
    go_loopg [9, 10, 33] dn (fun fu m ok ix wr => ∃ (k : Nat) (r : Res), ix = .int .i64 k ∧ k + fu = dn ∧ m = .int .i64 r.2.1 ∧ ok = .bool r.2.2 ∧ TreeIs wr B g most r.1 ∧ WF r.1 ∧ r.1.length ≤ L.length + 1 + k ∧ (r.2.2 = false → r.2.1 = 0) ∧ movL most r0 x.l = movL most r (x.l.drop k) ∧ Kept B w wr)
    case atStart => exact ⟨0, r0, rfl, by omega, rfl, rfl, ht.out, HW.out, HM.out, HNo.out, rfl, k1.out⟩
    case round =>
      obtain ⟨k, r, rfl, hf, rfl, rfl, hT, hw, hm, hno, hmov, hK⟩ := hrel
      have HF := Lib.hid hf
      have HT := Lib.hid hT
      have HW2 := Lib.hid hw
      have HM2 := Lib.hid hm
      have HNo2 := Lib.hid hno
      have HMov := Lib.hid hmov
      have HK := Lib.hid hK
      by_cases hk : k < dn
      · obtain ⟨q, hq⟩ : ∃ q, x.l[k]? = some q := ⟨_, List.getElem?_eq_getElem (by have := HLen.out; omega)⟩
        obtain ⟨b, off, hA, hbl, q0, q1, hj⟩ := O.out.prop hq
        obtain ⟨q0', q1'⟩ := O.out.keep hK hq hA
        subst hA
        obtain ⟨f', hf'⟩ : ∃ f', gk = f' + 1 := ⟨gk - 1, by omega⟩
        have HF' := Lib.hid hf'
        have HD := Lib.hid (drop_at' hq)
        cases hr : r.2.2 with
        | false =>
          have HR := Lib.hid hr
          clear hf hT hw hm hno hmov hK hf' hq q0 q1 hbl hr
          go_wp2
          go_ret2
          have bal : Below wr.heap.size wr (wr.alloc (.cells #[.string q.k, .int .i64 q.f] 66)) := (Below.refl _ _).alloc (Nat.le_refl _) _
          refine ⟨?_, ?_, HK.out.trans (Kept.below bal HT.out.base)⟩
          · rw [HRes.out, HMov.out, movL_no HR.out (HNo2.out HR.out)]; rfl
          · rw [HRes.out, HMov.out, movL_no HR.out (HNo2.out HR.out)]; exact HT.out.below bal
        | true =>
          obtain ⟨k1', f1'⟩ := HOk.out q (List.mem_of_getElem? hq)
          have hg2 := addP_grown most hw (n := r.2.1) k1' f1'
          have bal : Below wr.heap.size wr (wr.alloc (.cells #[.string q.k, .int .i64 q.f] 66)) := (Below.refl _ _).alloc (Nat.le_refl _) _
          have AC := Lib.hid (add_calls (wr.alloc (.cells #[.string q.k, .int .i64 q.f] 66)) B g most r.1 (hT.below bal) hw r.2.1 q.k q.f k1' f1' (by omega))
          have KA := Lib.hid (hK.trans (Kept.below bal hT.base))
          have HG2 := Lib.hid hg2
          have HStep := Lib.hid (show movL most r0 x.l = movL most (addP most r.1 r.2.1 q.k q.f) (x.l.drop (k + 1)) by rw [hmov, drop_at' hq, movL, if_pos hr])
          clear hf hT hw hm hno hmov hK hf' hq q0 q1 hbl hr hg2 bal k1' f1'
          go_wp2_with (first | (go_at_call 10; (with_reducible refine AC.out.mono ?_); rintro e w2 ⟨rfl, ht2, k2⟩; have ht2 := Lib.hid ht2; have k2 := Lib.hid k2))
          go_roundg f'
          case measure => have := HF'.out; omega
          case rel => exact ⟨k + 1, _, by go_num, by have := HF.out; have := HF'.out; omega, rfl, rfl, ht2.out, HG2.out.wf, by have := HG2.out.many; have := HM2.out; omega, HG2.out.no, HStep.out, KA.out.trans k2.out⟩
      · have hk' : ¬ (k : Int) < (dn : Int) := by omega
        obtain rfl : k = dn := by omega
        have HE := Lib.hid (show movL most r0 x.l = r by rw [hmov, List.drop_of_length_le (by have := HLen.out; omega)]; rfl)
        clear hf hT hw hm hno hmov hK hk
        go_wp2
        go_ret2
        exact ⟨by rw [HRes.out, HE.out]; rfl, by rw [HRes.out, HE.out]; exact HT.out, HK.out⟩
end Go.Proofs.Ytchbgececcclgaa
