/- Code: the document's operands. -/
import Derived.Test.YteagkdmefmpokaaDoorEb
namespace Go.Proofs.YteagkdmefmpokaaDoor
open Go.RowKit Go
set_option linter.unusedVariables false
set_option linter.unusedSimpArgs false
/-- how many things there are of an operand's kind. -/
def rmany (n : Nat) (F : Fn) (kind : Int) : Int :=
  if kind = 114 then F.hd.re else if kind = 119 then F.hd.re else if kind = 107 then F.hd.nk else if kind = 120 then F.hd.nk
  else if kind = 115 then 5 else if kind = 102 then n else if kind = 99 then F.hd.np else if kind = 98 then 14
  else if kind = 116 then F.hd.nc else if kind = 104 then 2 else 1
set_option maxRecDepth 100000 in
set_option maxHeartbeats 4000000 in
theorem rmany_calls (w : World) (A : Option Addr) (n c : Nat) (F : Fn) (kind : Int) (hl : Letter kind) :
    Calls Tryd.prog 39 #[pv A n c, F.hd.v, .int .u8 kind] w fun r w' => r = .returned (.int .i64 (rmany n F kind)) ∧ Below w.heap.size w w' := by
  have HB := Lib.hid (below_alloc (below_new w (.cells #[.slice A n c] 24)) (.cells F.hd.b 36))
  unfold Hd.v pv
  unfold Hd.b at HB
  rcases hl with rfl | rfl | rfl | rfl | rfl | rfl | rfl | rfl | rfl | rfl | rfl | rfl
  · rw [show rmany n F 114 = F.hd.re from rfl]
    go_enter Tryd.func39, Tryd.ntmps39
    go_wp2
    go_ret
    exact ⟨rfl, HB.out⟩
  · rw [show rmany n F 119 = F.hd.re from rfl]
    go_enter Tryd.func39, Tryd.ntmps39
    go_wp2
    go_ret
    exact ⟨rfl, HB.out⟩
  · rw [show rmany n F 107 = F.hd.nk from rfl]
    go_enter Tryd.func39, Tryd.ntmps39
    go_wp2
    go_ret
    exact ⟨rfl, HB.out⟩
  · rw [show rmany n F 120 = F.hd.nk from rfl]
    go_enter Tryd.func39, Tryd.ntmps39
    go_wp2
    go_ret
    exact ⟨rfl, HB.out⟩
  · rw [show rmany n F 115 = 5 from rfl]
    go_enter Tryd.func39, Tryd.ntmps39
    go_wp2
    go_ret
    exact ⟨rfl, HB.out⟩
  · rw [show rmany n F 102 = n from rfl]
    go_enter Tryd.func39, Tryd.ntmps39
    go_wp2
    go_ret
    exact ⟨rfl, HB.out⟩
  · rw [show rmany n F 99 = F.hd.np from rfl]
    go_enter Tryd.func39, Tryd.ntmps39
    go_wp2
    go_ret
    exact ⟨rfl, HB.out⟩
  · rw [show rmany n F 98 = 14 from rfl]
    go_enter Tryd.func39, Tryd.ntmps39
    go_wp2
    go_ret
    exact ⟨rfl, HB.out⟩
  · rw [show rmany n F 116 = F.hd.nc from rfl]
    go_enter Tryd.func39, Tryd.ntmps39
    go_wp2
    go_ret
    exact ⟨rfl, HB.out⟩
  · rw [show rmany n F 104 = 2 from rfl]
    go_enter Tryd.func39, Tryd.ntmps39
    go_wp2
    go_ret
    exact ⟨rfl, HB.out⟩
  · rw [show rmany n F 110 = 1 from rfl]
    go_enter Tryd.func39, Tryd.ntmps39
    go_wp2
    go_ret
    exact ⟨rfl, HB.out⟩
  · rw [show rmany n F 45 = 1 from rfl]
    go_enter Tryd.func39, Tryd.ntmps39
    go_wp2
    go_ret
    exact ⟨rfl, HB.out⟩
theorem box3 {w W : World} {o1 o3 : Obj} {t : TypeId} {cs : Array Value} (b : Below (((w.alloc o1).alloc (.cells cs t)).alloc o3).heap.size (((w.alloc o1).alloc (.cells cs t)).alloc o3) W) (i : Nat) : W.cell? ⟨w.heap.size + 1, i, none⟩ = cs[i]? := by
  have B := (Blk.new (w.alloc o1) t cs).alloc o3
  have := (B.below b B.lt).cell i
  rwa [size_alloc] at this
theorem wrap_far {b x : Int} (h0 : 0 ≤ b) (h1 : b < 400) (h2 : 1000000 < x) (h3 : x ≤ 9223372036854775807) (m : Int) (hm : m ≤ 400) : within (wrap64 (b + 1 + x)) m = false := by
  unfold within wrap64; simp only [Bool.and_eq_false_iff, decide_eq_false_iff_not]; omega
theorem wrap_near {b x : Int} (h0 : 0 ≤ b) (h1 : b < 400) (h2 : x ≤ 1000000) (h3 : 0 ≤ x) (m : Int) : within (wrap64 (b + 1 + x)) m = decide (b + 1 + x < m) := by
  have : wrap64 (b + 1 + x) = b + 1 + x := by unfold wrap64; omega
  rw [this]; unfold within; rw [show decide (0 ≤ b + 1 + x) = true by simp; omega, Bool.true_and]
theorem within_neg {x m : Int} (h : x < 0) : within x m = false := by unfold within; simp; omega
theorem within_ge {x m : Int} (h : ¬ x < m) : within x m = false := by unfold within; simp; omega
theorem within_lt {x m : Int} (h0 : ¬ x < 0) (h : x < m) : within x m = true := by unfold within; simp; omega
set_option maxRecDepth 100000 in
set_option maxHeartbeats 4000000 in
theorem roperand_calls (w : World) (A : Option Addr) (n c : Nat) (F : Fn) (hF : F.Is w) (e : En) (kind x : Int) (hl : Letter kind) (hx1 : x ≤ 9223372036854775807) (hr : F.hd.re ≤ 400) (hb : kind = 110 → 0 ≤ e.o ∧ e.o < 400) :
    Calls Tryd.prog 34 #[pv A n c, F.hd.v, e.v, .int .u8 kind, .int .i64 x] w fun r w' => r = .returned (.bool (opd n F e.o kind x)) ∧ Below w.heap.size w w' := by
  have HB := Lib.hid (below_alloc (below_alloc (below_new w (.cells #[.slice A n c] 24)) (.cells F.hd.b 36)) (.cells #[.int .i64 e.s, .int .i64 e.h, .int .i64 e.o, .int .i64 e.c] 38))
  have hlk := reads_lenK hF.con
  have HR := Lib.hid (fun (W : World) (b : Below (((w.alloc (.cells #[.slice A n c] 24)).alloc (.cells F.hd.b 36)).alloc (.cells #[.int .i64 e.s, .int .i64 e.h, .int .i64 e.o, .int .i64 e.c] 38)).heap.size (((w.alloc (.cells #[.slice A n c] 24)).alloc (.cells F.hd.b 36)).alloc (.cells #[.int .i64 e.s, .int .i64 e.h, .int .i64 e.o, .int .i64 e.c] 38)) W) => ((((hF.later (below_new w (.cells #[.slice A n c] 24))).later (below_new _ (.cells F.hd.b 36))).later (below_new _ (.cells #[.int .i64 e.s, .int .i64 e.h, .int .i64 e.o, .int .i64 e.c] 38))).later b).con)
  have HLK := Lib.hid hlk
  have HT := Lib.hid (fun y => show txt F y = ((F.K[y.toNat]?).map Cn.t).getD false from rfl)
  have HC := Lib.hid (fun (W : World) (b : Below (((w.alloc (.cells #[.slice A n c] 24)).alloc (.cells F.hd.b 36)).alloc (.cells #[.int .i64 e.s, .int .i64 e.h, .int .i64 e.o, .int .i64 e.c] 38)).heap.size (((w.alloc (.cells #[.slice A n c] 24)).alloc (.cells F.hd.b 36)).alloc (.cells #[.int .i64 e.s, .int .i64 e.h, .int .i64 e.o, .int .i64 e.c] 38)) W) => show W.cell? ⟨w.heap.size + 1, 5, none⟩ = some (.slice F.hd.Ak F.hd.nk F.hd.ck) from (box3 b 5).trans rfl)
  clear hF hlk
  by_cases hn : kind = 110
  · subst hn
    obtain ⟨b0, b1⟩ := hb rfl
    rw [opd_n]
    clear hb HR HT HC
    unfold Hd.v En.v pv
    unfold Hd.b at HB
    by_cases h0 : 0 ≤ x
    · rw [show decide (0 ≤ x) = true by simpa using h0, Bool.true_and]
      by_cases h1 : x ≤ 1000000
      · rw [wrap_near b0 b1 h1 h0]
        go_enter Tryd.func34, Tryd.ntmps34
        go_wp2_with fail
        go_ret
        exact ⟨rfl, HB.out⟩
      · rw [wrap_far b0 b1 (by omega) hx1 _ hr]
        go_enter Tryd.func34, Tryd.ntmps34
        go_wp2_with fail
        go_ret
        exact ⟨rfl, HB.out⟩
    · rw [show decide (0 ≤ x) = false by simpa using h0, Bool.false_and]
      go_enter Tryd.func34, Tryd.ntmps34
      go_wp2_with fail
      go_ret
      exact ⟨rfl, HB.out⟩
  · have KM := Lib.hid (fun W : World => rmany_calls W A n c F kind hl)
    have hx : opd n F e.o kind x = if x < 0 then false else if x < rmany n F kind then (if kind = 120 then txt F x else if kind = 102 then decide (0 < x) else true) else false := by
      by_cases h0 : x < 0
      · rw [if_pos h0]
        rcases hl with rfl | rfl | rfl | rfl | rfl | rfl | rfl | rfl | rfl | rfl | rfl | rfl
        · exact within_neg h0
        · exact within_neg h0
        · exact within_neg h0
        · rw [opd_x, within_neg h0]; rfl
        · exact within_neg h0
        · rw [opd_f, within_neg h0]; rfl
        · exact within_neg h0
        · exact within_neg h0
        · exact within_neg h0
        · exact within_neg h0
        · exact absurd rfl hn
        · rw [opd_0]; simp; omega
      · rw [if_neg h0]
        rcases hl with rfl | rfl | rfl | rfl | rfl | rfl | rfl | rfl | rfl | rfl | rfl | rfl
        all_goals first | (exfalso; exact hn rfl) | skip
        · rw [opd_r, show rmany n F 114 = F.hd.re from rfl]
          by_cases h1 : x < F.hd.re
          · rw [if_pos h1, within_lt h0 h1]; rfl
          · rw [if_neg h1, within_ge h1]
        · rw [opd_w, show rmany n F 119 = F.hd.re from rfl]
          by_cases h1 : x < F.hd.re
          · rw [if_pos h1, within_lt h0 h1]; rfl
          · rw [if_neg h1, within_ge h1]
        · rw [opd_k, show rmany n F 107 = F.hd.nk from rfl]
          by_cases h1 : x < F.hd.nk
          · rw [if_pos h1, within_lt h0 h1]; rfl
          · rw [if_neg h1, within_ge h1]
        · rw [opd_x, show rmany n F 120 = F.hd.nk from rfl]
          by_cases h1 : x < F.hd.nk
          · rw [if_pos h1, within_lt h0 h1]; rfl
          · rw [if_neg h1, within_ge h1]; rfl
        · rw [opd_s, show rmany n F 115 = 5 from rfl]
          by_cases h1 : x < 5
          · rw [if_pos h1, within_lt h0 h1]; rfl
          · rw [if_neg h1, within_ge h1]
        · rw [opd_f, show rmany n F 102 = n from rfl]
          by_cases h1 : x < n
          · rw [if_pos h1, within_lt h0 h1]; rfl
          · rw [if_neg h1, within_ge h1]; rfl
        · rw [opd_c, show rmany n F 99 = F.hd.np from rfl]
          by_cases h1 : x < F.hd.np
          · rw [if_pos h1, within_lt h0 h1]; rfl
          · rw [if_neg h1, within_ge h1]
        · rw [opd_b, show rmany n F 98 = 14 from rfl]
          by_cases h1 : x < 14
          · rw [if_pos h1, within_lt h0 h1]; rfl
          · rw [if_neg h1, within_ge h1]
        · rw [opd_t, show rmany n F 116 = F.hd.nc from rfl]
          by_cases h1 : x < F.hd.nc
          · rw [if_pos h1, within_lt h0 h1]; rfl
          · rw [if_neg h1, within_ge h1]
        · rw [opd_h, show rmany n F 104 = 2 from rfl]
          by_cases h1 : x < 2
          · rw [if_pos h1, within_lt h0 h1]; rfl
          · rw [if_neg h1, within_ge h1]
        · rw [opd_0, show rmany n F 45 = 1 from rfl]
          by_cases h1 : x < 1
          · rw [if_pos h1]; simp; omega
          · rw [if_neg h1]; simp; omega
    rw [hx]
    have hkn : (kind == 110) = false := by simpa using hn
    clear hx hb hl hn
    unfold Hd.v En.v pv at *
    unfold Hd.b at *
    by_cases h0 : x < 0
    · rw [if_pos h0]
      clear HR HT HC KM
      go_enter Tryd.func34, Tryd.ntmps34
      go_wp2_with fail
      go_ret
      exact ⟨rfl, HB.out⟩
    · rw [if_neg h0]
      by_cases h1 : x < rmany n F kind
      · rw [if_pos h1]
        by_cases hk : kind = 120
        · subst hk
          rw [if_pos rfl]
          have h1' : x < F.hd.nk := h1
          obtain ⟨k, rfl⟩ : ∃ k : Nat, x = k := ⟨x.toNat, by omega⟩
          obtain ⟨y, hy⟩ : ∃ y, F.K[k]? = some y := ⟨_, List.getElem?_eq_getElem (by have := HLK.out; omega)⟩
          have ht : txt F (k : Int) = y.t := by rw [HT.out]; simp [hy]
          have HY := Lib.hid hy
          rw [ht]
          obtain ⟨b, off, hA⟩ : ∃ b off, F.hd.Ak = some ⟨b, off, none⟩ := by
            obtain ⟨b, off, hA, _⟩ := reads_atK (HR.out _ (Below.refl _ _)) hy
            exact ⟨b, off, hA⟩
          have HA := Lib.hid hA
          rw [hA] at HB KM HC HR ⊢
          generalize rmany n F 120 = M at *
          clear hy ht HT hA
          go_enter Tryd.func34, Tryd.ntmps34
          go_wp2_with (go_at_call 39; (with_reducible refine (KM.out _).mono ?_); rintro r w1 ⟨rfl, hb1⟩; have c5 := HC.out w1 hb1; obtain ⟨b', off', hA', _, ⟨k0, _, _⟩⟩ := reads_atK (HR.out w1 hb1) HY.out; cases hA')
          go_ret
          exact ⟨rfl, below_via HB.out hb1⟩
        · rw [if_neg hk]
          have hkx : (kind == 120) = false := by simpa using hk
          generalize rmany n F kind = M at *
          clear HR HT HC hk
          by_cases hf : kind = 102
          · subst hf
            rw [if_pos rfl]
            go_enter Tryd.func34, Tryd.ntmps34
            go_wp2_with (go_at_call 39; (with_reducible refine (KM.out _).mono ?_); rintro r w1 ⟨rfl, hb1⟩)
            go_ret
            exact ⟨rfl, below_via HB.out hb1⟩
          · rw [if_neg hf]
            have hkf : (kind != 102) = true := by simpa using hf
            clear hf
            go_enter Tryd.func34, Tryd.ntmps34
            go_wp2_with (go_at_call 39; (with_reducible refine (KM.out _).mono ?_); rintro r w1 ⟨rfl, hb1⟩)
            go_ret
            exact ⟨rfl, below_via HB.out hb1⟩
      · rw [if_neg h1]
        generalize rmany n F kind = M at *
        clear HR HT HC
        go_enter Tryd.func34, Tryd.ntmps34
        go_wp2_with (go_at_call 39; (with_reducible refine (KM.out _).mono ?_); rintro r w1 ⟨rfl, hb1⟩)
        go_ret
        exact ⟨rfl, below_via HB.out hb1⟩
end Go.Proofs.YteagkdmefmpokaaDoor
