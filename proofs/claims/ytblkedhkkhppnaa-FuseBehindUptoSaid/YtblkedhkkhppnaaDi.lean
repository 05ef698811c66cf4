/- Fuse: the document's Groups, walked. -/
import Derived.Test.YtblkedhkkhppnaaDh
namespace Go.Proofs.Ytblkedhkkhppnaa
open Go.RowKit Go
set_option linter.unusedVariables false
set_option linter.unusedSimpArgs false
theorem in_calls' (w : World) (A : Option Addr) (m c : Nat) (l : List Int) (n : Int) (hr : Reads w w.heap.size 1 A m (ints l)) (hm : m ≤ 140737488351232) :
    Calls Try.prog 15 #[.slice A m c, .int .i64 n] w fun e w' => e = .returned (.bool (has l n)) ∧ w = w' := (in_calls w A m c l n hr hm).mono fun _ _ h => ⟨h.1, h.2.symm⟩
/-- so far in looking for the next start. -/
def Sofar (J : Int → Bool) (n k m : Nat) : Prop := m = 1 ∨ (m = 2 ∧ k + 1 < n ∧ J ((k : Int) + 1) = false) ∨ (m = 3 ∧ (k + 1 < n ∧ J ((k : Int) + 1) = false) ∧ k + 2 < n ∧ J ((k : Int) + 2) = false)
theorem sofar_end {J : Int → Bool} {n k m : Nat} (h : Sofar J n k m) (he : m = 3 ∨ ¬ k + m < n ∨ J ((k : Int) + m) = true) : m = span J n k := by
  unfold span
  rcases h with rfl | ⟨rfl, h1, h2⟩ | ⟨rfl, ⟨h1, h2⟩, h3, h4⟩
  · rcases he with he | he | he
    · omega
    · rw [if_neg (by omega)]
    · rw [if_neg]; rintro ⟨_, g⟩; rw [show ((1 : Nat) : Int) = 1 by rfl, g] at he; cases he
  · rw [if_pos ⟨h1, h2⟩]
    rcases he with he | he | he
    · omega
    · rw [if_neg (by omega)]
    · rw [if_neg]; rintro ⟨_, g⟩; rw [show ((2 : Nat) : Int) = 2 by rfl, g] at he; cases he
  · rw [if_pos ⟨h1, h2⟩, if_pos ⟨h3, h4⟩]
theorem sofar_step {J : Int → Bool} {n k m : Nat} (h : Sofar J n k m) (h3 : m < 3) (h1 : k + m < n) (hJ : J ((k : Int) + m) = false) : Sofar J n k (m + 1) := by
  rcases h with rfl | ⟨rfl, g1, g2⟩ | ⟨rfl, _⟩
  · exact .inr (.inl ⟨rfl, h1, hJ⟩)
  · exact .inr (.inr ⟨rfl, ⟨g1, g2⟩, h1, hJ⟩)
  · omega
set_option maxRecDepth 100000 in
set_option maxHeartbeats 8000000 in
theorem rgroups_calls (w : World) (h : Hd) (C : List En) (T : List Tr) (hi : h.Is w C T) :
    Calls Try.prog 8 #[h.v] w fun e w' => ∃ A n c, e = .returned (.slice A n c) ∧ Reads w' w'.heap.size 3 A n (tf (grps (has (jmp C ++ tgt T)) C)) ∧ Below w.heap.size w w' := by
  have hl := reads_len hi.code
  have hnc := hi.nc
  have hnh := hi.nh
  have B0 := Lib.hid (below_new w (.cells h.b 27))
  have K1 := rstarts_calls (h.box w) h C T (hi.later B0.out)
  have HI := Lib.hid hi
  have HL := Lib.hid hl
  have HALL := Lib.hid (fun (wr : World) (b : Below (h.box w).heap.size (h.box w) wr) => Hd.eight (h.all b))
  unfold Hd.box Hd.b Hd.v at K1
  replace K1 := Lib.hid K1
  obtain ⟨j4, hj3, hj1, hj2, hj5⟩ := info_parts info32
  unfold Hd.v
  clear hi hl
  go_enter Try.func8, Try.ntmps8
  go_wp2_with (first | (go_at_call 14; (with_reducible refine K1.out.mono ?_); rintro r w1 ⟨As, ns, cs, S, rfl, hrd, hm, hns, hb1⟩; have HB1 := Lib.hid hb1; have HM := Lib.hid hm; have HRD := Lib.hid hrd; have BN := Lib.hid (Bag3.none_ w1); obtain ⟨i0, i1, i2, i3, i4, i5, i6, i7, ilt⟩ := HALL.out w1 hb1; clear hb1 hm hrd))
  go_loopg [4, 5] h.nc (fun f l i wr => ∃ (k n : Nat) (A : Option Addr) (c : Nat) (L : List Tr), i = .int .i64 k ∧ l = .slice A n c ∧ h.nc ≤ k + f ∧ k ≤ h.nc ∧ n ≤ k ∧ Bag3 w1 wr (.slice A n c) n L ∧ L ++ grp (has (jmp C ++ tgt T)) C C.length k = grps (has (jmp C ++ tgt T)) C)
  case atStart => exact ⟨0, 0, none, 0, [], rfl, rfl, by omega, by omega, by omega, BN.out, rfl⟩
  case round =>
    clear i0 i1 i2 i3 i4 i5 i6 i7 ilt
    obtain ⟨k, n, A, c, L, rfl, rfl, hf, hk, hn, hB, he⟩ := hrel
    have HB := Lib.hid hB
    have HE := Lib.hid he
    have HF := Lib.hid hf
    obtain ⟨i0, i1, i2, i3, i4, i5, i6, i7, ilt⟩ := HALL.out wr (below_via HB1.out hB.bel)
    have hlen := hB.len
    by_cases hkn : k < h.nc
    · have hkn' : (k : Int) < h.nc := by omega
      clear hB he hf
      have KI := Lib.hid (fun (z : Int) => in_calls' wr As ns cs S z ((HRD.out.below HB.out.bel).more HB.out.bel.size) (by omega))
      have HJ := Lib.hid (has_eq (L := S) (M := jmp C ++ tgt T) (fun y => by rw [List.mem_append]; exact HM.out y))
      have KK := Lib.hid (fun (r : Nat) (h1 : 1 ≤ r) (h3 : r ≤ 3) (hk : k + r ≤ h.nc) => kind_calls wr h C T (HI.out.later (below_via B0.out (below_via HB1.out HB.out.bel))) k r h1 h3 hk)
      go_upto_block 2 with (fail)
      go_cut [6] from 16 to 36 (fun s wx => s = .int .i64 (span (has (jmp C ++ tgt T)) h.nc k) ∧ wx = wr)
      case first =>
        go_wp2
        go_loopg [6] 3 (fun f r wx => ∃ m : Nat, r = .int .i64 m ∧ m + f = 4 ∧ Sofar (has (jmp C ++ tgt T)) h.nc k m ∧ wx = wr)
        case atStart => exact ⟨1, rfl, by omega, .inl rfl, rfl⟩
        case round =>
          obtain ⟨m, rfl, hfm, hs, rfl⟩ := hrel
          have HS := Lib.hid hs
          clear hs
          by_cases h3 : m < 3
          · have h3' : (m : Int) < 3 := by omega
            by_cases h1 : k + m < h.nc
            · have h1' : (k : Int) + m < h.nc := by omega
              have hwr : IntKind.i64.wrap ((k : Int) + m) = (k : Int) + m := IntWalk.i64_in _ (by omega)
              have K2 := KI.out ((k : Int) + m)
              rw [HJ.out] at K2
              cases hJ : has (jmp C ++ tgt T) ((k : Int) + m)
              · rw [hJ] at K2
                replace K2 := Lib.hid K2
                have HJ2 := Lib.hid hJ
                clear hJ
                obtain ⟨f', hf'⟩ : ∃ f', gk = f' + 1 := ⟨gk - 1, by omega⟩
                go_wp2_with (first | (go_at_call 15; (with_reducible refine K2.out.mono ?_); rintro e w' ⟨rfl, rfl⟩))
                go_roundg f'
                case measure => omega
                case rel => exact ⟨m + 1, by simp, by omega, sofar_step HS.out h3 h1 HJ2.out, rfl⟩
              · rw [hJ] at K2
                replace K2 := Lib.hid K2
                have HJ2 := Lib.hid hJ
                clear hJ
                go_wp2_with (first | (go_at_call 15; (with_reducible refine K2.out.mono ?_); rintro e w' ⟨rfl, rfl⟩))
                go_meet
                exact ⟨congrArg (fun q : Nat => Value.int .i64 q) (sofar_end HS.out (.inr (.inr HJ2.out))), rfl⟩
            · have h1' : ¬ (k : Int) + m < h.nc := by omega
              go_wp2
              go_meet
              exact ⟨congrArg (fun q : Nat => Value.int .i64 q) (sofar_end HS.out (.inr (.inl h1))), rfl⟩
          · have h3' : ¬ (m : Int) < 3 := by omega
            obtain rfl : m = 3 := by rcases HS.out with h | ⟨h, _⟩ | ⟨h, _⟩ <;> omega
            go_wp2
            go_meet
            exact ⟨congrArg (fun q : Nat => Value.int .i64 q) (sofar_end HS.out (.inl rfl)), rfl⟩
      case rest =>
        obtain ⟨rfl, hw⟩ := hcut
        rw [hw]
        clear hw
        obtain ⟨g1, g2, g3⟩ := gat_bd (has (jmp C ++ tgt T)) C k (by have := HL.out; omega)
        have hst := grp_step (has (jmp C ++ tgt T)) C k (by have := HL.out; omega)
        have hsp := span_bd (has (jmp C ++ tgt T)) h.nc k hkn
        have K3 := KK.out (span (has (jmp C ++ tgt T)) h.nc k) hsp.1 hsp.2.1 hsp.2.2
        rw [HL.out] at g3
        have hpg : pat ((C.drop k).take (span (has (jmp C ++ tgt T)) h.nc k)) = gat (has (jmp C ++ tgt T)) C k := by unfold gat; rw [HL.out]
        rw [hpg] at K3
        generalize span (has (jmp C ++ tgt T)) h.nc k = sp at *
        generalize gat (has (jmp C ++ tgt T)) C k = gg at *
        obtain ⟨q1, q2⟩ := gg
        simp only at g1 g2 g3 hst K3 ⊢
        obtain ⟨q, rfl⟩ : ∃ q : Nat, q2 = q := ⟨q2.toNat, by omega⟩
        simp only [Int.toNat_natCast] at hst
        unfold Hd.v at K3
        replace K3 := Lib.hid K3
        have hkq : k + q ≤ h.nc := by omega
        have hE2 : (L ++ [⟨k, q, q1⟩]) ++ grp (has (jmp C ++ tgt T)) C C.length (k + q) = grps (has (jmp C ++ tgt T)) C := by rw [← HE.out, hst, List.append_assoc]; rfl
        have HE2 := Lib.hid hE2
        obtain ⟨f', hf'⟩ : ∃ f', gk = f' + 1 := ⟨gk - 1, by have := HF.out; omega⟩
        have HF' := Lib.hid hf'
        clear hst hsp hE2 hpg hf'
        go_wp2_with (first | (go_at_call 16; (with_reducible refine K3.out.mono ?_); rintro e wd ⟨rfl, hb7⟩; have HB2 := Lib.hid (HB.out.later hb7); have ro := Lib.hid (own_below (below_new wd (.cells #[.int .i64 k, .int .i64 q, .int .i64 q1] 32)) HB2.out.own)) | (at_builtin; refine wpList_append_any _ rfl (.tmp 44) (.tmp 49) 28 rfl _ 32 j4 _ 3 24 Try.underlying28 hj3 hj1 hj2 hj5 rfl (by decide) _ _ _ rfl ro.out _ _ 1 1 (tf [⟨k, q, q1⟩]) rfl (Reads_tr wd k q q1) (tf_one _) (by unfold maxLen; omega) (by omega) (by have := HB2.out.bel.size; exact le_alloc this _) ?_; intro v1 w1 hown hgrow _; have M1 := Lib.hid ((HB2.out.later (below_new _ _)).grow hgrow hown); obtain ⟨A1, cc1, rfl, _⟩ := own_slice hown; clear hown hgrow))
        go_roundg f'
        case measure => have := HF'.out; omega
        case rel => exact ⟨k + q, n + 1, A1, cc1, _, by simp, rfl, by have := HF'.out; have := HF.out; omega, hkq, by omega, M1.out, HE2.out⟩
    · have hkn' : ¬ (k : Int) < h.nc := by omega
      have hend := grp_end (has (jmp C ++ tgt T)) C k (by have := HL.out; omega)
      rw [hend, List.append_nil] at he
      replace HE := Lib.hid he
      clear hB he hf hend
      go_wp2
      go_ret
      exact ⟨A, n, ⟨c, rfl⟩, by rw [← HE.out]; exact HB.out.rd, below_via B0.out (below_via HB1.out HB.out.bel)⟩
end Go.Proofs.Ytblkedhkkhppnaa
