/- Caches: the states of arithmetic and of calls, walked. -/
import Derived.Test.YtnljofhpofeppaaRc
import Derived.Test.YtnljofhpofeppaaCh
namespace Go.Proofs.Ytnljofhpofeppaa
open Go.RowKit Go Fp
set_option linter.unusedVariables false
set_option linter.unusedSimpArgs false
/-- a word, for arithmetic. -/
def knd (a : Int) : Int := if tg a 65529 = true then 1 else if (BitsG a).2 = true then 2 else 3
theorem knd_bd (a : Int) : 1 ≤ knd a ∧ knd a ≤ 3 := by unfold knd; split; omega; split <;> omega
set_option maxRecDepth 100000 in
theorem ckind_calls (a : Int) (w : World) (ha : U64 a) : Calls Try.prog 9 #[.int .u64 a] w fun e w' => e = .returned (.int .i64 (knd a)) ∧ Below w.heap.size w w' := by
  have K1 := IsInt_calls a w
  obtain ⟨p0, p1⟩ := pI_bd a 65529
  have K2 := Bits_calls a w ha p0 p1
  unfold knd
  generalize tg a 65529 = t at *
  generalize pI a 65529 = n at *
  generalize (BitsG a).1 = x at *
  generalize (BitsG a).2 = b at *
  replace K1 := Lib.hid K1
  replace K2 := Lib.hid K2
  clear ha p0 p1
  cases t <;> cases b
  all_goals
    go_enter Try.func9, Try.ntmps9
    go_wp2_with (first | (go_at_call 15; (with_reducible refine K1.out.mono ?_); rintro e w' ⟨rfl, hw⟩; rw [hw]; clear hw w') | (go_at_call 16; (with_reducible refine K2.out.mono ?_); rintro e w1 ⟨rfl, hb1⟩))
    go_ret
    exact ⟨rfl, hb1⟩
set_option maxRecDepth 100000 in
theorem crank_calls (a : Int) (w : World) (ha : U64 a) : Calls Try.prog 10 #[.int .u64 a] w fun e w' => e = .returned (.int .i64 (knd a)) ∧ w = w' := by
  have K1 := rIsTag_calls a 65529 ha w
  have K2 := rValue_calls a ha w
  have e1 := (isT_eq (t := 65529) ha (.inl rfl)).1
  have e2 := (bits_val ha).1
  unfold knd
  rw [e1] at K1
  rw [e2]
  clear e1 e2
  generalize tg a 65529 = t at *
  generalize isTP a 65529 = n at *
  generalize valX a = x at *
  generalize valB a = b at *
  replace K1 := Lib.hid K1
  replace K2 := Lib.hid K2
  clear ha
  cases t <;> cases b
  all_goals
    go_enter Try.func10, Try.ntmps10
    go_wp2_with (first | (go_at_call 17; (with_reducible refine K1.out.mono ?_); rintro e w' ⟨rfl, hw⟩; rw [hw]; clear hw w') | (go_at_call 18; (with_reducible refine K2.out.mono ?_); rintro e w' ⟨rfl, hw⟩; rw [hw]; clear hw w'))
    go_ret
    exact ⟨rfl, rfl⟩
/-- the greatest. -/
def grt : List Int → Int → Int
  | [], n => n
  | x :: l, n => grt l (if n < x then x else n)
set_option maxRecDepth 100000 in
set_option maxHeartbeats 4000000 in
theorem greatest_calls (w : World) (g m c : Nat) (l : List Int) (hl : l.length = m) (hm : m ≤ 3) (hc : ∀ i x, l[i]? = some x → w.cell? ⟨g, i, none⟩ = some (.int .i64 x)) :
    Calls Try.prog 8 #[.slice (some ⟨g, 0, none⟩) m c] w fun e w' => e = .returned (.int .i64 (grt l 0)) ∧ w = w' := by
  have HC := Lib.hid hc
  have HL := Lib.hid hl
  clear hc hl
  go_enter Try.func8, Try.ntmps8
  go_wp2
  go_loopg [3, 8] m (fun f n i wr => ∃ (k : Nat) (q : Int), i = .int .i64 k ∧ n = .int .i64 q ∧ k + f = m ∧ grt l 0 = grt (l.drop k) q ∧ wr = w)
  case atStart => exact ⟨0, 0, rfl, rfl, by omega, rfl, rfl⟩
  case round =>
    obtain ⟨k, q, rfl, rfl, hf, he, hw⟩ := hrel
    subst hw
    by_cases hk : k < m
    · obtain ⟨x, hx⟩ : ∃ x, l[k]? = some x := ⟨_, List.getElem?_eq_getElem (by have := HL.out; omega)⟩
      have hd : l.drop k = x :: l.drop (k + 1) := by
        obtain ⟨h1, h2⟩ := List.getElem?_eq_some_iff.1 hx
        rw [← h2]; exact List.drop_eq_getElem_cons h1
      have cx := HC.out k x hx
      have hk' : (k : Int) < m := by omega
      obtain ⟨f', hf'⟩ : ∃ f', gk = f' + 1 := ⟨gk - 1, by omega⟩
      have HF' := Lib.hid hf'
      have HF := Lib.hid hf
      have HE := Lib.hid (show grt l 0 = grt (l.drop (k + 1)) (if q < x then x else q) by rw [he, hd, grt])
      clear hx hd hf hf' he
      by_cases hq : q < x
      · have HE2 := Lib.hid (show grt l 0 = grt (l.drop (k + 1)) x by rw [HE.out, if_pos hq])
        have hmx : max q x = x := by omega
        go_wp2
        go_roundg f'
        case measure => have := HF'.out; omega
        case rel => exact ⟨k + 1, x, by simp, by first | rfl | simp, by have := HF'.out; have := HF.out; omega, HE2.out, rfl⟩
      · have HE2 := Lib.hid (show grt l 0 = grt (l.drop (k + 1)) q by rw [HE.out, if_neg hq])
        have hmx : max q x = q := by omega
        go_wp2
        go_roundg f'
        case measure => have := HF'.out; omega
        case rel => exact ⟨k + 1, q, by simp, by first | rfl | simp, by have := HF'.out; have := HF.out; omega, HE2.out, rfl⟩
    · have HE := Lib.hid he
      have hk' : ¬ (k : Int) < m := by omega
      clear he
      go_wp2
      go_ret
      exact ⟨by rw [HE.out, List.drop_of_length_le (by have := HL.out; omega)]; rfl, rfl⟩
end Go.Proofs.Ytnljofhpofeppaa
