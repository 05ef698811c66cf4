/- Shapes: the document's Root and At walked. -/
import Derived.Test.YtchbgececcclgaaPk
namespace Go.Proofs.Ytchbgececcclgaa
open Go.RowKit Go
set_option linter.unusedVariables false
set_option linter.unusedSimpArgs false
theorem RTree.set32 {B : Nat} {w : World} {A : Option Addr} {n b : Nat} {L : List Sh} {cs : Array Value} (h : RTree B w A n L) (hb : Blk w b 32 cs) (hB : B ≤ b) (i : Nat) (u : Value) : RTree B (w.setCell ⟨b, i, none⟩ u) A n L :=
  h.keep3 (Kept3.set32 hb hB i u)
set_option maxRecDepth 100000 in
set_option maxHeartbeats 4000000 in
theorem rroot_calls (w : World) (B : Nat) (most : Int) (A : Option Addr) (n c : Nat) (L : List Sh) (h : RTree B w A n L) (hW : WF L) (p : Int) (hB : B ≤ w.heap.size) (hb : L.length ≤ 1000000000000) :
    Calls Try.prog 16 #[.agg #[.int .i64 most, .slice A n c], .int .u64 p] w (RGives w B most (rootP most L p)) := by
  have W1 := below_alloc (o := .cells #[.int .i64 most, .slice A n c] 32) (Below.refl w.heap.size w)
  have W2 := below_alloc (o := .cells #[.int .i64 0, .slice none 0 0] 32) W1
  have b2 := Blk.new (w.alloc (.cells #[.int .i64 most, .slice A n c] 32)) 32 #[.int .i64 0, .slice none 0 0]
  rw [size_alloc] at b2
  have LC := Lib.hid (show Calls Try.prog 28 #[.agg #[.int .i64 most, .slice A n c], .agg #[.int .u64 p, .slice none 0 0, .slice none 0 0, .slice none 0 0]] _ (RGives _ B most (layP most L ⟨p, [], []⟩)) from
    rlay_calls ((w.alloc (.cells #[.int .i64 most, .slice A n c] 32)).alloc (.cells #[.int .i64 0, .slice none 0 0] 32)) B most A n c L (h.keep (Kept.below W2 hB)) hW ⟨p, none, 0, 0, none, 0, 0, none, 0, 0, ⟨p, [], []⟩⟩ ⟨Fix.none_ _ _ _, Fix.none_ _ _ _, Fix.none_ _ _ _, rfl⟩ (Nat.le_trans hB W2.size) hb (by simp))
  have HW2 := Lib.hid W2
  have Hb2 := Lib.hid b2
  have HB := Lib.hid hB
  unfold rootP
  generalize layP most L ⟨p, [], []⟩ = r at *
  clear W1 W2 b2 h hW hB hb
  go_enter Try.func16, Try.ntmps16
  go_wp2_with (first | (go_at_call 28; (with_reducible refine LC.out.mono ?_); rintro e w1 ⟨A1, n1, c1, rfl, ht, bb⟩; obtain ⟨x0, x1, x2, x3⟩ := (Hb2.out.below bb Hb2.out.lt).two; have ht := Lib.hid ht; have bb := Lib.hid bb))
  refine bodyPost_ret (v := .tuple #[.agg #[.int .i64 most, .slice A1 n1 c1], .int .i64 r.2.1, .bool r.2.2]) (by simp [results, Try.results16, go_sem, x0, x1]) rfl ⟨_, _, _, rfl, (ht.out.set32 (Hb2.out.below bb.out Hb2.out.lt) (by have := HB.out; omega) _ _).set32 ((Hb2.out.below bb.out Hb2.out.lt).set_ 0 _) (by have := HB.out; omega) _ _, ?_⟩
  exact below_set2 (below_set2 (HW2.out.trans (bb.out.mono HW2.out.size)) (by omega)) (by omega)
def atP (L : List Sh) (n : Int) (k : ByteArray) : Int :=
  match getI L n with
  | none => -1
  | some x => plc k 0 x.l
set_option maxRecDepth 100000 in
set_option maxHeartbeats 4000000 in
theorem rat_calls (w : World) (B : Nat) (most : Int) (A : Option Addr) (n c : Nat) (L : List Sh) (h : RTree B w A n L) (hW : WF L) (i : Int) (key : ByteArray) (hB : B ≤ w.heap.size) (hb : L.length ≤ 1000000000000) :
    Calls Try.prog 29 #[.agg #[.int .i64 most, .slice A n c], .int .i64 i, .string key] w fun e w' => e = .returned (.int .i64 (atP L i key)) ∧ Below w.heap.size w w' := by
  have W1 := below_alloc (o := .cells #[.int .i64 most, .slice A n c] 32) (Below.refl w.heap.size w)
  have hlen := h.len
  cases e : getI L i with
  | none =>
    have hres : atP L i key = -1 := by unfold atP; rw [e]
    rw [hres]
    have HW1 := Lib.hid W1
    have hout := getI_none e
    rw [← hlen] at hout
    clear h hW hB hb hlen e W1 hres
    by_cases h0 : i < 0
    · clear hout
      go_enter Try.func29, Try.ntmps29
      go_wp2
      go_ret
      exact ⟨rfl, HW1.out⟩
    · have hout : (n : Int) ≤ i := by omega
      go_enter Try.func29, Try.ntmps29
      go_wp2
      go_ret
      exact ⟨rfl, HW1.out⟩
  | some x =>
    obtain ⟨h0, hx, hlt⟩ := getI_some e
    obtain ⟨j, rfl⟩ : ∃ j : Nat, i = j := ⟨i.toNat, by omega⟩
    simp only [Int.toNat_natCast] at hx
    have hres : atP L j key = plc key 0 x.l := by unfold atP; rw [e]
    rw [hres]
    obtain ⟨d, b, off, rfl, hd, rfl, hbl, e0, e1, e2, e3⟩ := h.at_ hx
    have hjn : (j : Int) < (n : Int) := by rw [hlen]; exact hlt
    have hnk := hd.nk
    have hdep := (hW.depth j _ hx).1
    have hk : d.nk ≤ 1000000000000 := by omega
    have HK := Lib.hid (hd.k.keep (Kept.below W1 hB))
    have HNk := Lib.hid hnk
    have HW1 := Lib.hid W1
    have bx := (Blk.new w 32 #[.int .i64 most, .slice (some ⟨b, off, none⟩) n c]).two
    obtain ⟨z0, z1, _, _⟩ := bx
    have f1 : (w.alloc (.cells #[.int .i64 most, .slice (some ⟨b, off, none⟩) n c] 32)).cell? ⟨b, off + j * 4 + 1, none⟩ = some (.slice d.Ak d.nk d.ck) := (World.cell?_alloc_lt w _ ⟨b, off + j * 4 + 1, none⟩ hbl).trans e1
    clear h hW hB hb hlen e W1 hres h0 hx hlt hd hbl e0 e1 e2 e3 hnk hdep
    go_enter Try.func29, Try.ntmps29
    go_wp2
    generalize (w.alloc (.cells #[.int .i64 most, .slice (some ⟨b, off, none⟩) n c] 32)) = W at *
    go_loopg [7] d.nk (fun fu ix wr => ∃ k : Nat, ix = .int .i64 k ∧ k + fu = d.nk ∧ plc key 0 d.x.l = plc key k (d.x.l.drop k) ∧ wr = W)
    case atStart => exact ⟨0, rfl, by omega, rfl, rfl⟩
    case round =>
      obtain ⟨k, rfl, hf, hp, rfl⟩ := hrel
      have HP := Lib.hid hp
      by_cases hkn : k < d.nk
      · obtain ⟨q, hq⟩ : ∃ q, d.x.l[k]? = some q := ⟨_, List.getElem?_eq_getElem (by have := HNk.out; omega)⟩
        obtain ⟨ad, u, hA, hb, hu, hc⟩ := HK.out.1.at_ hkn
        have hu' : u = .string q.k := by rw [keysV, List.getElem?_map, hq] at hu; simpa using hu.symm
        subst hu'
        obtain ⟨b2, off2, sp⟩ := ad
        have hsp : sp = none := by
          obtain ⟨ad', e1, _, h2⟩ := HK.out.1.2 (by omega)
          rw [hA] at e1
          injection e1 with e1
          subst e1
          have := World.cell?_spot (h2 0 _ (List.getElem?_eq_getElem (by have := HK.out.1.1; omega)))
          simpa [Addr.add] using this
        subst hsp
        have hc' := add_at b2 off2 k wr hc
        rw [hA] at f1
        obtain ⟨f', hf'⟩ : ∃ f', gk = f' + 1 := ⟨gk - 1, by omega⟩
        have HF' := Lib.hid hf'
        have HF := Lib.hid hf
        have HD := Lib.hid (show plc key k (d.x.l.drop k) = if q.k = key then (k : Int) else plc key (k + 1) (d.x.l.drop (k + 1)) by rw [drop_at' hq, plc])
        have hs := str_eq q.k key
        clear hp hf hf' hq hc hb hA hu
        by_cases hqk : q.k = key
        · rw [decide_eq_true hqk] at hs
          rw [if_pos hqk] at HD
          clear hqk
          go_wp2
          go_ret
          exact ⟨by rw [HP.out, HD.out]; rfl, HW1.out⟩
        · rw [decide_eq_false hqk] at hs
          rw [if_neg hqk] at HD
          clear hqk
          go_wp2
          go_roundg f'
          case measure => have := HF'.out; omega
          case rel => exact ⟨k + 1, by simp, by have := HF'.out; have := HF.out; omega, by rw [HP.out, HD.out], rfl⟩
      · have hkn' : ¬ (k : Int) < (d.nk : Int) := by omega
        clear hp
        go_wp2
        go_ret
        exact ⟨by rw [HP.out, List.drop_of_length_le (by have := HNk.out; omega)]; rfl, HW1.out⟩
end Go.Proofs.Ytchbgececcclgaa
