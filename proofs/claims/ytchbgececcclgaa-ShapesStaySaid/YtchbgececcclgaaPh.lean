/- Shapes: Keys, New, Move walked. -/
import Derived.Test.YtchbgececcclgaaPg
namespace Go.Proofs.Ytchbgececcclgaa
open Go.RowKit Go
set_option linter.unusedVariables false
set_option linter.unusedSimpArgs false
theorem reads_blk0 {w : World} {b : Nat} {t : TypeId} {x : Value} (h : Blk w b t #[x]) : Reads w w.heap.size 1 (some ⟨b, 0, none⟩) 1 [x] := by
  refine ⟨rfl, fun _ => ⟨_, rfl, h.lt, fun j u hj => ?_⟩⟩
  have e : (⟨b, 0, none⟩ : Addr).add j = ⟨b, j, none⟩ := by unfold Addr.add; split <;> simp_all
  rw [e, h.cell j]
  simpa using hj
theorem blk_new2 (w : World) (o : Obj) (t : TypeId) (cs : Array Value) : Blk ((w.alloc o).alloc (.cells cs t)) (w.heap.size + 1) t cs := by
  have := Blk.new (w.alloc o) t cs
  rwa [size_alloc] at this
theorem new_tree (w : World) (most : Int) : TreeIs ((w.alloc (Obj.map #[] 0)).alloc (Obj.cells #[Value.int .i64 most, Value.slice none 0 0, Value.map (some w.heap.size)] 51)) w.heap.size (w.heap.size + 1) most [] ∧ Below w.heap.size w ((w.alloc (Obj.map #[] 0)).alloc (Obj.cells #[Value.int .i64 most, Value.slice none 0 0, Value.map (some w.heap.size)] 51)) := by
  have b := Blk.new (w.alloc (Obj.map #[] 0)) 51 #[Value.int .i64 most, Value.slice none 0 0, Value.map (some w.heap.size)]
  rw [size_alloc] at b
  refine ⟨⟨.slice none 0 0, [], w.heap.size, [], ⟨by omega, b, World.ownsRow_nil _ _ _ _, by simp, ?_, Nat.le_refl _, by simp⟩, ⟨rfl, by simp, rfl⟩⟩, below_alloc ((Below.refl _ _).alloc (Nat.le_refl _) _)⟩
  exact (MapIs.made w 23).same (Below.heap_alloc _ _ _ (by rw [size_alloc]; omega))
set_option maxRecDepth 100000 in
theorem new_calls (w : World) (most : Int) :
    Calls Try.prog 7 #[.int .i64 most] w fun e w' => ∃ g, e = .returned (.pointer (some ⟨g, 0, none⟩)) ∧ TreeIs w' w.heap.size g (max most 0) [] ∧ Below w.heap.size w w' := by
  have hmm := @run_makeMap Try.prog
  by_cases h : 0 ≤ most
  · rw [Int.max_eq_left h]
    go_enter Try.func7, Try.ntmps7
    go_wp2
    go_ret
    exact ⟨_, rfl, new_tree w most⟩
  · rw [Int.max_eq_right (by omega)]
    go_enter Try.func7, Try.ntmps7
    go_wp2
    go_ret
    exact ⟨_, rfl, new_tree w 0⟩
def keysV (l : List Pr) : List Value := l.map fun q => .string q.k
def keysP (L : List Sh) (n : Int) : List Pr :=
  match getI L n with
  | none => []
  | some x => x.l
theorem info9 : (Try.prog.info? 9).map (fun i => (i.zero, i.size, i.bytes)) = some (some (.string ⟨#[]⟩), 1, 16) := by kernel_rfl
set_option maxRecDepth 100000 in
set_option maxHeartbeats 4000000 in
theorem keys_calls (w : World) (B g : Nat) (most : Int) (L : List Sh) (h : TreeIs w B g most L) (hW : WF L) (n : Int) (hb : L.length ≤ 1000000000000) :
    Calls Try.prog 12 #[.pointer (some ⟨g, 0, none⟩), .int .i64 n] w fun e w' => ∃ A c, e = .returned (.slice A (keysP L n).length c) ∧ w'.ownsRow w.heap.size 9 1 (.slice A (keysP L n).length c) (keysP L n).length (keysV (keysP L n)) ∧ Below w.heap.size w w' := by
  have HTh := tree_there h n
  obtain ⟨i9, hi, hz0, hz1, hz2⟩ := info_parts info9
  cases e : getI L n with
  | none =>
    have hres : keysP L n = [] := by unfold keysP; rw [e]
    rw [hres]
    rw [e] at HTh
    have HTh := Lib.hid HTh
    clear h e hW hb hres
    go_enter Try.func12, Try.ntmps12
    go_wp2_with (first | (go_at_call 23; (with_reducible refine HTh.out.mono ?_); rintro e w1 ⟨rfl, rfl⟩))
    go_ret
    exact ⟨_, _, rfl, World.ownsRow_nil _ _ _ _, Below.refl _ _⟩
  | some x =>
    have hres : keysP L n = x.l := by unfold keysP; rw [e]
    rw [hres]
    rw [e] at HTh
    have HTh := Lib.hid HTh
    obtain ⟨h0, hx, hlt⟩ := getI_some e
    obtain ⟨i, rfl⟩ : ∃ i : Nat, n = i := ⟨n.toNat, by omega⟩
    simp only [Int.toNat_natCast] at hx
    obtain ⟨gs, cv, dn, dc, dm, dp, dA, o⟩ := tree_one h hW hb hx
    have c1 := o.c1
    have e1 := o.e1
    have hi2 := o.lt
    have hn := o.n
    have O := Lib.hid o
    have hlen := o.len
    have HLen := Lib.hid hlen
    rw [← hlen]
    clear h hW hb hlt h0 hx hres e o hlen
    go_enter Try.func12, Try.ntmps12
    go_wp2_with (first | (go_at_call 23; (with_reducible refine HTh.out.mono ?_); rintro e w1 ⟨rfl, rfl⟩))
    go_loopg [5, 21] dn (fun fu v ix wr => ∃ (k : Nat) (A : Option Addr) (c : Nat), ix = .int .i64 k ∧ k + fu = dn ∧ v = .slice A k c ∧ wr.ownsRow w.heap.size 9 1 (.slice A k c) k (keysV (x.l.take k)) ∧ Below w.heap.size w wr)
    case atStart => exact ⟨0, none, 0, rfl, by omega, rfl, World.ownsRow_nil _ _ _ _, Below.refl _ _⟩
    case round =>
      obtain ⟨k, A, c, rfl, hf, rfl, hown, hbel⟩ := hrel
      by_cases hk : k < dn
      · obtain ⟨q, hq⟩ : ∃ q, x.l[k]? = some q := ⟨_, List.getElem?_eq_getElem (by have := HLen.out; omega)⟩
        obtain ⟨b, off, rfl, hbl, q0, q1, hj⟩ := O.out.prop hq
        have q0' : wr.cell? ⟨b, off + k * 2, none⟩ = _ := (hbel.cell (p := ⟨b, off + k * 2, none⟩) hbl).trans q0
        have q1' : wr.cell? ⟨b, off + k * 2 + 1, none⟩ = _ := (hbel.cell (p := ⟨b, off + k * 2 + 1, none⟩) hbl).trans q1
        obtain ⟨f', hf'⟩ : ∃ f', gk = f' + 1 := ⟨gk - 1, by omega⟩
        have HF := Lib.hid hf
        have HF' := Lib.hid hf'
        have HB := Lib.hid hbel
        have HO := Lib.hid hown
        have HT := Lib.hid (show keysV (x.l.take (k + 1)) = keysV (x.l.take k) ++ [.string q.k] by rw [List.take_add_one, hq]; simp [keysV])
        clear hf hf' hq q0 q1 hbl hbel hown c1 e1
        go_wp2_with (first | (at_builtin; refine wpList_append_any _ rfl (.tmp 25) (.tmp 28) 40 rfl w.heap.size 9 i9 _ 1 16 Try.underlying40 hi hz0 hz1 hz2 rfl (by decide) _ k _ rfl ((HO.out.alloc _).alloc _) _ _ 1 1 [.string q.k] rfl (reads_blk0 (blk_new2 _ _ _ _)) (by intro u hu; simp at hu; subst hu; rfl) (by unfold maxLen; omega) (by omega) (by rw [size_alloc, size_alloc]; have := HB.out.size; omega) ?_; intro v2 w2 o2 g2 at2; obtain ⟨A2, c2, rfl⟩ := own_is_slice o2; have o2 := Lib.hid o2; have b2 := Lib.hid (((HB.out.alloc HB.out.size _).alloc (by rw [size_alloc]; have := HB.out.size; omega) _).grown g2 (by rw [size_alloc, size_alloc]; have := HB.out.size; omega) (fun j e => (HO.out.lt j e).1)); clear g2 at2))
        go_roundg f'
        case measure => have := HF'.out; omega
        case rel => exact ⟨k + 1, _, _, by go_num, by have := HF.out; have := HF'.out; omega, rfl, by rw [HT.out]; exact o2.out, b2.out⟩
      · have hk' : ¬ (k : Int) < (dn : Int) := by omega
        obtain rfl : k = dn := by omega
        have HO := Lib.hid hown
        have HB := Lib.hid hbel
        clear hown hbel hf hk
        go_wp2
        go_ret
        exact ⟨_, _, rfl, by rw [List.take_of_length_le (by have := HLen.out; omega)] at HO; exact HO.out, HB.out⟩
end Go.Proofs.Ytchbgececcclgaa
