/- Scope: function. -/
import Derived.Test.YtlenhcmgcgccmaaDoorUo
namespace Go.Proofs.YtlenhcmgcgccmaaDoor
open Go.RowKit Go
set_option linter.unusedVariables false
set_option linter.unusedSimpArgs false
@[go_sem] theorem run_store_fn (P : Program) (w : World) (a : Addr) (m : Mode) (fn : Fn) (first captured : Array Value) : (store a (.func fn first captured) m).run P w = stored P w a (.func fn first captured) m := run_store P w a _ m rfl
theorem WIn.relb {w : World} {B : Nat} {ms : List Nat} {E : Env} {o : Out} {R : Rw} (h : WIn w B ms E o R) (ls : List (ByteArray × Bool)) (lv : Value) (hl : w.ownsRow B 99 2 lv ls.length (ls.flatMap lcells)) : WIn w B ms { E with labels := ls } o { R with lv := lv } :=
  ⟨h.sz, h.sc, h.vr, h.us, h.bl, hl, h.mlen, h.maps, h.nod, h.fnlt, h.scv⟩
theorem Gr.lnil (n p : Nat) (R : Rw) : Gr n p R { R with lv := .slice none 0 0 } := fun b hb => by
  rcases hb with hb | hb | hb | hb | hb | hb
  · exact .inl (.inl hb)
  · exact .inl (.inr (.inl hb))
  · exact .inl (.inr (.inr (.inl hb)))
  · exact .inl (.inr (.inr (.inr (.inl hb))))
  · exact .inl (.inr (.inr (.inr (.inr (.inl hb)))))
  · cases hb
theorem KidsAt.wf {w : World} {B : Nat} {v : Value} {l : List Tr} (h : KidsAt w B v l) : ∀ k ∈ l, k.wf1 := by
  cases h with
  | nil a cap hcap => intro k hk; cases hk
  | some_ b off cap l vs hb hlen hcap hne hc hw hk =>
    intro k hk
    obtain ⟨i, hi, rfl⟩ := List.getElem_of_mem hk
    exact hw i _ (List.getElem?_eq_getElem hi)
/-- a new local variable of one place or more. -/
def Lo (wx : World) (v : Value) (t : TypeId) (cs : Array Value) (n : Nat) : Prop := ∃ g, v = .pointer (some ⟨g, 0, none⟩) ∧ Blk wx g t cs ∧ n ≤ g
theorem Lo.new (w : World) (t : TypeId) (cs : Array Value) (g n : Nat) (h : w.heap.size = g) (hn : n ≤ g) : Lo (w.alloc (.cells cs t)) (.pointer (some ⟨g, 0, none⟩)) t cs n := ⟨g, rfl, by subst h; exact Blk.new w t cs, hn⟩
theorem Lo.alloc {w : World} {v : Value} {t : TypeId} {cs : Array Value} {n : Nat} (h : Lo w v t cs n) (o : Obj) : Lo (w.alloc o) v t cs n := by
  obtain ⟨g, h1, h2, h3⟩ := h
  exact ⟨g, h1, h2.alloc o, h3⟩
theorem Lo.drew {w : World} {v : Value} {t : TypeId} {cs : Array Value} {n : Nat} (h : Lo w v t cs n) : Lo w.drew v t cs n := h
theorem lv_keep {X V : World} {p B : Nat} {ms : List Nat} {E : Env} {o : Out} {R : Rw} {v : Value} {n : Nat} {xs : List Value} (h : WAt X p B ms E o R) (hr : R.lv = .slice none 0 0) (hl : X.ownsRow B 99 2 v n xs) (f : Fr (Ft p R) X V) : V.ownsRow B 99 2 v n xs :=
  own_same hl fun b e => f.keep b (own_lt hl e).2 (by
    rintro (rfl | e' | e' | e' | e' | e')
    · exact own_ne_blk hl h.blk (by decide) e rfl
    · exact own_ne_own hl h.inn.sc (by decide) e e' rfl
    · exact own_ne_own hl h.inn.vr (by decide) e e' rfl
    · exact own_ne_own hl h.inn.us (by decide) e e' rfl
    · exact own_ne_own hl h.inn.bl (by decide) e e' rfl
    · rw [hr] at e'; cases e')
theorem fn_restore {w V : World} {p B : Nat} {ms : List Nat} {E : Env} {o o3 : Out} {R R3 : Rw} {fn' : Nat} {lv : Value} (h : WAt w p B ms E o R) (hlv : R.lv = lv) (g : WAt V p B ms ⟨fn', [], 0, E.blocks⟩ o3 R3) (hl : V.ownsRow B 99 2 R.lv E.labels.length (E.labels.flatMap lcells)) (hfn : E.fn < fn') (f : Fr (Ft p R) w V) (gr : Gr w.heap.size p R R3) :
    ∃ R', WAt (((V.setCell ⟨p, 4, none⟩ (.int .i64 (E.fn : Int))).setCell ⟨p, 5, none⟩ lv).setCell ⟨p, 6, none⟩ (.int .i64 (E.loops : Int))).drew p B ms E o3 R' ∧ Fr (Ft p R) w (((V.setCell ⟨p, 4, none⟩ (.int .i64 (E.fn : Int))).setCell ⟨p, 5, none⟩ lv).setCell ⟨p, 6, none⟩ (.int .i64 (E.loops : Int))).drew ∧ Gr w.heap.size p R R' := by
  subst hlv
  refine ⟨{ R3 with lv := R.lv }, ?_, ?_, ?_⟩
  · have b1 := ((g.blk.set_ 4 (.int .i64 (E.fn : Int))).set_ 5 R.lv).set_ 6 (.int .i64 (E.loops : Int))
    have i1 := (((g.inn.recd g.blk 4 (.int .i64 (E.fn : Int))).recd (g.blk.set_ 4 _) 5 R.lv).recd ((g.blk.set_ 4 _).set_ 5 _) 6 (.int .i64 (E.loops : Int))).fr (Below.refl _ _).drew
    have l1 := own_below (Below.refl _ _).drew (own_set (own_set (own_set hl g.blk (by decide) 4 (.int .i64 (E.fn : Int))) (g.blk.set_ 4 _) (by decide) 5 R.lv) ((g.blk.set_ 4 _).set_ 5 _) (by decide) 6 (.int .i64 (E.loops : Int)))
    exact ⟨h.hp, b1.drew, ⟨i1.sz, i1.sc, i1.vr, i1.us, i1.bl, l1, i1.mlen, i1.maps, i1.nod, Nat.lt_trans hfn i1.fnlt, i1.scv⟩, g.ent⟩
  · exact (((f.set (p := p) (i := 4) (.inl (.inl rfl)) _).set (p := p) (i := 5) (.inl (.inl rfl)) _).set (p := p) (i := 6) (.inl (.inl rfl)) _).drew
  · intro b hb
    rcases hb with hb | hb | hb | hb | hb | hb
    · exact .inl (.inl hb)
    · exact gr b (.inr (.inl hb))
    · exact gr b (.inr (.inr (.inl hb)))
    · exact gr b (.inr (.inr (.inr (.inl hb))))
    · exact gr b (.inr (.inr (.inr (.inr (.inl hb)))))
    · exact .inl (.inr (.inr (.inr (.inr (.inr hb)))))
theorem fn_cut {w V : World} {p B m : Nat} {ms : List Nat} {bs : List Bk} {bk : Bk} {E : Env} {o3 : Out} {R R3 : Rw} {A : Option Addr} {n c : Nat} (hE : E.blocks = bs ++ [bk]) (g : WAt V p B (ms ++ [m]) E o3 R3) (hR : R3.bv = .slice A n c) (f : Fr (Ft p R) w V) (gr : Gr w.heap.size p R R3) :
    ∃ R', R'.lv = R3.lv ∧ WAt (V.setCell ⟨p, 3, none⟩ (.slice A bs.length c)).drew p B ms (E.at bs) o3 R' ∧ Fr (Ft p R) w (V.setCell ⟨p, 3, none⟩ (.slice A bs.length c)).drew ∧ Gr w.heap.size p R R' := by
  refine ⟨{ R3 with bv := .slice A bs.length c }, rfl, ⟨g.hp, (g.blk.set_ 3 (.slice A bs.length c)).drew, ((g.inn.cut_bl hE hR).recd g.blk 3 _).fr (Below.refl _ _).drew, fun b hb => g.ent b (by rw [hE]; exact List.mem_append_left _ hb)⟩, (f.set (p := p) (i := 3) (.inl (.inl rfl)) _).drew, gr.trans (Gr.bv_ (k := w.heap.size) (by rw [hR]; left; cases A <;> rfl) (Nat.le_refl _)) (Nat.le_refl _)⟩
end Go.Proofs.YtlenhcmgcgccmaaDoor
