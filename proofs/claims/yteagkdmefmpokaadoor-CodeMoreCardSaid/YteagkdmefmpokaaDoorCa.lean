/- Caches: entries in memory; who asks whether a cell is valid. -/
import Derived.Test.YteagkdmefmpokaaDoorCw
namespace Go.Proofs.YteagkdmefmpokaaDoor
open Go.RowKit Go
set_option linter.unusedVariables false
set_option linter.unusedSimpArgs false
/-- an entry: its shape, its holder, its slot, its cell. -/
structure En where
  s : Int
  h : Int
  o : Int
  c : Int
deriving DecidableEq
def En.v (e : En) : Value := .agg #[.int .i64 e.s, .int .i64 e.h, .int .i64 e.o, .int .i64 e.c]
def En.cs (e : En) : List Value := [.int .i64 e.s, .int .i64 e.h, .int .i64 e.o, .int .i64 e.c]
def ef : List En → List Value
  | [] => []
  | e :: L => .int .i64 e.s :: .int .i64 e.h :: .int .i64 e.o :: .int .i64 e.c :: ef L
theorem ef_length (L : List En) : (ef L).length = L.length * 4 := by
  induction L with
  | nil => rfl
  | cons x L ih => simp only [ef, List.length_cons, ih]; omega
theorem ef_append (L M : List En) : ef (L ++ M) = ef L ++ ef M := by
  induction L with
  | nil => rfl
  | cons x L ih => simp only [List.cons_append, ef, ih]
theorem ef_one (L : List En) : ∀ u ∈ ef L, u.oneCell' = true := by
  induction L with
  | nil => intro u h; cases h
  | cons x L ih =>
    intro u h
    simp only [ef, List.mem_cons] at h
    rcases h with rfl | rfl | rfl | rfl | h
    · rfl
    · rfl
    · rfl
    · rfl
    · exact ih u h
theorem ef_get {L : List En} {i : Nat} {e : En} (h : L[i]? = some e) : (ef L)[i * 4]? = some (.int .i64 e.s) ∧ (ef L)[i * 4 + 1]? = some (.int .i64 e.h) ∧ (ef L)[i * 4 + 2]? = some (.int .i64 e.o) ∧ (ef L)[i * 4 + 3]? = some (.int .i64 e.c) := by
  induction L generalizing i with
  | nil => simp at h
  | cons x L ih =>
    cases i with
    | zero => simp at h; subst h; exact ⟨rfl, rfl, rfl, rfl⟩
    | succ i =>
      obtain ⟨h1, h2, h3, h4⟩ := ih (by simpa using h)
      rw [show (i + 1) * 4 = i * 4 + 1 + 1 + 1 + 1 by omega]
      exact ⟨h1, by rw [show i * 4 + 1 + 1 + 1 + 1 + 1 = (i * 4 + 1) + 1 + 1 + 1 + 1 by omega]; exact h2, by rw [show i * 4 + 1 + 1 + 1 + 1 + 2 = (i * 4 + 2) + 1 + 1 + 1 + 1 by omega]; exact h3, by rw [show i * 4 + 1 + 1 + 1 + 1 + 3 = (i * 4 + 3) + 1 + 1 + 1 + 1 by omega]; exact h4⟩
theorem add_at (b off j : Nat) (w : World) {u : Value} (h : w.cell? ((⟨b, off, none⟩ : Addr).add j) = some u) : w.cell? ⟨b, off + j, none⟩ = some u := by
  have e : (⟨b, off, none⟩ : Addr).add j = ⟨b, off + j, none⟩ := by unfold Addr.add; split <;> simp_all
  rw [e] at h; exact h
/-- an entry of a slice, as it is read. -/
structure At (w : World) (b off i : Nat) (e : En) : Prop where
  s : w.cell? ⟨b, off + i * 4, none⟩ = some (.int .i64 e.s)
  h : w.cell? ⟨b, off + i * 4 + 1, none⟩ = some (.int .i64 e.h)
  o : w.cell? ⟨b, off + i * 4 + 2, none⟩ = some (.int .i64 e.o)
  c : w.cell? ⟨b, off + i * 4 + 3, none⟩ = some (.int .i64 e.c)
theorem reads_at {w : World} {B n : Nat} {A : Option Addr} {L : List En} (h : Reads w B 4 A n (ef L)) {i : Nat} {e : En} (hi : L[i]? = some e) : ∃ b off, A = some ⟨b, off, none⟩ ∧ b < B ∧ At w b off i e := by
  have hl := h.1
  rw [ef_length] at hl
  have hlt : i < L.length := (List.getElem?_eq_some_iff.1 hi).1
  obtain ⟨ad, rfl, hb, hc⟩ := h.2 (by omega)
  obtain ⟨g1, g2, g3, g4⟩ := ef_get hi
  obtain ⟨b, off, sp⟩ := ad
  have h0 : 0 < (ef L).length := by rw [ef_length]; omega
  have hsp : sp = none := by simpa [Addr.add] using World.cell?_spot (hc 0 _ (List.getElem?_eq_getElem h0))
  subst hsp
  exact ⟨b, off, rfl, hb, add_at b off _ w (hc _ _ g1), by rw [Nat.add_assoc]; exact add_at b off _ w (hc _ _ g2), by rw [Nat.add_assoc]; exact add_at b off _ w (hc _ _ g3), by rw [Nat.add_assoc]; exact add_at b off _ w (hc _ _ g4)⟩
theorem reads_len {w : World} {B n : Nat} {A : Option Addr} {L : List En} (h : Reads w B 4 A n (ef L)) : L.length = n := by
  have hl := h.1
  rw [ef_length] at hl
  omega
/-- a function value that is asked whether a cell is valid: it answers so in every world behind this one. -/
structure Asks (w0 : World) (F : Nat) (caps : Array Value) (V : Int → Bool) : Prop where
  enter : ∀ (args : Array Value) (w : World), (callFunc F args).run Tryd.prog w = .ok (.enter F args) w
  call : ∀ (w : World) (n : Int), Below w0.heap.size w0 w → Calls Tryd.prog F (#[.int .i64 n] ++ caps) w fun e w' => e = .returned (.bool (V n)) ∧ w' = w
theorem Asks.later {w0 w1 : World} {F : Nat} {caps : Array Value} {V : Int → Bool} (h : Asks w0 F caps V) (hb : Below w0.heap.size w0 w1) : Asks w1 F caps V :=
  ⟨h.enter, fun w n k => h.call w n (hb.trans (k.mono hb.size))⟩
theorem enter_of {F : Nat} {fn : Func} (hf : Tryd.prog.funcs[F]? = some fn) (hn : (fn.name == "runtime.NumGoroutine") = false) (hb : fn.body.isNone = false) (args : Array Value) (w : World) : (callFunc F args).run Tryd.prog w = .ok (.enter F args) w := by
  simp [callFunc, go_sem, hf]
  rw [if_neg (by simpa using hn)]
  rw [if_neg (by intro c; rw [c] at hb; cases hb)]
/-- can an entry be leant on? -/
def hld (V : Int → Bool) (e : En) : Bool := e.c == -1 || V e.c
/-- does a number stand among some? -/
def has : List Int → Int → Bool
  | [], _ => false
  | x :: l, n => (x == n) || has l n
theorem ret_bool {a b : Bool} (h : a = b) : Ending.returned (.bool a) = .returned (.bool b) := by rw [h]
end Go.Proofs.YteagkdmefmpokaaDoor
