/- Scope: expression, its kids one by one. -/
import Derived.Test.YtlenhcmgcgccmaaDoorUf
import Derived.Test.YtlenhcmgcgccmaaDoorRh
namespace Go.Proofs.YtlenhcmgcgccmaaDoor
open Go.RowKit Go
set_option linter.unusedVariables false
set_option linter.unusedSimpArgs false
theorem Gr.mono {n n' p : Nat} {R R' : Rw} (h : Gr n' p R R') (hn : n ≤ n') : Gr n p R R' := fun b hb => (h b hb).imp id fun x => by omega
theorem WP.of_below {w V : World} {p B : Nat} {ms : List Nat} {E : Env} {R : Rw} {r : Except Er Out} {e : Ending} {w' : World} (hb : Below w.heap.size w V) (hB : B ≤ w.heap.size) (h : WP V p B ms E R r e w') : WP w p B ms E R r e w' :=
  ⟨fun x hx => by
    obtain ⟨h1, R', h2, h3, h4⟩ := h.1 x hx
    exact ⟨h1, R', h2, (Fr.of_below hb).tr h3, h4.mono hb.size⟩, fun c hc => ⟨(h.2 c hc).1, (hb.mono hB).trans (h.2 c hc).2⟩⟩
def Out.len (o : Out) : Nat := o.uses.length + o.vars.length + o.scopes.length
def bnd (E : Env) (o : Out) : Nat := o.len + E.blocks.length + E.labels.length + E.loops
/-- how much a tree adds. -/
structure LenW (F : WF) : Prop where
  st : ∀ (E : Env) (t : Tr) (o o' : Out), F.st E t o = .ok o' → o'.len + 1 ≤ o.len + 4 * t.size
  ex : ∀ (E : Env) (t : Tr) (o o' : Out), F.ex E t o = .ok o' → o'.len + 1 ≤ o.len + 4 * t.size
abbrev WCall (f : Nat) (w : World) (p B : Nat) (ms : List Nat) (E : Env) (R : Rw) (t : Tr) (kv : Value) (r : Except Er Out) : Prop :=
  Calls Tryd.prog f #[.pointer (some ⟨p, 0, none⟩), .agg #[.int .i64 t.kind, .int .i64 t.at_, .string t.name, .int .u64 t.num, .string t.op, kv]] w (WP w p B ms E R r)
structure GoodW (F : WF) (n : Nat) : Prop where
  st : ∀ (w : World) (p B : Nat) (ms : List Nat) (E : Env) (o : Out) (R : Rw) (t : Tr) (kv : Value), WAt w p B ms E o R → 0 < E.blocks.length → bnd E o + 9 * t.size ≤ 2000000 → KidsAt w B kv t.kids → t.wf1 → t.fitsD n = true → OkS t → WCall 28 w p B ms E R t kv (F.st E t o)
  ex : ∀ (w : World) (p B : Nat) (ms : List Nat) (E : Env) (o : Out) (R : Rw) (t : Tr) (kv : Value), WAt w p B ms E o R → 0 < E.blocks.length → bnd E o + 9 * t.size ≤ 2000000 → KidsAt w B kv t.kids → t.wf1 → t.fitsD n = true → OkX t → WCall 41 w p B ms E R t kv (F.ex E t o)
/-- a function's contract, one level higher. -/
def GoodFn (F : WF) (n : Nat) : Prop := ∀ (w : World) (p B : Nat) (ms : List Nat) (E : Env) (o : Out) (R : Rw) (t : Tr) (kv : Value), WAt w p B ms E o R → 0 < E.blocks.length → bnd E o + 9 * t.size ≤ 2000000 → KidsAt w B kv t.kids → t.wf1 → t.fitsD (n + 1) = true → (∃ body, t.kids.getLast? = some body ∧ body.kind = 44 ∧ (∀ k ∈ body.kids, OkS k) ∧ ∀ k ∈ t.kids.dropLast, k.kind = 3 ∧ k.kids = []) → WCall 40 w p B ms E R t kv (functionW F E t o)
theorem sizes_rest {l : List Tr} {j : Nat} {k : Tr} (h : l[j]? = some k) : l.length + Tr.sizes (l.take j) + k.size ≤ j + 1 + Tr.sizes l := by
  have h1 := Tr.sizes_append (l.take (j + 1)) (l.drop (j + 1))
  rw [List.take_append_drop, take_succ_at h, Tr.sizes_append, Tr.sizes_cons, Tr.sizes_nil] at h1
  have h2 := Tr.length_le_sizes (l.drop (j + 1))
  rw [List.length_drop] at h2
  have := (List.getElem?_eq_some_iff.1 h).1
  omega
theorem seqM_ok {f g : WM} {o o' : Out} (h : f o = .ok o') : seqM f g o = g o' := by unfold seqM; rw [h]
theorem seqM_err {f g : WM} {o : Out} {c : Er} (h : f o = .error c) : seqM f g o = .error c := by unfold seqM; rw [h]
theorem eachM_len {F : Tr → WM} {L : List Tr} (hF : ∀ t ∈ L, ∀ o o', F t o = .ok o' → o'.len + 1 ≤ o.len + 4 * t.size) : ∀ (o o' : Out), eachM F L o = .ok o' → o'.len + L.length ≤ o.len + 4 * Tr.sizes L := by
  induction L with
  | nil => intro o o' h; injection h with h; subst h; simp
  | cons t L ih =>
    intro o o' h
    rw [eachM] at h
    cases h1 : F t o with
    | error c => rw [seqM_err h1] at h; cases h
    | ok o1 =>
      rw [seqM_ok h1] at h
      have := hF t (by simp) o o1 h1
      have := ih (fun x hx => hF x (by simp [hx])) o1 o' h
      rw [Tr.sizes_cons, List.length_cons]; omega
set_option maxRecDepth 100000 in
set_option maxHeartbeats 8000000 in
theorem exEach {F : WF} {n : Nat} (G : GoodW F n) (L : LenW F) (w : World) (p B : Nat) (ms : List Nat) (E : Env) (o : Out) (R : Rw) (t : Tr) (kv : Value) (h : WAt w p B ms E o R) (hne : 0 < E.blocks.length) (hbd : bnd E o + 9 * t.size ≤ 2000000) (hk : KidsAt w B kv t.kids) (hwf : t.wf1) (hd : t.fitsD (n + 1) = true) (h3 : ¬ t.kind = 3) (h12 : ¬ t.kind = 12) (h17 : ¬ t.kind = 17) (h21 : ¬ t.kind = 21) (hok : ∀ k ∈ t.kids, OkX k) :
    WCall 41 w p B ms E R t kv (exW F E t o) := by
  have hgo : exW F E t o = eachM (F.ex E) t.kids o := by unfold exW; simp [h3, h12, h17, h21]
  unfold WCall
  rw [hgo]
  have q3 : (t.kind == 3) = false := by simp [h3]
  have q12 : (t.kind == 12) = false := by simp [h12]
  have q17 : (t.kind == 17) = false := by simp [h17]
  have q21 : (t.kind == 21) = false := by simp [h21]
  obtain ⟨A, cap, rfl, hcl, hcm, hA⟩ := hk.slice
  have hcap : (t.kids.length : Int) ≤ 9223372036854775807 := by simp [maxLen] at hcm; omega
  have hts := Tr.size_eq t
  have W1 : Below w.heap.size w (w.alloc (.cells #[.int .i64 t.kind, .int .i64 t.at_, .string t.name, .int .u64 t.num, .string t.op, .slice A t.kids.length cap] 31)) := below_alloc (Below.refl _ _)
  have HW := Lib.hid h
  have HG := Lib.hid G
  have HLen := Lib.hid L
  have HNE := Lib.hid hne
  have HK := Lib.hid hk
  have HA := Lib.hid hA
  have HD := Lib.hid (show ∀ k ∈ t.kids, k.fitsD n = true from fun k hk => Tr.fitsD_kid hd hk)
  have HOK := Lib.hid hok
  have HBD := Lib.hid (show bnd E o + 9 * Tr.sizes t.kids ≤ 2000000 from by omega)
  have H0 := Lib.hid (h.fr W1)
  have F0 := Lib.hid (Fr.of_below (S := Ft p R) W1)
  have G0 := Lib.hid (Gr.refl w.heap.size p R)
  have HLL := Lib.hid (rfl : t.kids.length = t.kids.length)
  clear h hne hbd hk hwf hd hok hgo h3 h12 h17 h21 hts W1 hcl hcm hA G L
  generalize hl : t.kids = l at *
  go_enter Tryd.func41, Tryd.ntmps41
  go_wp2
  go_loopg [56] l.length (fun fu ix wr => ∃ (j : Nat) (o' : Out) (R' : Rw), ix = .int .i64 j ∧ j + fu = l.length ∧ WAt wr p B ms E o' R' ∧ Fr (Ft p R) w wr ∧ Gr w.heap.size p R R' ∧ eachM (F.ex E) l o = eachM (F.ex E) (l.drop j) o' ∧ o'.len + j ≤ o.len + 4 * Tr.sizes (l.take j))
  case atStart => exact ⟨0, o, R, rfl, by omega, H0.out, F0.out, G0.out, rfl, by simp [Tr.sizes_nil]⟩
  case round =>
    obtain ⟨j, o', R', rfl, hf, h1, h2, h3, h4, h5⟩ := hrel
    have H1 := Lib.hid h1
    have H2 := Lib.hid h2
    have H3 := Lib.hid h3
    have H4 := Lib.hid h4
    have H5 := Lib.hid h5
    clear h1 h2 h3 h4 h5
    rcases Nat.lt_or_ge j l.length with hj | hj
    · obtain ⟨k, hkj⟩ : ∃ k, l[j]? = some k := ⟨_, List.getElem?_eq_getElem (by have := HLL.out; omega)⟩
      obtain ⟨b, off, hAeq, hbB⟩ := HA.out (by omega)
      cases hAeq
      obtain ⟨_, hwf', kv', hN, hKk⟩ := (HK.out.under (HW.out.under H2.out)).kid hkj
      obtain ⟨d0, d1, d2, d3, d4, d5⟩ := hN.get
      obtain ⟨A', cap', rfl, _, _, _⟩ := hKk.slice
      have hj' : (j : Int) < (l.length : Int) := by omega
      obtain ⟨f', hf'⟩ : ∃ f', gk = f' + 1 := ⟨gk - 1, by omega⟩
      have HF := Lib.hid (And.intro hf hf')
      have hU : Below wr.heap.size wr (wr.alloc (.cells #[.int .i64 k.kind, .int .i64 k.at_, .string k.name, .int .u64 k.num, .string k.op, .slice A' k.kids.length cap'] 31)) := below_alloc (Below.refl _ _)
      have HSt := Lib.hid (show eachM (F.ex E) l o = seqM (F.ex E k) (eachM (F.ex E) (l.drop (j + 1))) o' from by rw [H4.out, drop_at' hkj]; rfl)
      have hsz := sizes_at hkj
      have HT := Lib.hid (take_succ_at hkj)
      have CC := (HG.out.ex _ p B ms E o' R' k _ (H1.out.fr hU) HNE.out (by have := H5.out; have := HBD.out; unfold bnd at *; omega) (hKk.under (hU.mono H1.out.inn.sz)) hwf' (HD.out k (List.mem_of_getElem? hkj)) (HOK.out k (List.mem_of_getElem? hkj)))
      clear hf hf' hkj hKk hN hwf'
      cases hr : F.ex E k o' with
      | error c =>
        have CC := Lib.hid (CC.mono (R' := fun e w' => e = bad c ∧ Below B w w') fun e w' hh => ⟨(hh.2 c hr).1, ((HW.out.under H2.out).trans (hU.mono H1.out.inn.sz)).trans (hh.2 c hr).2⟩)
        have HE := Lib.hid (HSt.out.trans (seqM_err hr))
        clear hr hU
        obtain ⟨c1, c2⟩ := c
        unfold bad at CC
        go_wp2_with (first | (go_at_call 41; (with_reducible refine CC.out.mono ?_); rintro e v1 ⟨rfl, g1⟩; have G1 := Lib.hid g1; clear g1))
        exact ⟨rfl, WP.err HE.out ⟨rfl, G1.out⟩⟩
      | ok o1 =>
        have CC := Lib.hid (CC.mono (R' := fun e w' => (∃ v, e = .returned v) ∧ ∃ R'', WAt w' p B ms E o1 R'' ∧ Fr (Ft p R) w w' ∧ Gr w.heap.size p R R'') fun e w' hh => by
          obtain ⟨h1, R'', h2, h3, h4⟩ := hh.1 o1 hr
          exact ⟨h1, R'', h2, (H2.out.tr (Fr.of_below hU)).trans h3 H3.out, H3.out.trans h4 (Nat.le_trans H2.out.size hU.size)⟩)
        have hgl := HLen.out.ex E k o' o1 hr
        have HGL := Lib.hid hgl
        have HE := Lib.hid (HSt.out.trans (seqM_ok hr))
        clear hr hU hgl
        go_wp2_with (first | (go_at_call 41; (with_reducible refine CC.out.mono ?_); rintro e v1 ⟨⟨v, rfl⟩, R'', g1, g2, g3⟩; have G1 := Lib.hid g1; have G2 := Lib.hid g2; have G3 := Lib.hid g3; clear g1 g2 g3))
        go_roundg f'
        case measure => have := HF.out; omega
        case rel => exact ⟨j + 1, o1, R'', by simp, by have := HF.out; omega, G1.out, G2.out, G3.out, HE.out, by rw [HT.out, Tr.sizes_append, Tr.sizes_cons, Tr.sizes_nil]; have := H5.out; have := HGL.out; omega⟩
    · have hjl : j = l.length := by omega
      have hj' : ¬ (j : Int) < (l.length : Int) := by omega
      have HJ := Lib.hid (show l.drop j = [] from List.drop_eq_nil_of_le (by have := HLL.out; omega))
      have HEnd := Lib.hid (show eachM (F.ex E) l o = .ok o' from by rw [H4.out, HJ.out]; rfl)
      clear hf hjl
      go_wp2
      go_end0
      exact WP.ok HEnd.out ⟨⟨_, rfl⟩, R', H1.out, H2.out, H3.out⟩
end Go.Proofs.YtlenhcmgcgccmaaDoor
