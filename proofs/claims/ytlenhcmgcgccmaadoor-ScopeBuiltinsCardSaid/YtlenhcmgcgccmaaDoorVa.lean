/- Scope: the walk as a whole; how much it adds; right trees. -/
import Derived.Test.YtlenhcmgcgccmaaDoorUz
import Derived.Test.YtlenhcmgcgccmaaDoorUn
import Derived.Test.YtlenhcmgcgccmaaDoorUv
namespace Go.Proofs.YtlenhcmgcgccmaaDoor
open Go.RowKit Go
set_option linter.unusedVariables false
set_option linter.unusedSimpArgs false
theorem seqM_inv {f g : WM} {o o' : Out} (h : seqM f g o = .ok o') : ∃ o1, f o = .ok o1 ∧ g o1 = .ok o' := by
  cases h1 : f o with
  | error c => rw [seqM_err h1] at h; cases h
  | ok o1 => rw [seqM_ok h1] at h; exact ⟨o1, rfl, h⟩
theorem skip_inv {o o' : Out} (h : skipM o = .ok o') : o' = o := by injection h with h; exact h.symm
theorem getLast_sizes {l : List Tr} {b : Tr} (h : l.getLast? = some b) : l.dropLast.length + b.size ≤ Tr.sizes l := by
  have hne : l ≠ [] := fun e => by rw [e] at h; cases h
  have hl := List.dropLast_concat_getLast hne
  have hb : l.getLast hne = b := by rw [List.getLast?_eq_some_getLast hne] at h; exact Option.some.inj h
  rw [hb] at hl
  have h1 : Tr.sizes l = Tr.sizes l.dropLast + b.size := by
    conv => lhs; rw [← hl]
    rw [Tr.sizes_append, Tr.sizes_cons, Tr.sizes_nil]; rfl
  have h2 := Tr.length_le_sizes l.dropLast
  omega
theorem functionW_len {F : WF} (L : LenW F) {E : Env} {t : Tr} {o o' : Out} (h : functionW F E t o = .ok o') : o'.len + 1 ≤ o.len + 4 * t.size := by
  have hs := Tr.size_eq t
  unfold functionW at h
  split at h
  · cases h
  · split at h
    · injection h with h; subst h; have := Tr.size_pos t; omega
    · rename_i body hb
      have h1 := bodyW_len L (na := t.kids.dropLast.length) (fun x hx => aheadP_len hx) h
      have h2 := getLast_sizes hb
      have h3 := Tr.size_eq body
      have h4 : (enterO E t o).len ≤ o.len + 2 := by
        have e : (enterO E t o).len = o.uses.length + (if ownP t = true then o.vars ++ [⟨t.name, t.at_, 5, o.scopes.length, t.kids.dropLast.length, false⟩] else o.vars).length + (o.scopes ++ [(⟨t.at_, E.fn, t.kids.dropLast.length, 0⟩ : Sc)]).length := rfl
        rw [e]
        unfold Out.len
        split <;> simp <;> omega
      omega
theorem jumpW_len {E : Env} {t : Tr} {o o' : Out} (h : jumpW E t o = .ok o') : o' = o := by
  unfold jumpW at h
  split at h
  · split at h
    · cases h
    · exact skip_inv h
  · cases hf : E.labels.find? (fun l => decide (l.1 = t.name)) with
    | none => rw [hf] at h; cases h
    | some l =>
      rw [hf] at h
      dsimp only at h
      split at h
      · cases h
      · exact skip_inv h
theorem stW_len {F : WF} (L : LenW F) (E : Env) (t : Tr) (o o' : Out) (h : stW F E t o = .ok o') : o'.len + 1 ≤ o.len + 4 * t.size := by
  have hs := Tr.size_eq t
  have hp := Tr.size_pos t
  have sk : ∀ {o o' : Out}, skipM o = .ok o' → o'.len + 1 ≤ o.len + 4 * t.size := fun hh => by rw [skip_inv hh]; omega
  unfold stW at h
  split at h
  · exact functionW_len L h
  split at h
  · split at h
    · cases h
    · rcases hk : t.kids with _ | ⟨a, _ | ⟨zz, ll⟩⟩ <;> rw [hk] at h hs <;> dsimp only at h
      · exact sk h
      · simp only [Tr.sizes_cons, Tr.sizes_nil] at hs
        have h1 := L.ex E a o o' h; omega
      · exact sk h
  split at h
  · rcases hk : t.kids with _ | ⟨a, _ | ⟨b, _ | ⟨c, _ | ⟨zz, ll⟩⟩⟩⟩ <;> rw [hk] at h hs <;> dsimp only at h
    · exact sk h
    · exact sk h
    · exact sk h
    · simp only [Tr.sizes_cons, Tr.sizes_nil] at hs
      obtain ⟨o1, h1, h⟩ := seqM_inv h
      obtain ⟨o2, h2, h⟩ := seqM_inv h
      have k1 := L.ex _ _ _ _ h1
      have k2 := L.st _ _ _ _ h2
      have k3 := L.st _ _ _ _ h
      omega
    · exact sk h
  split at h
  · rcases hk : t.kids with _ | ⟨a, _ | ⟨b, _ | ⟨zz, ll⟩⟩⟩ <;> rw [hk] at h hs <;> dsimp only at h
    · exact sk h
    · exact sk h
    · simp only [Tr.sizes_cons, Tr.sizes_nil] at hs
      obtain ⟨o1, h1, h⟩ := seqM_inv h
      have k1 := L.ex _ _ _ _ h1
      have k3 := L.st _ _ _ _ h
      omega
    · exact sk h
  split at h
  · rcases hk : t.kids with _ | ⟨a, _ | ⟨b, _ | ⟨c, _ | ⟨d, _ | ⟨zz, ll⟩⟩⟩⟩⟩ <;> rw [hk] at h hs <;> dsimp only at h
    · exact sk h
    · exact sk h
    · exact sk h
    · exact sk h
    · simp only [Tr.sizes_cons, Tr.sizes_nil] at hs
      obtain ⟨o1, h1, h⟩ := seqM_inv h
      obtain ⟨o2, h2, h⟩ := seqM_inv h
      obtain ⟨o3, h3, h⟩ := seqM_inv h
      have k1 := L.ex _ _ _ _ h1
      have k2 := L.ex _ _ _ _ h2
      have k3 := L.ex _ _ _ _ h3
      have k4 := L.st _ _ _ _ h
      omega
    · exact sk h
  split at h
  · rcases hk : t.kids with _ | ⟨a, _ | ⟨k, _ | ⟨zz, ll⟩⟩⟩ <;> rw [hk] at h hs <;> dsimp only at h
    · exact sk h
    · exact sk h
    · simp only [Tr.sizes_cons, Tr.sizes_nil] at hs
      obtain ⟨o1, h1, h⟩ := seqM_inv h
      have k1 := L.ex _ _ _ _ h1
      split at h
      · rename_i b o2 hd
        have k2 : o2.len ≤ o1.len + 1 := declareP_len hd
        have k3 := L.st _ _ _ _ h
        omega
      · cases h
    · exact sk h
  split at h
  · rw [jumpW_len h]; omega
  split at h
  · rcases hk : t.kids with _ | ⟨k, _ | ⟨zz, ll⟩⟩ <;> rw [hk] at h hs <;> dsimp only at h
    · exact sk h
    · simp only [Tr.sizes_cons, Tr.sizes_nil] at hs
      unfold labelledW at h
      split at h
      · cases h
      · have k3 := L.st _ _ _ _ h
        omega
    · exact sk h
  split at h
  · rcases hk : t.kids with _ | ⟨a, _ | ⟨b, _ | ⟨c, _ | ⟨zz, ll⟩⟩⟩⟩ <;> rw [hk] at h hs <;> dsimp only at h
    · exact sk h
    · exact sk h
    · exact sk h
    · simp only [Tr.sizes_cons, Tr.sizes_nil] at hs
      obtain ⟨o1, h1, h⟩ := seqM_inv h
      obtain ⟨o2, h2, h⟩ := seqM_inv h
      have k1 := L.st _ _ _ _ h1
      have k3 := L.st _ _ _ _ h
      have hb := Tr.size_pos b
      split at h2
      · rw [skip_inv h2] at k3; omega
      · have k2 := L.catch_ h2
        omega
    · exact sk h
  split at h
  · have h1 := bodyW_len L (na := 0) (fun x hx => by injection hx with hx; subst hx; simp) h
    omega
  · have h1 := eachM_len (fun t _ o o' hh => L.ex E t o o' hh) o o' h
    omega
theorem exW_len {F : WF} (L : LenW F) (E : Env) (t : Tr) (o o' : Out) (h : exW F E t o = .ok o') : o'.len + 1 ≤ o.len + 4 * t.size := by
  have hs := Tr.size_eq t
  have hp := Tr.size_pos t
  unfold exW at h
  split at h
  · exact useP_len h hp
  split at h
  · exact functionW_len L h
  split at h
  · rcases hk : t.kids with _ | ⟨a, l⟩ <;> rw [hk] at h hs <;> dsimp only at h
    · rw [skip_inv h]; omega
    · simp only [Tr.sizes_cons] at hs
      obtain ⟨o1, h1, h⟩ := seqM_inv h
      have k2 := eachM_len (fun t _ o o' hh => L.ex E t o o' hh) o1 o' h
      have ha := Tr.size_pos a
      split at h1
      · have k1 := useP_len h1 ha
        omega
      · have k1 := L.ex _ _ _ _ h1
        omega
  · have h1 := eachM_len (fun t _ o o' hh => L.ex E t o o' hh) o o' h
    omega
theorem lenW : ∀ n, LenW (iterW n)
  | 0 => ⟨fun E t o o' h => by have := Tr.size_pos t; rw [skip_inv h]; omega, fun E t o o' h => by have := Tr.size_pos t; rw [skip_inv h]; omega⟩
  | n + 1 => ⟨fun E t o o' h => stW_len (lenW n) E t o o' h, fun E t o o' h => exW_len (lenW n) E t o o' h⟩
theorem kind_miss {t : Tr} (h : missing t = true) : t.kind = 0 ∧ t.kids = [] := by
  unfold missing at h
  simp only [Bool.and_eq_true, decide_eq_true_eq, List.isEmpty_iff] at h
  exact h
theorem goodSt {F : WF} {n : Nat} (G : GoodW F n) (L : LenW F) (FN : GoodFn F n) (hn : n ≤ 300) (w : World) (p B : Nat) (ms : List Nat) (E : Env) (o : Out) (R : Rw) (t : Tr) (kv : Value) (h : WAt w p B ms E o R) (hne : 0 < E.blocks.length) (hbd : bnd E o + 9 * t.size ≤ 2000000) (hk : KidsAt w B kv t.kids) (hwf : t.wf1) (hd : t.fitsD (n + 1) = true) (hok : OkS t) : WCall 28 w p B ms E R t kv (stW F E t o) := by
  cases hok with
  | miss _ hm =>
    obtain ⟨h0, hk0⟩ := kind_miss hm
    exact stEach G L w p B ms E o R t kv h hne hbd hk hwf hd (by omega) (by omega) (by omega) (by omega) (by omega) (by omega) (by omega) (by omega) (by omega) (by omega) (by omega) (by rw [hk0]; intro k hk; cases hk)
  | block _ hK hkk => exact ws44 G L w p B ms E o R t kv h hne hbd hk hwf hd hK hkk
  | fn _ hK body hb h44 hkk hp => exact ws33 G L FN w p B ms E o R t kv h hne hbd hk hwf hd hK ⟨body, hb, h44, hkk, hp⟩
  | one _ hK a hkk ha =>
    by_cases h34 : t.kind = 34
    · by_cases hfn : E.fn = 0
      · exact ws34f G L w p B ms E o R t kv h hne hbd hk hwf hd h34 hkk ha hfn
      · exact ws34n G L w p B ms E o R t kv h hne hbd hk hwf hd h34 hkk ha hfn
    · exact stEach G L w p B ms E o R t kv h hne hbd hk hwf hd (by omega) (by omega) (by omega) (by omega) (by omega) (by omega) (by omega) (by omega) (by omega) (by omega) (by omega) (by rw [hkk]; intro k hk; rw [List.mem_singleton.1 hk]; exact ha)
  | label _ hK a hkk ha => exact ws41 G L hn w p B ms E o R t kv h hne hbd hk hwf hd hK hkk ha
  | two _ hK a b hkk ha hb =>
    rcases hK with hK | hK
    · exact ws36 G L w p B ms E o R t kv h hne hbd hk hwf hd hK hkk ha hb
    · exact ws38 G L w p B ms E o R t kv h hne hbd hk hwf hd hK hkk ha hb _ rfl
  | if_ _ hK a b c hkk ha hb hc => exact ws35 G L w p B ms E o R t kv h hne hbd hk hwf hd hK hkk ha hb hc
  | for_ _ hK a b c d hkk ha hb hc hdd => exact ws37 G L w p B ms E o R t kv h hne hbd hk hwf hd hK hkk ha hb hc hdd
  | try_ _ hK a b c hkk ha hb hb0 hc =>
    rcases hb0 with hb0 | hb0
    · exact ws43n G L w p B ms E o R t kv h hne hbd hk hwf hd hK hkk ha hb hc hb0
    · exact ws43b G L w p B ms E o R t kv h hne hbd hk hwf hd hK hkk ha hb hc hb0 (by
        cases hb with
        | miss _ hm => have := (kind_miss hm).1; omega
        | block _ _ hkk => exact hkk
        | fn _ hK => omega
        | one _ hK => omega
        | label _ hK => omega
        | two _ hK => omega
        | if_ _ hK => omega
        | for_ _ hK => omega
        | try_ _ hK => omega
        | none_ _ hK => omega)
  | none_ _ hK hkk =>
    rcases hK with hK | hK | hK
    · exact ws39 G L w p B ms E o R t kv h hne hbd hk hwf hd hK
    · exact ws40 G L w p B ms E o R t kv h hne hbd hk hwf hd hK
    · exact stEach G L w p B ms E o R t kv h hne hbd hk hwf hd (by omega) (by omega) (by omega) (by omega) (by omega) (by omega) (by omega) (by omega) (by omega) (by omega) (by omega) (by rw [hkk]; intro k hk; cases hk)
theorem goodEx {F : WF} {n : Nat} (G : GoodW F n) (L : LenW F) (FN : GoodFn F n) (w : World) (p B : Nat) (ms : List Nat) (E : Env) (o : Out) (R : Rw) (t : Tr) (kv : Value) (h : WAt w p B ms E o R) (hne : 0 < E.blocks.length) (hbd : bnd E o + 9 * t.size ≤ 2000000) (hk : KidsAt w B kv t.kids) (hwf : t.wf1) (hd : t.fitsD (n + 1) = true) (hok : OkX t) : WCall 41 w p B ms E R t kv (exW F E t o) := by
  cases hok with
  | miss _ hm =>
    obtain ⟨h0, hk0⟩ := kind_miss hm
    exact exEach G L w p B ms E o R t kv h hne hbd hk hwf hd (by omega) (by omega) (by omega) (by omega) (by rw [hk0]; intro k hk; cases hk)
  | leaf _ hK hkk =>
    by_cases h3 : t.kind = 3
    · exact exName G L w p B ms E o R t kv h hne hbd hk hwf hd h3
    · exact exEach G L w p B ms E o R t kv h hne hbd hk hwf hd h3 (by omega) (by omega) (by omega) (by rw [hkk]; intro k hk; cases hk)
  | all_ _ hK hkk => exact exEach G L w p B ms E o R t kv h hne hbd hk hwf hd (by omega) (by omega) (by omega) (by omega) hkk
  | fn _ hK body hb h44 hkk hp => exact exFn G L FN w p B ms E o R t kv h hne hbd hk hwf hd hK ⟨body, hb, h44, hkk, hp⟩
  | upd _ hK a hkk ha =>
    by_cases h3 : a.kind = 3
    · exact exU17n G L w p B ms E o R t kv h hne hbd hk hwf hd hK hkk h3
    · exact exU17e G L w p B ms E o R t kv h hne hbd hk hwf hd hK hkk h3 ha
  | asg _ hK a x hkk ha hx =>
    by_cases h3 : a.kind = 3
    · exact exU21n G L w p B ms E o R t kv h hne hbd hk hwf hd hK hkk h3 hx
    · exact exU21e G L w p B ms E o R t kv h hne hbd hk hwf hd hK hkk h3 ha hx
theorem fnW {F : WF} {n : Nat} (G : GoodW F n) (L : LenW F) : GoodFn F n := by
  intro w p B ms E o R t kv h hne hbd hk hwf hd hok
  cases ho : ownP t with
  | true => exact fnW_own G L w p B ms E o R t kv h hne hbd hk hwf hd hok ho
  | false => exact fnW_non G L w p B ms E o R t kv h hne hbd hk hwf hd hok ho
theorem goodW : ∀ n, n ≤ 301 → GoodW (iterW n) n
  | 0, _ => ⟨fun w p B ms E o R t kv _ _ _ _ _ hd => (by cases hd), fun w p B ms E o R t kv _ _ _ _ _ hd => (by cases hd)⟩
  | n + 1, hn =>
    have G := goodW n (by omega)
    have FN := fnW G (lenW n)
    ⟨fun w p B ms E o R t kv h hne hbd hk hwf hd hok => goodSt G (lenW n) FN (by omega) w p B ms E o R t kv h hne hbd hk hwf hd hok,
     fun w p B ms E o R t kv h hne hbd hk hwf hd hok => goodEx G (lenW n) FN w p B ms E o R t kv h hne hbd hk hwf hd hok⟩
end Go.Proofs.YtlenhcmgcgccmaaDoor
