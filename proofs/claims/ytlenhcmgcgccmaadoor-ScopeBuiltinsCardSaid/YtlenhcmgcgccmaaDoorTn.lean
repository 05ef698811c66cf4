/- Scope: Right: statement. -/
import Derived.Test.YtlenhcmgcgccmaaDoorTl
import Derived.Test.YtlenhcmgcgccmaaDoorTm
namespace Go.Proofs.YtlenhcmgcgccmaaDoor
open Go.RowKit Go
set_option linter.unusedVariables false
set_option linter.unusedSimpArgs false
set_option maxRecDepth 100000 in
set_option maxHeartbeats 8000000 in
theorem st44 {F : RF} {n : Nat} (G : GoodR F n) (w : World) (B pt mu mv : Nat) (nv : Value) (s : Pl) (t : Tr) (kv : Value) (gen : Bool) (hr : RW w B pt mu mv nv s) (hd : t.fitsD (n + 1) = true) (hwf : t.wf1) (hk : KidsAt w B kv t.kids) (hkind : t.kind = 44) :
    Calls Tryd.prog 38 #[.pointer (some ⟨pt, 0, none⟩), .agg #[.int .i64 t.kind, .int .i64 t.at_, .string t.name, .int .u64 t.num, .string t.op, kv], .bool gen] w (RP w B pt mu mv nv (stP F t gen s)) := by
  have hgo : stP F t gen s = blockM F t.kids gen s := by unfold stP; rw [hkind]; simp
  rw [hgo]
  obtain ⟨A, cap, rfl, hcl, hcm, hA⟩ := hk.slice
  have hWV : Below w.heap.size w (w.alloc (.cells #[.int .i64 t.kind, .int .i64 t.at_, .string t.name, .int .u64 t.num, .string t.op, .slice A t.kids.length cap] 31)) := below_alloc (Below.refl _ _)
  have hRV : RW (w.alloc (.cells #[.int .i64 t.kind, .int .i64 t.at_, .string t.name, .int .u64 t.num, .string t.op, .slice A t.kids.length cap] 31)) B pt mu mv nv s := hr.fr hWV
  have HFV := Lib.hid (show Fr (SR mu mv) w (w.alloc (.cells #[.int .i64 t.kind, .int .i64 t.at_, .string t.name, .int .u64 t.num, .string t.op, .slice A t.kids.length cap] 31)) from Fr.of_below hWV)
  have RV := Lib.hid hRV
  have hpl := hr.blk.lt
  have BC := block_calls G _ B pt mu mv nv s t.kids A cap gen hRV (fun k hk => Tr.fitsD_kid hd hk) (hk.under (hWV.mono hr.size))
  unfold RP at BC ⊢
  have BC := Lib.hid BC
  rw [hkind] at BC HFV ⊢
  generalize blockM F t.kids gen s = r at *
  clear hgo hr hd hwf hk hWV hRV RV hkind G hcl hcm hA
  go_enter Tryd.func38, Tryd.ntmps38
  go_wp2_with (first | (go_at_call 26; (with_reducible refine BC.out.mono ?_); rintro e v1 ⟨rfl, g1, g2⟩; have R1 := Lib.hid (And.intro g1 g2); clear g1 g2))
  go_ret
  exact ⟨rfl, R1.out.1, HFV.out.tr R1.out.2⟩
set_option maxRecDepth 100000 in
set_option maxHeartbeats 8000000 in
theorem stbad {F : RF} {n : Nat} (G : GoodR F n) (w : World) (B pt mu mv : Nat) (nv : Value) (s : Pl) (t : Tr) (kv : Value) (gen : Bool) (hr : RW w B pt mu mv nv s) (hd : t.fitsD (n + 1) = true) (hwf : t.wf1) (hk : KidsAt w B kv t.kids) (h44 : ¬ t.kind = 44) (hbad : (t.kids.length : Int) ≠ manyP t.kind) :
    Calls Tryd.prog 38 #[.pointer (some ⟨pt, 0, none⟩), .agg #[.int .i64 t.kind, .int .i64 t.at_, .string t.name, .int .u64 t.num, .string t.op, kv], .bool gen] w (RP w B pt mu mv nv (stP F t gen s)) := by
  have hgo : stP F t gen s = (false, s) := by unfold stP; rw [if_neg h44, if_pos hbad]; rfl
  rw [hgo]
  obtain ⟨A, cap, rfl, hcl, hcm, hA⟩ := hk.slice
  have hWV : Below w.heap.size w (w.alloc (.cells #[.int .i64 t.kind, .int .i64 t.at_, .string t.name, .int .u64 t.num, .string t.op, .slice A t.kids.length cap] 31)) := below_alloc (Below.refl _ _)
  have hRV : RW (w.alloc (.cells #[.int .i64 t.kind, .int .i64 t.at_, .string t.name, .int .u64 t.num, .string t.op, .slice A t.kids.length cap] 31)) B pt mu mv nv s := hr.fr hWV
  have HFV := Lib.hid (show Fr (SR mu mv) w (w.alloc (.cells #[.int .i64 t.kind, .int .i64 t.at_, .string t.name, .int .u64 t.num, .string t.op, .slice A t.kids.length cap] 31)) from Fr.of_below hWV)
  have RV := Lib.hid hRV
  have hpl := hr.blk.lt
  have MC := Lib.hid (show Calls Tryd.prog 58 #[.int .i64 t.kind] (w.alloc (.cells #[.int .i64 t.kind, .int .i64 t.at_, .string t.name, .int .u64 t.num, .string t.op, .slice A t.kids.length cap] 31)) _ from many_calls _ t.kind)
  have q1 : (t.kind == 44) = false := by simp [h44]
  generalize hm : manyP t.kind = m at *
  have q2 : ((t.kids.length : Int) == m) = false := by simpa using hbad
  have q3 : ((t.kids.length : Int) != m) = true := by simpa using hbad
  unfold RP
  clear hgo hr hd hwf hk hWV hRV G hcl hcm hA h44 hm
  go_enter Tryd.func38, Tryd.ntmps38
  go_wp2_with (first | (go_at_call 58; (with_reducible refine MC.out.mono ?_); rintro e w' ⟨rfl, rfl⟩))
  go_ret
  exact ⟨rfl, RV.out, HFV.out⟩
set_option maxRecDepth 100000 in
set_option maxHeartbeats 8000000 in
theorem st39 {F : RF} {n : Nat} (G : GoodR F n) (w : World) (B pt mu mv : Nat) (nv : Value) (s : Pl) (t : Tr) (kv : Value) (gen : Bool) (hr : RW w B pt mu mv nv s) (hd : t.fitsD (n + 1) = true) (hwf : t.wf1) (hk : KidsAt w B kv t.kids) (hkind : t.kind = 39) (hlen : t.kids.length = 0) :
    Calls Tryd.prog 38 #[.pointer (some ⟨pt, 0, none⟩), .agg #[.int .i64 t.kind, .int .i64 t.at_, .string t.name, .int .u64 t.num, .string t.op, kv], .bool gen] w (RP w B pt mu mv nv (stP F t gen s)) := by
  have hgo : stP F t gen s = (true, s) := by unfold stP; rw [hkind, hlen]; simp [manyP, okM]
  rw [hgo]
  obtain ⟨A, cap, rfl, hcl, hcm, hA⟩ := hk.slice
  have hWV : Below w.heap.size w (w.alloc (.cells #[.int .i64 t.kind, .int .i64 t.at_, .string t.name, .int .u64 t.num, .string t.op, .slice A t.kids.length cap] 31)) := below_alloc (Below.refl _ _)
  have hRV : RW (w.alloc (.cells #[.int .i64 t.kind, .int .i64 t.at_, .string t.name, .int .u64 t.num, .string t.op, .slice A t.kids.length cap] 31)) B pt mu mv nv s := hr.fr hWV
  have HFV := Lib.hid (show Fr (SR mu mv) w (w.alloc (.cells #[.int .i64 t.kind, .int .i64 t.at_, .string t.name, .int .u64 t.num, .string t.op, .slice A t.kids.length cap] 31)) from Fr.of_below hWV)
  have RV := Lib.hid hRV
  have hpl := hr.blk.lt
  have MC := Lib.hid (show Calls Tryd.prog 58 #[.int .i64 39] (w.alloc (.cells #[.int .i64 39, .int .i64 t.at_, .string t.name, .int .u64 t.num, .string t.op, .slice A 0 cap] 31)) _ from many_calls _ 39)
  have hmn : manyP 39 = 0 := rfl
  rw [hmn] at MC
  rw [hkind, hlen] at RV HFV ⊢
  unfold RP
  clear hgo hr hd hwf hk hWV hRV G hcl hcm hA hkind hlen hmn
  go_enter Tryd.func38, Tryd.ntmps38
  go_wp2_with (first | (go_at_call 58; (with_reducible refine MC.out.mono ?_); rintro e w' ⟨rfl, rfl⟩))
  go_ret
  exact ⟨rfl, RV.out, HFV.out⟩
set_option maxRecDepth 100000 in
set_option maxHeartbeats 8000000 in
theorem st40 {F : RF} {n : Nat} (G : GoodR F n) (w : World) (B pt mu mv : Nat) (nv : Value) (s : Pl) (t : Tr) (kv : Value) (gen : Bool) (hr : RW w B pt mu mv nv s) (hd : t.fitsD (n + 1) = true) (hwf : t.wf1) (hk : KidsAt w B kv t.kids) (hkind : t.kind = 40) (hlen : t.kids.length = 0) :
    Calls Tryd.prog 38 #[.pointer (some ⟨pt, 0, none⟩), .agg #[.int .i64 t.kind, .int .i64 t.at_, .string t.name, .int .u64 t.num, .string t.op, kv], .bool gen] w (RP w B pt mu mv nv (stP F t gen s)) := by
  have hgo : stP F t gen s = (true, s) := by unfold stP; rw [hkind, hlen]; simp [manyP, okM]
  rw [hgo]
  obtain ⟨A, cap, rfl, hcl, hcm, hA⟩ := hk.slice
  have hWV : Below w.heap.size w (w.alloc (.cells #[.int .i64 t.kind, .int .i64 t.at_, .string t.name, .int .u64 t.num, .string t.op, .slice A t.kids.length cap] 31)) := below_alloc (Below.refl _ _)
  have hRV : RW (w.alloc (.cells #[.int .i64 t.kind, .int .i64 t.at_, .string t.name, .int .u64 t.num, .string t.op, .slice A t.kids.length cap] 31)) B pt mu mv nv s := hr.fr hWV
  have HFV := Lib.hid (show Fr (SR mu mv) w (w.alloc (.cells #[.int .i64 t.kind, .int .i64 t.at_, .string t.name, .int .u64 t.num, .string t.op, .slice A t.kids.length cap] 31)) from Fr.of_below hWV)
  have RV := Lib.hid hRV
  have hpl := hr.blk.lt
  have MC := Lib.hid (show Calls Tryd.prog 58 #[.int .i64 40] (w.alloc (.cells #[.int .i64 40, .int .i64 t.at_, .string t.name, .int .u64 t.num, .string t.op, .slice A 0 cap] 31)) _ from many_calls _ 40)
  have hmn : manyP 40 = 0 := rfl
  rw [hmn] at MC
  rw [hkind, hlen] at RV HFV ⊢
  unfold RP
  clear hgo hr hd hwf hk hWV hRV G hcl hcm hA hkind hlen hmn
  go_enter Tryd.func38, Tryd.ntmps38
  go_wp2_with (first | (go_at_call 58; (with_reducible refine MC.out.mono ?_); rintro e w' ⟨rfl, rfl⟩))
  go_ret
  exact ⟨rfl, RV.out, HFV.out⟩
set_option maxRecDepth 100000 in
set_option maxHeartbeats 8000000 in
theorem st45 {F : RF} {n : Nat} (G : GoodR F n) (w : World) (B pt mu mv : Nat) (nv : Value) (s : Pl) (t : Tr) (kv : Value) (gen : Bool) (hr : RW w B pt mu mv nv s) (hd : t.fitsD (n + 1) = true) (hwf : t.wf1) (hk : KidsAt w B kv t.kids) (hkind : t.kind = 45) (hlen : t.kids.length = 0) :
    Calls Tryd.prog 38 #[.pointer (some ⟨pt, 0, none⟩), .agg #[.int .i64 t.kind, .int .i64 t.at_, .string t.name, .int .u64 t.num, .string t.op, kv], .bool gen] w (RP w B pt mu mv nv (stP F t gen s)) := by
  have hgo : stP F t gen s = (true, s) := by unfold stP; rw [hkind, hlen]; simp [manyP, okM]
  rw [hgo]
  obtain ⟨A, cap, rfl, hcl, hcm, hA⟩ := hk.slice
  have hWV : Below w.heap.size w (w.alloc (.cells #[.int .i64 t.kind, .int .i64 t.at_, .string t.name, .int .u64 t.num, .string t.op, .slice A t.kids.length cap] 31)) := below_alloc (Below.refl _ _)
  have hRV : RW (w.alloc (.cells #[.int .i64 t.kind, .int .i64 t.at_, .string t.name, .int .u64 t.num, .string t.op, .slice A t.kids.length cap] 31)) B pt mu mv nv s := hr.fr hWV
  have HFV := Lib.hid (show Fr (SR mu mv) w (w.alloc (.cells #[.int .i64 t.kind, .int .i64 t.at_, .string t.name, .int .u64 t.num, .string t.op, .slice A t.kids.length cap] 31)) from Fr.of_below hWV)
  have RV := Lib.hid hRV
  have hpl := hr.blk.lt
  have MC := Lib.hid (show Calls Tryd.prog 58 #[.int .i64 45] (w.alloc (.cells #[.int .i64 45, .int .i64 t.at_, .string t.name, .int .u64 t.num, .string t.op, .slice A 0 cap] 31)) _ from many_calls _ 45)
  have hmn : manyP 45 = 0 := rfl
  rw [hmn] at MC
  rw [hkind, hlen] at RV HFV ⊢
  unfold RP
  clear hgo hr hd hwf hk hWV hRV G hcl hcm hA hkind hlen hmn
  go_enter Tryd.func38, Tryd.ntmps38
  go_wp2_with (first | (go_at_call 58; (with_reducible refine MC.out.mono ?_); rintro e w' ⟨rfl, rfl⟩))
  go_ret
  exact ⟨rfl, RV.out, HFV.out⟩
theorem len1 {l : List Tr} (h : l.length = 1) : ∃ a, l = [a] := List.length_eq_one_iff.1 h
theorem len2 {l : List Tr} (h : l.length = 2) : ∃ a b, l = [a, b] := by
  rcases l with _ | ⟨a, _ | ⟨b, _ | ⟨c, l⟩⟩⟩
  all_goals first | exact ⟨_, _, rfl⟩ | (simp at h)
theorem len3 {l : List Tr} (h : l.length = 3) : ∃ a b c, l = [a, b, c] := by
  rcases l with _ | ⟨a, _ | ⟨b, _ | ⟨c, _ | ⟨d, l⟩⟩⟩⟩
  all_goals first | exact ⟨_, _, _, rfl⟩ | (simp at h)
theorem len4 {l : List Tr} (h : l.length = 4) : ∃ a b c d, l = [a, b, c, d] := by
  rcases l with _ | ⟨a, _ | ⟨b, _ | ⟨c, _ | ⟨d, _ | ⟨e, l⟩⟩⟩⟩⟩
  all_goals first | exact ⟨_, _, _, _, rfl⟩ | (simp at h)
set_option maxRecDepth 100000 in
set_option maxHeartbeats 8000000 in
theorem st_step {F : RF} {n : Nat} (G : GoodR F n) (w : World) (B pt mu mv : Nat) (nv : Value) (s : Pl) (t : Tr) (kv : Value) (gen : Bool) (hr : RW w B pt mu mv nv s) (hd : t.fitsD (n + 1) = true) (hwf : t.wf1) (hk : KidsAt w B kv t.kids) :
    Calls Tryd.prog 38 #[.pointer (some ⟨pt, 0, none⟩), .agg #[.int .i64 t.kind, .int .i64 t.at_, .string t.name, .int .u64 t.num, .string t.op, kv], .bool gen] w (RP w B pt mu mv nv (stP F t gen s)) := by
  by_cases h44 : t.kind = 44
  · exact st44 G w B pt mu mv nv s t kv gen hr hd hwf hk h44
  by_cases hbad : (t.kids.length : Int) ≠ manyP t.kind
  · exact stbad G w B pt mu mv nv s t kv gen hr hd hwf hk h44 hbad
  have hlen : (t.kids.length : Int) = manyP t.kind := by simpa using hbad
  clear hbad
  by_cases h34 : t.kind = 34
  · rw [h34] at hlen
    obtain ⟨ka, hkids⟩ := len1 (show t.kids.length = 1 from by have : manyP 34 = 1 := rfl; omega)
    exact st34 G w B pt mu mv nv s t kv gen hr hd hwf hk h34 hkids
  by_cases h42 : t.kind = 42
  · rw [h42] at hlen
    obtain ⟨ka, hkids⟩ := len1 (show t.kids.length = 1 from by have : manyP 42 = 1 := rfl; omega)
    exact st42 G w B pt mu mv nv s t kv gen hr hd hwf hk h42 hkids
  by_cases h46 : t.kind = 46
  · rw [h46] at hlen
    obtain ⟨ka, hkids⟩ := len1 (show t.kids.length = 1 from by have : manyP 46 = 1 := rfl; omega)
    exact st46 G w B pt mu mv nv s t kv gen hr hd hwf hk h46 hkids
  by_cases h41 : t.kind = 41
  · rw [h41] at hlen
    obtain ⟨ka, hkids⟩ := len1 (show t.kids.length = 1 from by have : manyP 41 = 1 := rfl; omega)
    exact st41 G w B pt mu mv nv s t kv gen hr hd hwf hk h41 hkids
  by_cases h36 : t.kind = 36
  · rw [h36] at hlen
    obtain ⟨ka, kb, hkids⟩ := len2 (show t.kids.length = 2 from by have : manyP 36 = 2 := rfl; omega)
    exact st36 G w B pt mu mv nv s t kv gen hr hd hwf hk h36 hkids
  by_cases h37 : t.kind = 37
  · rw [h37] at hlen
    obtain ⟨ka, kb, kc, kd, hkids⟩ := len4 (show t.kids.length = 4 from by have : manyP 37 = 4 := rfl; omega)
    exact st37 G w B pt mu mv nv s t kv gen hr hd hwf hk h37 hkids
  by_cases h35 : t.kind = 35
  · rw [h35] at hlen
    obtain ⟨ka, kb, kc, hkids⟩ := len3 (show t.kids.length = 3 from by have : manyP 35 = 3 := rfl; omega)
    cases hm : missing kc
    · exact st35b G w B pt mu mv nv s t kv gen hr hd hwf hk h35 hkids hm
    · exact st35a G w B pt mu mv nv s t kv gen hr hd hwf hk h35 hkids hm
  by_cases h38 : t.kind = 38
  · rw [h38] at hlen
    obtain ⟨ka, kb, hkids⟩ := len2 (show t.kids.length = 2 from by have : manyP 38 = 2 := rfl; omega)
    cases hs : sg t.op wLetConst
    · exact st38n G w B pt mu mv nv s t kv gen hr hd hwf hk h38 hkids hs
    · exact st38 G w B pt mu mv nv s t kv gen hr hd hwf hk h38 hkids hs
  by_cases h43 : t.kind = 43
  · rw [h43] at hlen
    obtain ⟨ka, kb, kc, hkids⟩ := len3 (show t.kids.length = 3 from by have : manyP 43 = 3 := rfl; omega)
    by_cases hb : kb.kind = 0
    · by_cases hc : kc.kind = 0
      · exact st43n G w B pt mu mv nv s t kv gen hr hd hwf hk h43 hkids hb hc
      · exact st43c G w B pt mu mv nv s t kv gen hr hd hwf hk h43 hkids hb hc
    · exact st43b G w B pt mu mv nv s t kv gen hr hd hwf hk h43 hkids hb
  by_cases h39 : t.kind = 39
  · rw [h39] at hlen
    exact st39 G w B pt mu mv nv s t kv gen hr hd hwf hk h39 (by have : manyP 39 = 0 := rfl; omega)
  by_cases h40 : t.kind = 40
  · rw [h40] at hlen
    exact st40 G w B pt mu mv nv s t kv gen hr hd hwf hk h40 (by have : manyP 40 = 0 := rfl; omega)
  by_cases h45 : t.kind = 45
  · rw [h45] at hlen
    exact st45 G w B pt mu mv nv s t kv gen hr hd hwf hk h45 (by have : manyP 45 = 0 := rfl; omega)
  exfalso
  have : manyP t.kind = -1 := by simp [manyP, *]
  omega
end Go.Proofs.YtlenhcmgcgccmaaDoor
