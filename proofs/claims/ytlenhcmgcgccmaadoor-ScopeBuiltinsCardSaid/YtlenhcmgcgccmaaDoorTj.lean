/- Scope: Right: statement, kind by kind. -/
import Derived.Test.YtlenhcmgcgccmaaDoorTi
namespace Go.Proofs.YtlenhcmgcgccmaaDoor
open Go.RowKit Go
set_option linter.unusedVariables false
set_option linter.unusedSimpArgs false
theorem kid_cells {w : World} {b o : Nat} {t : Tr} {kv : Value} (h : NodeAt w b o (t.cells kv)) (o' : Nat) (ho : o = o') :
    w.cell? ⟨b, o', none⟩ = some (.int .i64 t.kind) ∧ w.cell? ⟨b, o' + 1, none⟩ = some (.int .i64 t.at_) ∧ w.cell? ⟨b, o' + 2, none⟩ = some (.string t.name) ∧
      w.cell? ⟨b, o' + 3, none⟩ = some (.int .u64 t.num) ∧ w.cell? ⟨b, o' + 4, none⟩ = some (.string t.op) ∧ w.cell? ⟨b, o' + 5, none⟩ = some kv := by subst ho; exact h.get
set_option maxRecDepth 100000 in
set_option maxHeartbeats 8000000 in
theorem st34 {F : RF} {n : Nat} (G : GoodR F n) (w : World) (B pt mu mv : Nat) (nv : Value) (s : Pl) (t : Tr) (kv : Value) (gen : Bool) (hr : RW w B pt mu mv nv s) (hd : t.fitsD (n + 1) = true) (hwf : t.wf1) (hk : KidsAt w B kv t.kids) {ka : Tr} (hkind : t.kind = 34) (hkids : t.kids = [ka]) :
    Calls Tryd.prog 38 #[.pointer (some ⟨pt, 0, none⟩), .agg #[.int .i64 t.kind, .int .i64 t.at_, .string t.name, .int .u64 t.num, .string t.op, kv], .bool gen] w (RP w B pt mu mv nv (stP F t gen s)) := by
  have hgo : stP F t gen s = (maybeM F ka gen) s := by unfold stP; rw [hkind, hkids]; simp [manyP]
  rw [hgo]
  have hlen : t.kids.length = 1 := by rw [hkids]; rfl
  obtain ⟨A, cap, rfl, hcl, hcm, hA⟩ := hk.slice
  obtain ⟨b, off, rfl, hbB⟩ := hA (by omega)
  rw [hlen] at hk hcl ⊢
  clear hA
  rw [hkind]
  have hWV : Below w.heap.size w (w.alloc (.cells #[.int .i64 34, .int .i64 t.at_, .string t.name, .int .u64 t.num, .string t.op, .slice (some ⟨b, off, none⟩) 1 cap] 31)) := below_alloc (Below.refl _ _)
  have hRV : RW (w.alloc (.cells #[.int .i64 34, .int .i64 t.at_, .string t.name, .int .u64 t.num, .string t.op, .slice (some ⟨b, off, none⟩) 1 cap] 31)) B pt mu mv nv s := hr.fr hWV
  have HFV := Lib.hid (show Fr (SR mu mv) w (w.alloc (.cells #[.int .i64 34, .int .i64 t.at_, .string t.name, .int .u64 t.num, .string t.op, .slice (some ⟨b, off, none⟩) 1 cap] 31)) from Fr.of_below hWV)
  have hb8 : Blk (w.alloc (.cells #[.int .i64 34, .int .i64 t.at_, .string t.name, .int .u64 t.num, .string t.op, .slice (some ⟨b, off, none⟩) 1 cap] 31)) w.heap.size 31 #[.int .i64 34, .int .i64 t.at_, .string t.name, .int .u64 t.num, .string t.op, .slice (some ⟨b, off, none⟩) 1 cap] := Blk.new _ _ _
  have hpl := hr.blk.lt
  have hbw : b < w.heap.size := Nat.lt_of_lt_of_le hbB hr.size
  have hn1 : w.heap.size ≠ b := by omega
  have hn2 : w.heap.size ≠ pt := by omega
  have N8 := Fr.not_sr hRV hb8
  have NP := Fr.not_sr hRV hRV.blk
  obtain ⟨cpu, cpv⟩ := hr.cells
  have hi0 : t.kids[0]? = some ka := by rw [hkids]; rfl
  have hd0 := Tr.fitsD_kid hd (List.mem_of_getElem? hi0)
  obtain ⟨_, hw0, kv0, hn0, hs0⟩ := hk.kid hi0
  obtain ⟨Aka, capka, rfl, _, _, _⟩ := hs0.slice
  obtain ⟨d00, d01, d02, d03, d04, d05⟩ := kid_cells hn0 (off) (by omega)
  have KX := Lib.hid (fun w' (f : Fr (SR mu mv) (w.alloc (.cells #[.int .i64 34, .int .i64 t.at_, .string t.name, .int .u64 t.num, .string t.op, .slice (some ⟨b, off, none⟩) 1 cap] 31)) w') => show w'.cell? ⟨w.heap.size, 0, none⟩ = some (.int .i64 34) ∧ w'.cell? ⟨w.heap.size, 1, none⟩ = some (.int .i64 t.at_) ∧ w'.cell? ⟨w.heap.size, 2, none⟩ = some (.string t.name) ∧ w'.cell? ⟨w.heap.size, 3, none⟩ = some (.int .u64 t.num) ∧ w'.cell? ⟨w.heap.size, 4, none⟩ = some (.string t.op) ∧ w'.cell? ⟨w.heap.size, 5, none⟩ = some (.slice (some ⟨b, off, none⟩) 1 cap) ∧ w'.cell? ⟨pt, 0, none⟩ = some (.map (some mu)) ∧ w'.cell? ⟨pt, 1, none⟩ = some (.map (some mv)) ∧ w'.cell? ⟨b, off, none⟩ = some (.int .i64 ka.kind) ∧ w'.cell? ⟨b, off + 1, none⟩ = some (.int .i64 ka.at_) ∧ w'.cell? ⟨b, off + 2, none⟩ = some (.string ka.name) ∧ w'.cell? ⟨b, off + 3, none⟩ = some (.int .u64 ka.num) ∧ w'.cell? ⟨b, off + 4, none⟩ = some (.string ka.op) ∧ w'.cell? ⟨b, off + 5, none⟩ = some (.slice Aka ka.kids.length capka) from ⟨f.cell hb8 N8 0 rfl, f.cell hb8 N8 1 rfl, f.cell hb8 N8 2 rfl, f.cell hb8 N8 3 rfl, f.cell hb8 N8 4 rfl, f.cell hb8 N8 5 rfl, f.cell hRV.blk NP 0 rfl, f.cell hRV.blk NP 1 rfl, ((Fr.root hRV f).cell (p := ⟨b, off, none⟩) hbB).trans (((hWV.mono hr.size).cell (p := ⟨b, off, none⟩) hbB).trans d00), ((Fr.root hRV f).cell (p := ⟨b, off + 1, none⟩) hbB).trans (((hWV.mono hr.size).cell (p := ⟨b, off + 1, none⟩) hbB).trans d01), ((Fr.root hRV f).cell (p := ⟨b, off + 2, none⟩) hbB).trans (((hWV.mono hr.size).cell (p := ⟨b, off + 2, none⟩) hbB).trans d02), ((Fr.root hRV f).cell (p := ⟨b, off + 3, none⟩) hbB).trans (((hWV.mono hr.size).cell (p := ⟨b, off + 3, none⟩) hbB).trans d03), ((Fr.root hRV f).cell (p := ⟨b, off + 4, none⟩) hbB).trans (((hWV.mono hr.size).cell (p := ⟨b, off + 4, none⟩) hbB).trans d04), ((Fr.root hRV f).cell (p := ⟨b, off + 5, none⟩) hbB).trans (((hWV.mono hr.size).cell (p := ⟨b, off + 5, none⟩) hbB).trans d05)⟩)
  have R0 := Lib.hid (And.intro hRV (Fr.refl (SR mu mv) (w.alloc (.cells #[.int .i64 34, .int .i64 t.at_, .string t.name, .int .u64 t.num, .string t.op, .slice (some ⟨b, off, none⟩) 1 cap] 31))))
  have C1 := Lib.hid (fun W s1 (f : Fr (SR mu mv) (w.alloc (.cells #[.int .i64 34, .int .i64 t.at_, .string t.name, .int .u64 t.num, .string t.op, .slice (some ⟨b, off, none⟩) 1 cap] 31)) W) (r : RW W B pt mu mv nv s1) => show Calls Tryd.prog 35 #[.pointer (some ⟨pt, 0, none⟩), .agg #[.int .i64 ka.kind, .int .i64 ka.at_, .string ka.name, .int .u64 ka.num, .string ka.op, .slice Aka ka.kids.length capka], .bool gen] W (fun e w' => e = .returned (.bool ((maybeM F ka gen) s1).1) ∧ RW w' B pt mu mv nv ((maybeM F ka gen) s1).2 ∧ Fr (SR mu mv) (w.alloc (.cells #[.int .i64 34, .int .i64 t.at_, .string t.name, .int .u64 t.num, .string t.op, .slice (some ⟨b, off, none⟩) 1 cap] 31)) w') from (maybe_calls G W B pt mu mv nv s1 ka _ gen r hd0 hw0 (f.to hRV (hs0.under (hWV.mono hr.size)))).mono fun e w' ⟨h1, h2, h3⟩ => ⟨h1, h2, f.tr h3⟩)
  unfold RP
  clear hgo hr hd hk hWV hb8 N8 NP hRV
  have MC := Lib.hid (show Calls Tryd.prog 58 #[.int .i64 34] (w.alloc (.cells #[.int .i64 34, .int .i64 t.at_, .string t.name, .int .u64 t.num, .string t.op, .slice (some ⟨b, off, none⟩) 1 cap] 31)) _ from many_calls _ 34)
  have hmn : manyP 34 = 1 := rfl
  rw [hmn] at MC
  cases h1 : ((maybeM F ka gen) s).1
  · have HE := Lib.hid (show (maybeM F ka gen) s = (false, ((maybeM F ka gen) s).2) from by exact Prod.ext h1 rfl)
    have D1 := Lib.hid (fun W f r => C1.out W s f r)
    rw [h1] at D1
    rw [HE.out]
    clear C1
    clear hkind hkids hlen  h1
    go_enter Tryd.func38, Tryd.ntmps38
    go_wp2_with (first | (go_at_call 58; (with_reducible refine MC.out.mono ?_); rintro e w' ⟨rfl, rfl⟩) | (go_at_call 35; (with_reducible refine (D1.out _ R0.out.2 R0.out.1).mono ?_); rintro e v1 ⟨rfl, g1, g2⟩; have R1 := Lib.hid (And.intro g1 g2); obtain ⟨x1_0, x1_1, x1_2, x1_3, x1_4, x1_5, x1_6, x1_7, x1_8, x1_9, x1_10, x1_11, x1_12, x1_13⟩ := KX.out _ g2; clear g1 g2))
    go_ret
    exact ⟨rfl, R1.out.1, HFV.out.tr R1.out.2⟩
  · have HE := Lib.hid (show (maybeM F ka gen) s = (true, ((maybeM F ka gen) s).2) from by exact Prod.ext h1 rfl)
    have D1 := Lib.hid (fun W f r => C1.out W s f r)
    rw [h1] at D1
    rw [HE.out]
    clear C1
    clear hkind hkids hlen  h1
    go_enter Tryd.func38, Tryd.ntmps38
    go_wp2_with (first | (go_at_call 58; (with_reducible refine MC.out.mono ?_); rintro e w' ⟨rfl, rfl⟩) | (go_at_call 35; (with_reducible refine (D1.out _ R0.out.2 R0.out.1).mono ?_); rintro e v1 ⟨rfl, g1, g2⟩; have R1 := Lib.hid (And.intro g1 g2); obtain ⟨x1_0, x1_1, x1_2, x1_3, x1_4, x1_5, x1_6, x1_7, x1_8, x1_9, x1_10, x1_11, x1_12, x1_13⟩ := KX.out _ g2; clear g1 g2))
    go_ret
    exact ⟨rfl, R1.out.1, HFV.out.tr R1.out.2⟩
set_option maxRecDepth 100000 in
set_option maxHeartbeats 8000000 in
theorem st42 {F : RF} {n : Nat} (G : GoodR F n) (w : World) (B pt mu mv : Nat) (nv : Value) (s : Pl) (t : Tr) (kv : Value) (gen : Bool) (hr : RW w B pt mu mv nv s) (hd : t.fitsD (n + 1) = true) (hwf : t.wf1) (hk : KidsAt w B kv t.kids) {ka : Tr} (hkind : t.kind = 42) (hkids : t.kids = [ka]) :
    Calls Tryd.prog 38 #[.pointer (some ⟨pt, 0, none⟩), .agg #[.int .i64 t.kind, .int .i64 t.at_, .string t.name, .int .u64 t.num, .string t.op, kv], .bool gen] w (RP w B pt mu mv nv (stP F t gen s)) := by
  have hgo : stP F t gen s = (F.ex ka gen) s := by unfold stP; rw [hkind, hkids]; simp [manyP]
  rw [hgo]
  have hlen : t.kids.length = 1 := by rw [hkids]; rfl
  obtain ⟨A, cap, rfl, hcl, hcm, hA⟩ := hk.slice
  obtain ⟨b, off, rfl, hbB⟩ := hA (by omega)
  rw [hlen] at hk hcl ⊢
  clear hA
  rw [hkind]
  have hWV : Below w.heap.size w (w.alloc (.cells #[.int .i64 42, .int .i64 t.at_, .string t.name, .int .u64 t.num, .string t.op, .slice (some ⟨b, off, none⟩) 1 cap] 31)) := below_alloc (Below.refl _ _)
  have hRV : RW (w.alloc (.cells #[.int .i64 42, .int .i64 t.at_, .string t.name, .int .u64 t.num, .string t.op, .slice (some ⟨b, off, none⟩) 1 cap] 31)) B pt mu mv nv s := hr.fr hWV
  have HFV := Lib.hid (show Fr (SR mu mv) w (w.alloc (.cells #[.int .i64 42, .int .i64 t.at_, .string t.name, .int .u64 t.num, .string t.op, .slice (some ⟨b, off, none⟩) 1 cap] 31)) from Fr.of_below hWV)
  have hb8 : Blk (w.alloc (.cells #[.int .i64 42, .int .i64 t.at_, .string t.name, .int .u64 t.num, .string t.op, .slice (some ⟨b, off, none⟩) 1 cap] 31)) w.heap.size 31 #[.int .i64 42, .int .i64 t.at_, .string t.name, .int .u64 t.num, .string t.op, .slice (some ⟨b, off, none⟩) 1 cap] := Blk.new _ _ _
  have hpl := hr.blk.lt
  have hbw : b < w.heap.size := Nat.lt_of_lt_of_le hbB hr.size
  have hn1 : w.heap.size ≠ b := by omega
  have hn2 : w.heap.size ≠ pt := by omega
  have N8 := Fr.not_sr hRV hb8
  have NP := Fr.not_sr hRV hRV.blk
  obtain ⟨cpu, cpv⟩ := hr.cells
  have hi0 : t.kids[0]? = some ka := by rw [hkids]; rfl
  have hd0 := Tr.fitsD_kid hd (List.mem_of_getElem? hi0)
  obtain ⟨_, hw0, kv0, hn0, hs0⟩ := hk.kid hi0
  obtain ⟨Aka, capka, rfl, _, _, _⟩ := hs0.slice
  obtain ⟨d00, d01, d02, d03, d04, d05⟩ := kid_cells hn0 (off) (by omega)
  have KX := Lib.hid (fun w' (f : Fr (SR mu mv) (w.alloc (.cells #[.int .i64 42, .int .i64 t.at_, .string t.name, .int .u64 t.num, .string t.op, .slice (some ⟨b, off, none⟩) 1 cap] 31)) w') => show w'.cell? ⟨w.heap.size, 0, none⟩ = some (.int .i64 42) ∧ w'.cell? ⟨w.heap.size, 1, none⟩ = some (.int .i64 t.at_) ∧ w'.cell? ⟨w.heap.size, 2, none⟩ = some (.string t.name) ∧ w'.cell? ⟨w.heap.size, 3, none⟩ = some (.int .u64 t.num) ∧ w'.cell? ⟨w.heap.size, 4, none⟩ = some (.string t.op) ∧ w'.cell? ⟨w.heap.size, 5, none⟩ = some (.slice (some ⟨b, off, none⟩) 1 cap) ∧ w'.cell? ⟨pt, 0, none⟩ = some (.map (some mu)) ∧ w'.cell? ⟨pt, 1, none⟩ = some (.map (some mv)) ∧ w'.cell? ⟨b, off, none⟩ = some (.int .i64 ka.kind) ∧ w'.cell? ⟨b, off + 1, none⟩ = some (.int .i64 ka.at_) ∧ w'.cell? ⟨b, off + 2, none⟩ = some (.string ka.name) ∧ w'.cell? ⟨b, off + 3, none⟩ = some (.int .u64 ka.num) ∧ w'.cell? ⟨b, off + 4, none⟩ = some (.string ka.op) ∧ w'.cell? ⟨b, off + 5, none⟩ = some (.slice Aka ka.kids.length capka) from ⟨f.cell hb8 N8 0 rfl, f.cell hb8 N8 1 rfl, f.cell hb8 N8 2 rfl, f.cell hb8 N8 3 rfl, f.cell hb8 N8 4 rfl, f.cell hb8 N8 5 rfl, f.cell hRV.blk NP 0 rfl, f.cell hRV.blk NP 1 rfl, ((Fr.root hRV f).cell (p := ⟨b, off, none⟩) hbB).trans (((hWV.mono hr.size).cell (p := ⟨b, off, none⟩) hbB).trans d00), ((Fr.root hRV f).cell (p := ⟨b, off + 1, none⟩) hbB).trans (((hWV.mono hr.size).cell (p := ⟨b, off + 1, none⟩) hbB).trans d01), ((Fr.root hRV f).cell (p := ⟨b, off + 2, none⟩) hbB).trans (((hWV.mono hr.size).cell (p := ⟨b, off + 2, none⟩) hbB).trans d02), ((Fr.root hRV f).cell (p := ⟨b, off + 3, none⟩) hbB).trans (((hWV.mono hr.size).cell (p := ⟨b, off + 3, none⟩) hbB).trans d03), ((Fr.root hRV f).cell (p := ⟨b, off + 4, none⟩) hbB).trans (((hWV.mono hr.size).cell (p := ⟨b, off + 4, none⟩) hbB).trans d04), ((Fr.root hRV f).cell (p := ⟨b, off + 5, none⟩) hbB).trans (((hWV.mono hr.size).cell (p := ⟨b, off + 5, none⟩) hbB).trans d05)⟩)
  have R0 := Lib.hid (And.intro hRV (Fr.refl (SR mu mv) (w.alloc (.cells #[.int .i64 42, .int .i64 t.at_, .string t.name, .int .u64 t.num, .string t.op, .slice (some ⟨b, off, none⟩) 1 cap] 31))))
  have C1 := Lib.hid (fun W s1 (f : Fr (SR mu mv) (w.alloc (.cells #[.int .i64 42, .int .i64 t.at_, .string t.name, .int .u64 t.num, .string t.op, .slice (some ⟨b, off, none⟩) 1 cap] 31)) W) (r : RW W B pt mu mv nv s1) => show Calls Tryd.prog 36 #[.pointer (some ⟨pt, 0, none⟩), .agg #[.int .i64 ka.kind, .int .i64 ka.at_, .string ka.name, .int .u64 ka.num, .string ka.op, .slice Aka ka.kids.length capka], .bool gen] W (fun e w' => e = .returned (.bool ((F.ex ka gen) s1).1) ∧ RW w' B pt mu mv nv ((F.ex ka gen) s1).2 ∧ Fr (SR mu mv) (w.alloc (.cells #[.int .i64 42, .int .i64 t.at_, .string t.name, .int .u64 t.num, .string t.op, .slice (some ⟨b, off, none⟩) 1 cap] 31)) w') from (G.ex W B pt mu mv nv s1 ka _ gen r hd0 hw0 (f.to hRV (hs0.under (hWV.mono hr.size)))).mono fun e w' ⟨h1, h2, h3⟩ => ⟨h1, h2, f.tr h3⟩)
  unfold RP
  clear hgo hr hd hk hWV hb8 N8 NP hRV
  have MC := Lib.hid (show Calls Tryd.prog 58 #[.int .i64 42] (w.alloc (.cells #[.int .i64 42, .int .i64 t.at_, .string t.name, .int .u64 t.num, .string t.op, .slice (some ⟨b, off, none⟩) 1 cap] 31)) _ from many_calls _ 42)
  have hmn : manyP 42 = 1 := rfl
  rw [hmn] at MC
  cases h1 : ((F.ex ka gen) s).1
  · have HE := Lib.hid (show (F.ex ka gen) s = (false, ((F.ex ka gen) s).2) from by exact Prod.ext h1 rfl)
    have D1 := Lib.hid (fun W f r => C1.out W s f r)
    rw [h1] at D1
    rw [HE.out]
    clear C1
    clear hkind hkids hlen  h1
    go_enter Tryd.func38, Tryd.ntmps38
    go_wp2_with (first | (go_at_call 58; (with_reducible refine MC.out.mono ?_); rintro e w' ⟨rfl, rfl⟩) | (go_at_call 36; (with_reducible refine (D1.out _ R0.out.2 R0.out.1).mono ?_); rintro e v1 ⟨rfl, g1, g2⟩; have R1 := Lib.hid (And.intro g1 g2); obtain ⟨x1_0, x1_1, x1_2, x1_3, x1_4, x1_5, x1_6, x1_7, x1_8, x1_9, x1_10, x1_11, x1_12, x1_13⟩ := KX.out _ g2; clear g1 g2))
    go_ret
    exact ⟨rfl, R1.out.1, HFV.out.tr R1.out.2⟩
  · have HE := Lib.hid (show (F.ex ka gen) s = (true, ((F.ex ka gen) s).2) from by exact Prod.ext h1 rfl)
    have D1 := Lib.hid (fun W f r => C1.out W s f r)
    rw [h1] at D1
    rw [HE.out]
    clear C1
    clear hkind hkids hlen  h1
    go_enter Tryd.func38, Tryd.ntmps38
    go_wp2_with (first | (go_at_call 58; (with_reducible refine MC.out.mono ?_); rintro e w' ⟨rfl, rfl⟩) | (go_at_call 36; (with_reducible refine (D1.out _ R0.out.2 R0.out.1).mono ?_); rintro e v1 ⟨rfl, g1, g2⟩; have R1 := Lib.hid (And.intro g1 g2); obtain ⟨x1_0, x1_1, x1_2, x1_3, x1_4, x1_5, x1_6, x1_7, x1_8, x1_9, x1_10, x1_11, x1_12, x1_13⟩ := KX.out _ g2; clear g1 g2))
    go_ret
    exact ⟨rfl, R1.out.1, HFV.out.tr R1.out.2⟩
set_option maxRecDepth 100000 in
set_option maxHeartbeats 8000000 in
theorem st46 {F : RF} {n : Nat} (G : GoodR F n) (w : World) (B pt mu mv : Nat) (nv : Value) (s : Pl) (t : Tr) (kv : Value) (gen : Bool) (hr : RW w B pt mu mv nv s) (hd : t.fitsD (n + 1) = true) (hwf : t.wf1) (hk : KidsAt w B kv t.kids) {ka : Tr} (hkind : t.kind = 46) (hkids : t.kids = [ka]) :
    Calls Tryd.prog 38 #[.pointer (some ⟨pt, 0, none⟩), .agg #[.int .i64 t.kind, .int .i64 t.at_, .string t.name, .int .u64 t.num, .string t.op, kv], .bool gen] w (RP w B pt mu mv nv (stP F t gen s)) := by
  have hgo : stP F t gen s = (F.ex ka gen) s := by unfold stP; rw [hkind, hkids]; simp [manyP]
  rw [hgo]
  have hlen : t.kids.length = 1 := by rw [hkids]; rfl
  obtain ⟨A, cap, rfl, hcl, hcm, hA⟩ := hk.slice
  obtain ⟨b, off, rfl, hbB⟩ := hA (by omega)
  rw [hlen] at hk hcl ⊢
  clear hA
  rw [hkind]
  have hWV : Below w.heap.size w (w.alloc (.cells #[.int .i64 46, .int .i64 t.at_, .string t.name, .int .u64 t.num, .string t.op, .slice (some ⟨b, off, none⟩) 1 cap] 31)) := below_alloc (Below.refl _ _)
  have hRV : RW (w.alloc (.cells #[.int .i64 46, .int .i64 t.at_, .string t.name, .int .u64 t.num, .string t.op, .slice (some ⟨b, off, none⟩) 1 cap] 31)) B pt mu mv nv s := hr.fr hWV
  have HFV := Lib.hid (show Fr (SR mu mv) w (w.alloc (.cells #[.int .i64 46, .int .i64 t.at_, .string t.name, .int .u64 t.num, .string t.op, .slice (some ⟨b, off, none⟩) 1 cap] 31)) from Fr.of_below hWV)
  have hb8 : Blk (w.alloc (.cells #[.int .i64 46, .int .i64 t.at_, .string t.name, .int .u64 t.num, .string t.op, .slice (some ⟨b, off, none⟩) 1 cap] 31)) w.heap.size 31 #[.int .i64 46, .int .i64 t.at_, .string t.name, .int .u64 t.num, .string t.op, .slice (some ⟨b, off, none⟩) 1 cap] := Blk.new _ _ _
  have hpl := hr.blk.lt
  have hbw : b < w.heap.size := Nat.lt_of_lt_of_le hbB hr.size
  have hn1 : w.heap.size ≠ b := by omega
  have hn2 : w.heap.size ≠ pt := by omega
  have N8 := Fr.not_sr hRV hb8
  have NP := Fr.not_sr hRV hRV.blk
  obtain ⟨cpu, cpv⟩ := hr.cells
  have hi0 : t.kids[0]? = some ka := by rw [hkids]; rfl
  have hd0 := Tr.fitsD_kid hd (List.mem_of_getElem? hi0)
  obtain ⟨_, hw0, kv0, hn0, hs0⟩ := hk.kid hi0
  obtain ⟨Aka, capka, rfl, _, _, _⟩ := hs0.slice
  obtain ⟨d00, d01, d02, d03, d04, d05⟩ := kid_cells hn0 (off) (by omega)
  have KX := Lib.hid (fun w' (f : Fr (SR mu mv) (w.alloc (.cells #[.int .i64 46, .int .i64 t.at_, .string t.name, .int .u64 t.num, .string t.op, .slice (some ⟨b, off, none⟩) 1 cap] 31)) w') => show w'.cell? ⟨w.heap.size, 0, none⟩ = some (.int .i64 46) ∧ w'.cell? ⟨w.heap.size, 1, none⟩ = some (.int .i64 t.at_) ∧ w'.cell? ⟨w.heap.size, 2, none⟩ = some (.string t.name) ∧ w'.cell? ⟨w.heap.size, 3, none⟩ = some (.int .u64 t.num) ∧ w'.cell? ⟨w.heap.size, 4, none⟩ = some (.string t.op) ∧ w'.cell? ⟨w.heap.size, 5, none⟩ = some (.slice (some ⟨b, off, none⟩) 1 cap) ∧ w'.cell? ⟨pt, 0, none⟩ = some (.map (some mu)) ∧ w'.cell? ⟨pt, 1, none⟩ = some (.map (some mv)) ∧ w'.cell? ⟨b, off, none⟩ = some (.int .i64 ka.kind) ∧ w'.cell? ⟨b, off + 1, none⟩ = some (.int .i64 ka.at_) ∧ w'.cell? ⟨b, off + 2, none⟩ = some (.string ka.name) ∧ w'.cell? ⟨b, off + 3, none⟩ = some (.int .u64 ka.num) ∧ w'.cell? ⟨b, off + 4, none⟩ = some (.string ka.op) ∧ w'.cell? ⟨b, off + 5, none⟩ = some (.slice Aka ka.kids.length capka) from ⟨f.cell hb8 N8 0 rfl, f.cell hb8 N8 1 rfl, f.cell hb8 N8 2 rfl, f.cell hb8 N8 3 rfl, f.cell hb8 N8 4 rfl, f.cell hb8 N8 5 rfl, f.cell hRV.blk NP 0 rfl, f.cell hRV.blk NP 1 rfl, ((Fr.root hRV f).cell (p := ⟨b, off, none⟩) hbB).trans (((hWV.mono hr.size).cell (p := ⟨b, off, none⟩) hbB).trans d00), ((Fr.root hRV f).cell (p := ⟨b, off + 1, none⟩) hbB).trans (((hWV.mono hr.size).cell (p := ⟨b, off + 1, none⟩) hbB).trans d01), ((Fr.root hRV f).cell (p := ⟨b, off + 2, none⟩) hbB).trans (((hWV.mono hr.size).cell (p := ⟨b, off + 2, none⟩) hbB).trans d02), ((Fr.root hRV f).cell (p := ⟨b, off + 3, none⟩) hbB).trans (((hWV.mono hr.size).cell (p := ⟨b, off + 3, none⟩) hbB).trans d03), ((Fr.root hRV f).cell (p := ⟨b, off + 4, none⟩) hbB).trans (((hWV.mono hr.size).cell (p := ⟨b, off + 4, none⟩) hbB).trans d04), ((Fr.root hRV f).cell (p := ⟨b, off + 5, none⟩) hbB).trans (((hWV.mono hr.size).cell (p := ⟨b, off + 5, none⟩) hbB).trans d05)⟩)
  have R0 := Lib.hid (And.intro hRV (Fr.refl (SR mu mv) (w.alloc (.cells #[.int .i64 46, .int .i64 t.at_, .string t.name, .int .u64 t.num, .string t.op, .slice (some ⟨b, off, none⟩) 1 cap] 31))))
  have C1 := Lib.hid (fun W s1 (f : Fr (SR mu mv) (w.alloc (.cells #[.int .i64 46, .int .i64 t.at_, .string t.name, .int .u64 t.num, .string t.op, .slice (some ⟨b, off, none⟩) 1 cap] 31)) W) (r : RW W B pt mu mv nv s1) => show Calls Tryd.prog 36 #[.pointer (some ⟨pt, 0, none⟩), .agg #[.int .i64 ka.kind, .int .i64 ka.at_, .string ka.name, .int .u64 ka.num, .string ka.op, .slice Aka ka.kids.length capka], .bool gen] W (fun e w' => e = .returned (.bool ((F.ex ka gen) s1).1) ∧ RW w' B pt mu mv nv ((F.ex ka gen) s1).2 ∧ Fr (SR mu mv) (w.alloc (.cells #[.int .i64 46, .int .i64 t.at_, .string t.name, .int .u64 t.num, .string t.op, .slice (some ⟨b, off, none⟩) 1 cap] 31)) w') from (G.ex W B pt mu mv nv s1 ka _ gen r hd0 hw0 (f.to hRV (hs0.under (hWV.mono hr.size)))).mono fun e w' ⟨h1, h2, h3⟩ => ⟨h1, h2, f.tr h3⟩)
  unfold RP
  clear hgo hr hd hk hWV hb8 N8 NP hRV
  have MC := Lib.hid (show Calls Tryd.prog 58 #[.int .i64 46] (w.alloc (.cells #[.int .i64 46, .int .i64 t.at_, .string t.name, .int .u64 t.num, .string t.op, .slice (some ⟨b, off, none⟩) 1 cap] 31)) _ from many_calls _ 46)
  have hmn : manyP 46 = 1 := rfl
  rw [hmn] at MC
  cases h1 : ((F.ex ka gen) s).1
  · have HE := Lib.hid (show (F.ex ka gen) s = (false, ((F.ex ka gen) s).2) from by exact Prod.ext h1 rfl)
    have D1 := Lib.hid (fun W f r => C1.out W s f r)
    rw [h1] at D1
    rw [HE.out]
    clear C1
    clear hkind hkids hlen  h1
    go_enter Tryd.func38, Tryd.ntmps38
    go_wp2_with (first | (go_at_call 58; (with_reducible refine MC.out.mono ?_); rintro e w' ⟨rfl, rfl⟩) | (go_at_call 36; (with_reducible refine (D1.out _ R0.out.2 R0.out.1).mono ?_); rintro e v1 ⟨rfl, g1, g2⟩; have R1 := Lib.hid (And.intro g1 g2); obtain ⟨x1_0, x1_1, x1_2, x1_3, x1_4, x1_5, x1_6, x1_7, x1_8, x1_9, x1_10, x1_11, x1_12, x1_13⟩ := KX.out _ g2; clear g1 g2))
    go_ret
    exact ⟨rfl, R1.out.1, HFV.out.tr R1.out.2⟩
  · have HE := Lib.hid (show (F.ex ka gen) s = (true, ((F.ex ka gen) s).2) from by exact Prod.ext h1 rfl)
    have D1 := Lib.hid (fun W f r => C1.out W s f r)
    rw [h1] at D1
    rw [HE.out]
    clear C1
    clear hkind hkids hlen  h1
    go_enter Tryd.func38, Tryd.ntmps38
    go_wp2_with (first | (go_at_call 58; (with_reducible refine MC.out.mono ?_); rintro e w' ⟨rfl, rfl⟩) | (go_at_call 36; (with_reducible refine (D1.out _ R0.out.2 R0.out.1).mono ?_); rintro e v1 ⟨rfl, g1, g2⟩; have R1 := Lib.hid (And.intro g1 g2); obtain ⟨x1_0, x1_1, x1_2, x1_3, x1_4, x1_5, x1_6, x1_7, x1_8, x1_9, x1_10, x1_11, x1_12, x1_13⟩ := KX.out _ g2; clear g1 g2))
    go_ret
    exact ⟨rfl, R1.out.1, HFV.out.tr R1.out.2⟩
set_option maxRecDepth 100000 in
set_option maxHeartbeats 8000000 in
theorem st41 {F : RF} {n : Nat} (G : GoodR F n) (w : World) (B pt mu mv : Nat) (nv : Value) (s : Pl) (t : Tr) (kv : Value) (gen : Bool) (hr : RW w B pt mu mv nv s) (hd : t.fitsD (n + 1) = true) (hwf : t.wf1) (hk : KidsAt w B kv t.kids) {ka : Tr} (hkind : t.kind = 41) (hkids : t.kids = [ka]) :
    Calls Tryd.prog 38 #[.pointer (some ⟨pt, 0, none⟩), .agg #[.int .i64 t.kind, .int .i64 t.at_, .string t.name, .int .u64 t.num, .string t.op, kv], .bool gen] w (RP w B pt mu mv nv (stP F t gen s)) := by
  have hgo : stP F t gen s = (F.st ka gen) s := by unfold stP; rw [hkind, hkids]; simp [manyP]
  rw [hgo]
  have hlen : t.kids.length = 1 := by rw [hkids]; rfl
  obtain ⟨A, cap, rfl, hcl, hcm, hA⟩ := hk.slice
  obtain ⟨b, off, rfl, hbB⟩ := hA (by omega)
  rw [hlen] at hk hcl ⊢
  clear hA
  rw [hkind]
  have hWV : Below w.heap.size w (w.alloc (.cells #[.int .i64 41, .int .i64 t.at_, .string t.name, .int .u64 t.num, .string t.op, .slice (some ⟨b, off, none⟩) 1 cap] 31)) := below_alloc (Below.refl _ _)
  have hRV : RW (w.alloc (.cells #[.int .i64 41, .int .i64 t.at_, .string t.name, .int .u64 t.num, .string t.op, .slice (some ⟨b, off, none⟩) 1 cap] 31)) B pt mu mv nv s := hr.fr hWV
  have HFV := Lib.hid (show Fr (SR mu mv) w (w.alloc (.cells #[.int .i64 41, .int .i64 t.at_, .string t.name, .int .u64 t.num, .string t.op, .slice (some ⟨b, off, none⟩) 1 cap] 31)) from Fr.of_below hWV)
  have hb8 : Blk (w.alloc (.cells #[.int .i64 41, .int .i64 t.at_, .string t.name, .int .u64 t.num, .string t.op, .slice (some ⟨b, off, none⟩) 1 cap] 31)) w.heap.size 31 #[.int .i64 41, .int .i64 t.at_, .string t.name, .int .u64 t.num, .string t.op, .slice (some ⟨b, off, none⟩) 1 cap] := Blk.new _ _ _
  have hpl := hr.blk.lt
  have hbw : b < w.heap.size := Nat.lt_of_lt_of_le hbB hr.size
  have hn1 : w.heap.size ≠ b := by omega
  have hn2 : w.heap.size ≠ pt := by omega
  have N8 := Fr.not_sr hRV hb8
  have NP := Fr.not_sr hRV hRV.blk
  obtain ⟨cpu, cpv⟩ := hr.cells
  have hi0 : t.kids[0]? = some ka := by rw [hkids]; rfl
  have hd0 := Tr.fitsD_kid hd (List.mem_of_getElem? hi0)
  obtain ⟨_, hw0, kv0, hn0, hs0⟩ := hk.kid hi0
  obtain ⟨Aka, capka, rfl, _, _, _⟩ := hs0.slice
  obtain ⟨d00, d01, d02, d03, d04, d05⟩ := kid_cells hn0 (off) (by omega)
  have KX := Lib.hid (fun w' (f : Fr (SR mu mv) (w.alloc (.cells #[.int .i64 41, .int .i64 t.at_, .string t.name, .int .u64 t.num, .string t.op, .slice (some ⟨b, off, none⟩) 1 cap] 31)) w') => show w'.cell? ⟨w.heap.size, 0, none⟩ = some (.int .i64 41) ∧ w'.cell? ⟨w.heap.size, 1, none⟩ = some (.int .i64 t.at_) ∧ w'.cell? ⟨w.heap.size, 2, none⟩ = some (.string t.name) ∧ w'.cell? ⟨w.heap.size, 3, none⟩ = some (.int .u64 t.num) ∧ w'.cell? ⟨w.heap.size, 4, none⟩ = some (.string t.op) ∧ w'.cell? ⟨w.heap.size, 5, none⟩ = some (.slice (some ⟨b, off, none⟩) 1 cap) ∧ w'.cell? ⟨pt, 0, none⟩ = some (.map (some mu)) ∧ w'.cell? ⟨pt, 1, none⟩ = some (.map (some mv)) ∧ w'.cell? ⟨b, off, none⟩ = some (.int .i64 ka.kind) ∧ w'.cell? ⟨b, off + 1, none⟩ = some (.int .i64 ka.at_) ∧ w'.cell? ⟨b, off + 2, none⟩ = some (.string ka.name) ∧ w'.cell? ⟨b, off + 3, none⟩ = some (.int .u64 ka.num) ∧ w'.cell? ⟨b, off + 4, none⟩ = some (.string ka.op) ∧ w'.cell? ⟨b, off + 5, none⟩ = some (.slice Aka ka.kids.length capka) from ⟨f.cell hb8 N8 0 rfl, f.cell hb8 N8 1 rfl, f.cell hb8 N8 2 rfl, f.cell hb8 N8 3 rfl, f.cell hb8 N8 4 rfl, f.cell hb8 N8 5 rfl, f.cell hRV.blk NP 0 rfl, f.cell hRV.blk NP 1 rfl, ((Fr.root hRV f).cell (p := ⟨b, off, none⟩) hbB).trans (((hWV.mono hr.size).cell (p := ⟨b, off, none⟩) hbB).trans d00), ((Fr.root hRV f).cell (p := ⟨b, off + 1, none⟩) hbB).trans (((hWV.mono hr.size).cell (p := ⟨b, off + 1, none⟩) hbB).trans d01), ((Fr.root hRV f).cell (p := ⟨b, off + 2, none⟩) hbB).trans (((hWV.mono hr.size).cell (p := ⟨b, off + 2, none⟩) hbB).trans d02), ((Fr.root hRV f).cell (p := ⟨b, off + 3, none⟩) hbB).trans (((hWV.mono hr.size).cell (p := ⟨b, off + 3, none⟩) hbB).trans d03), ((Fr.root hRV f).cell (p := ⟨b, off + 4, none⟩) hbB).trans (((hWV.mono hr.size).cell (p := ⟨b, off + 4, none⟩) hbB).trans d04), ((Fr.root hRV f).cell (p := ⟨b, off + 5, none⟩) hbB).trans (((hWV.mono hr.size).cell (p := ⟨b, off + 5, none⟩) hbB).trans d05)⟩)
  have R0 := Lib.hid (And.intro hRV (Fr.refl (SR mu mv) (w.alloc (.cells #[.int .i64 41, .int .i64 t.at_, .string t.name, .int .u64 t.num, .string t.op, .slice (some ⟨b, off, none⟩) 1 cap] 31))))
  have C1 := Lib.hid (fun W s1 (f : Fr (SR mu mv) (w.alloc (.cells #[.int .i64 41, .int .i64 t.at_, .string t.name, .int .u64 t.num, .string t.op, .slice (some ⟨b, off, none⟩) 1 cap] 31)) W) (r : RW W B pt mu mv nv s1) => show Calls Tryd.prog 38 #[.pointer (some ⟨pt, 0, none⟩), .agg #[.int .i64 ka.kind, .int .i64 ka.at_, .string ka.name, .int .u64 ka.num, .string ka.op, .slice Aka ka.kids.length capka], .bool gen] W (fun e w' => e = .returned (.bool ((F.st ka gen) s1).1) ∧ RW w' B pt mu mv nv ((F.st ka gen) s1).2 ∧ Fr (SR mu mv) (w.alloc (.cells #[.int .i64 41, .int .i64 t.at_, .string t.name, .int .u64 t.num, .string t.op, .slice (some ⟨b, off, none⟩) 1 cap] 31)) w') from (G.st W B pt mu mv nv s1 ka _ gen r hd0 hw0 (f.to hRV (hs0.under (hWV.mono hr.size)))).mono fun e w' ⟨h1, h2, h3⟩ => ⟨h1, h2, f.tr h3⟩)
  unfold RP
  clear hgo hr hd hk hWV hb8 N8 NP hRV
  have MC := Lib.hid (show Calls Tryd.prog 58 #[.int .i64 41] (w.alloc (.cells #[.int .i64 41, .int .i64 t.at_, .string t.name, .int .u64 t.num, .string t.op, .slice (some ⟨b, off, none⟩) 1 cap] 31)) _ from many_calls _ 41)
  have hmn : manyP 41 = 1 := rfl
  rw [hmn] at MC
  cases h1 : ((F.st ka gen) s).1
  · have HE := Lib.hid (show (F.st ka gen) s = (false, ((F.st ka gen) s).2) from by exact Prod.ext h1 rfl)
    have D1 := Lib.hid (fun W f r => C1.out W s f r)
    rw [h1] at D1
    rw [HE.out]
    clear C1
    clear hkind hkids hlen  h1
    go_enter Tryd.func38, Tryd.ntmps38
    go_wp2_with (first | (go_at_call 58; (with_reducible refine MC.out.mono ?_); rintro e w' ⟨rfl, rfl⟩) | (go_at_call 38; (with_reducible refine (D1.out _ R0.out.2 R0.out.1).mono ?_); rintro e v1 ⟨rfl, g1, g2⟩; have R1 := Lib.hid (And.intro g1 g2); obtain ⟨x1_0, x1_1, x1_2, x1_3, x1_4, x1_5, x1_6, x1_7, x1_8, x1_9, x1_10, x1_11, x1_12, x1_13⟩ := KX.out _ g2; clear g1 g2))
    go_ret
    exact ⟨rfl, R1.out.1, HFV.out.tr R1.out.2⟩
  · have HE := Lib.hid (show (F.st ka gen) s = (true, ((F.st ka gen) s).2) from by exact Prod.ext h1 rfl)
    have D1 := Lib.hid (fun W f r => C1.out W s f r)
    rw [h1] at D1
    rw [HE.out]
    clear C1
    clear hkind hkids hlen  h1
    go_enter Tryd.func38, Tryd.ntmps38
    go_wp2_with (first | (go_at_call 58; (with_reducible refine MC.out.mono ?_); rintro e w' ⟨rfl, rfl⟩) | (go_at_call 38; (with_reducible refine (D1.out _ R0.out.2 R0.out.1).mono ?_); rintro e v1 ⟨rfl, g1, g2⟩; have R1 := Lib.hid (And.intro g1 g2); obtain ⟨x1_0, x1_1, x1_2, x1_3, x1_4, x1_5, x1_6, x1_7, x1_8, x1_9, x1_10, x1_11, x1_12, x1_13⟩ := KX.out _ g2; clear g1 g2))
    go_ret
    exact ⟨rfl, R1.out.1, HFV.out.tr R1.out.2⟩
set_option maxRecDepth 100000 in
set_option maxHeartbeats 8000000 in
theorem st36 {F : RF} {n : Nat} (G : GoodR F n) (w : World) (B pt mu mv : Nat) (nv : Value) (s : Pl) (t : Tr) (kv : Value) (gen : Bool) (hr : RW w B pt mu mv nv s) (hd : t.fitsD (n + 1) = true) (hwf : t.wf1) (hk : KidsAt w B kv t.kids) {ka : Tr} {kb : Tr} (hkind : t.kind = 36) (hkids : t.kids = [ka, kb]) :
    Calls Tryd.prog 38 #[.pointer (some ⟨pt, 0, none⟩), .agg #[.int .i64 t.kind, .int .i64 t.at_, .string t.name, .int .u64 t.num, .string t.op, kv], .bool gen] w (RP w B pt mu mv nv (stP F t gen s)) := by
  have hgo : stP F t gen s = (andM (F.ex ka gen) (F.st kb gen)) s := by unfold stP; rw [hkind, hkids]; simp [manyP]
  rw [hgo]
  have hlen : t.kids.length = 2 := by rw [hkids]; rfl
  obtain ⟨A, cap, rfl, hcl, hcm, hA⟩ := hk.slice
  obtain ⟨b, off, rfl, hbB⟩ := hA (by omega)
  rw [hlen] at hk hcl ⊢
  clear hA
  rw [hkind]
  have hWV : Below w.heap.size w (w.alloc (.cells #[.int .i64 36, .int .i64 t.at_, .string t.name, .int .u64 t.num, .string t.op, .slice (some ⟨b, off, none⟩) 2 cap] 31)) := below_alloc (Below.refl _ _)
  have hRV : RW (w.alloc (.cells #[.int .i64 36, .int .i64 t.at_, .string t.name, .int .u64 t.num, .string t.op, .slice (some ⟨b, off, none⟩) 2 cap] 31)) B pt mu mv nv s := hr.fr hWV
  have HFV := Lib.hid (show Fr (SR mu mv) w (w.alloc (.cells #[.int .i64 36, .int .i64 t.at_, .string t.name, .int .u64 t.num, .string t.op, .slice (some ⟨b, off, none⟩) 2 cap] 31)) from Fr.of_below hWV)
  have hb8 : Blk (w.alloc (.cells #[.int .i64 36, .int .i64 t.at_, .string t.name, .int .u64 t.num, .string t.op, .slice (some ⟨b, off, none⟩) 2 cap] 31)) w.heap.size 31 #[.int .i64 36, .int .i64 t.at_, .string t.name, .int .u64 t.num, .string t.op, .slice (some ⟨b, off, none⟩) 2 cap] := Blk.new _ _ _
  have hpl := hr.blk.lt
  have hbw : b < w.heap.size := Nat.lt_of_lt_of_le hbB hr.size
  have hn1 : w.heap.size ≠ b := by omega
  have hn2 : w.heap.size ≠ pt := by omega
  have N8 := Fr.not_sr hRV hb8
  have NP := Fr.not_sr hRV hRV.blk
  obtain ⟨cpu, cpv⟩ := hr.cells
  have hi0 : t.kids[0]? = some ka := by rw [hkids]; rfl
  have hd0 := Tr.fitsD_kid hd (List.mem_of_getElem? hi0)
  obtain ⟨_, hw0, kv0, hn0, hs0⟩ := hk.kid hi0
  obtain ⟨Aka, capka, rfl, _, _, _⟩ := hs0.slice
  obtain ⟨d00, d01, d02, d03, d04, d05⟩ := kid_cells hn0 (off) (by omega)
  have hi1 : t.kids[1]? = some kb := by rw [hkids]; rfl
  have hd1 := Tr.fitsD_kid hd (List.mem_of_getElem? hi1)
  obtain ⟨_, hw1, kv1, hn1, hs1⟩ := hk.kid hi1
  obtain ⟨Akb, capkb, rfl, _, _, _⟩ := hs1.slice
  obtain ⟨d10, d11, d12, d13, d14, d15⟩ := kid_cells hn1 (off + 6) (by omega)
  have KX := Lib.hid (fun w' (f : Fr (SR mu mv) (w.alloc (.cells #[.int .i64 36, .int .i64 t.at_, .string t.name, .int .u64 t.num, .string t.op, .slice (some ⟨b, off, none⟩) 2 cap] 31)) w') => show w'.cell? ⟨w.heap.size, 0, none⟩ = some (.int .i64 36) ∧ w'.cell? ⟨w.heap.size, 1, none⟩ = some (.int .i64 t.at_) ∧ w'.cell? ⟨w.heap.size, 2, none⟩ = some (.string t.name) ∧ w'.cell? ⟨w.heap.size, 3, none⟩ = some (.int .u64 t.num) ∧ w'.cell? ⟨w.heap.size, 4, none⟩ = some (.string t.op) ∧ w'.cell? ⟨w.heap.size, 5, none⟩ = some (.slice (some ⟨b, off, none⟩) 2 cap) ∧ w'.cell? ⟨pt, 0, none⟩ = some (.map (some mu)) ∧ w'.cell? ⟨pt, 1, none⟩ = some (.map (some mv)) ∧ w'.cell? ⟨b, off, none⟩ = some (.int .i64 ka.kind) ∧ w'.cell? ⟨b, off + 1, none⟩ = some (.int .i64 ka.at_) ∧ w'.cell? ⟨b, off + 2, none⟩ = some (.string ka.name) ∧ w'.cell? ⟨b, off + 3, none⟩ = some (.int .u64 ka.num) ∧ w'.cell? ⟨b, off + 4, none⟩ = some (.string ka.op) ∧ w'.cell? ⟨b, off + 5, none⟩ = some (.slice Aka ka.kids.length capka) ∧ w'.cell? ⟨b, off + 6, none⟩ = some (.int .i64 kb.kind) ∧ w'.cell? ⟨b, off + 7, none⟩ = some (.int .i64 kb.at_) ∧ w'.cell? ⟨b, off + 8, none⟩ = some (.string kb.name) ∧ w'.cell? ⟨b, off + 9, none⟩ = some (.int .u64 kb.num) ∧ w'.cell? ⟨b, off + 10, none⟩ = some (.string kb.op) ∧ w'.cell? ⟨b, off + 11, none⟩ = some (.slice Akb kb.kids.length capkb) from ⟨f.cell hb8 N8 0 rfl, f.cell hb8 N8 1 rfl, f.cell hb8 N8 2 rfl, f.cell hb8 N8 3 rfl, f.cell hb8 N8 4 rfl, f.cell hb8 N8 5 rfl, f.cell hRV.blk NP 0 rfl, f.cell hRV.blk NP 1 rfl, ((Fr.root hRV f).cell (p := ⟨b, off, none⟩) hbB).trans (((hWV.mono hr.size).cell (p := ⟨b, off, none⟩) hbB).trans d00), ((Fr.root hRV f).cell (p := ⟨b, off + 1, none⟩) hbB).trans (((hWV.mono hr.size).cell (p := ⟨b, off + 1, none⟩) hbB).trans d01), ((Fr.root hRV f).cell (p := ⟨b, off + 2, none⟩) hbB).trans (((hWV.mono hr.size).cell (p := ⟨b, off + 2, none⟩) hbB).trans d02), ((Fr.root hRV f).cell (p := ⟨b, off + 3, none⟩) hbB).trans (((hWV.mono hr.size).cell (p := ⟨b, off + 3, none⟩) hbB).trans d03), ((Fr.root hRV f).cell (p := ⟨b, off + 4, none⟩) hbB).trans (((hWV.mono hr.size).cell (p := ⟨b, off + 4, none⟩) hbB).trans d04), ((Fr.root hRV f).cell (p := ⟨b, off + 5, none⟩) hbB).trans (((hWV.mono hr.size).cell (p := ⟨b, off + 5, none⟩) hbB).trans d05), ((Fr.root hRV f).cell (p := ⟨b, off + 6, none⟩) hbB).trans (((hWV.mono hr.size).cell (p := ⟨b, off + 6, none⟩) hbB).trans d10), ((Fr.root hRV f).cell (p := ⟨b, off + 7, none⟩) hbB).trans (((hWV.mono hr.size).cell (p := ⟨b, off + 7, none⟩) hbB).trans d11), ((Fr.root hRV f).cell (p := ⟨b, off + 8, none⟩) hbB).trans (((hWV.mono hr.size).cell (p := ⟨b, off + 8, none⟩) hbB).trans d12), ((Fr.root hRV f).cell (p := ⟨b, off + 9, none⟩) hbB).trans (((hWV.mono hr.size).cell (p := ⟨b, off + 9, none⟩) hbB).trans d13), ((Fr.root hRV f).cell (p := ⟨b, off + 10, none⟩) hbB).trans (((hWV.mono hr.size).cell (p := ⟨b, off + 10, none⟩) hbB).trans d14), ((Fr.root hRV f).cell (p := ⟨b, off + 11, none⟩) hbB).trans (((hWV.mono hr.size).cell (p := ⟨b, off + 11, none⟩) hbB).trans d15)⟩)
  have R0 := Lib.hid (And.intro hRV (Fr.refl (SR mu mv) (w.alloc (.cells #[.int .i64 36, .int .i64 t.at_, .string t.name, .int .u64 t.num, .string t.op, .slice (some ⟨b, off, none⟩) 2 cap] 31))))
  have C1 := Lib.hid (fun W s1 (f : Fr (SR mu mv) (w.alloc (.cells #[.int .i64 36, .int .i64 t.at_, .string t.name, .int .u64 t.num, .string t.op, .slice (some ⟨b, off, none⟩) 2 cap] 31)) W) (r : RW W B pt mu mv nv s1) => show Calls Tryd.prog 36 #[.pointer (some ⟨pt, 0, none⟩), .agg #[.int .i64 ka.kind, .int .i64 ka.at_, .string ka.name, .int .u64 ka.num, .string ka.op, .slice Aka ka.kids.length capka], .bool gen] W (fun e w' => e = .returned (.bool ((F.ex ka gen) s1).1) ∧ RW w' B pt mu mv nv ((F.ex ka gen) s1).2 ∧ Fr (SR mu mv) (w.alloc (.cells #[.int .i64 36, .int .i64 t.at_, .string t.name, .int .u64 t.num, .string t.op, .slice (some ⟨b, off, none⟩) 2 cap] 31)) w') from (G.ex W B pt mu mv nv s1 ka _ gen r hd0 hw0 (f.to hRV (hs0.under (hWV.mono hr.size)))).mono fun e w' ⟨h1, h2, h3⟩ => ⟨h1, h2, f.tr h3⟩)
  have C2 := Lib.hid (fun W s1 (f : Fr (SR mu mv) (w.alloc (.cells #[.int .i64 36, .int .i64 t.at_, .string t.name, .int .u64 t.num, .string t.op, .slice (some ⟨b, off, none⟩) 2 cap] 31)) W) (r : RW W B pt mu mv nv s1) => show Calls Tryd.prog 38 #[.pointer (some ⟨pt, 0, none⟩), .agg #[.int .i64 kb.kind, .int .i64 kb.at_, .string kb.name, .int .u64 kb.num, .string kb.op, .slice Akb kb.kids.length capkb], .bool gen] W (fun e w' => e = .returned (.bool ((F.st kb gen) s1).1) ∧ RW w' B pt mu mv nv ((F.st kb gen) s1).2 ∧ Fr (SR mu mv) (w.alloc (.cells #[.int .i64 36, .int .i64 t.at_, .string t.name, .int .u64 t.num, .string t.op, .slice (some ⟨b, off, none⟩) 2 cap] 31)) w') from (G.st W B pt mu mv nv s1 kb _ gen r hd1 hw1 (f.to hRV (hs1.under (hWV.mono hr.size)))).mono fun e w' ⟨h1, h2, h3⟩ => ⟨h1, h2, f.tr h3⟩)
  unfold RP
  clear hgo hr hd hk hWV hb8 N8 NP hRV
  have MC := Lib.hid (show Calls Tryd.prog 58 #[.int .i64 36] (w.alloc (.cells #[.int .i64 36, .int .i64 t.at_, .string t.name, .int .u64 t.num, .string t.op, .slice (some ⟨b, off, none⟩) 2 cap] 31)) _ from many_calls _ 36)
  have hmn : manyP 36 = 2 := rfl
  rw [hmn] at MC
  cases h1 : ((F.ex ka gen) s).1
  · have HE := Lib.hid (show (andM (F.ex ka gen) (F.st kb gen)) s = (false, ((F.ex ka gen) s).2) from by rw [andM_false h1])
    have D1 := Lib.hid (fun W f r => C1.out W s f r)
    rw [h1] at D1
    rw [HE.out]
    clear C1 C2
    clear hkind hkids hlen  h1
    go_enter Tryd.func38, Tryd.ntmps38
    go_wp2_with (first | (go_at_call 58; (with_reducible refine MC.out.mono ?_); rintro e w' ⟨rfl, rfl⟩) | (go_at_call 36; (with_reducible refine (D1.out _ R0.out.2 R0.out.1).mono ?_); rintro e v1 ⟨rfl, g1, g2⟩; have R1 := Lib.hid (And.intro g1 g2); obtain ⟨x1_0, x1_1, x1_2, x1_3, x1_4, x1_5, x1_6, x1_7, x1_8, x1_9, x1_10, x1_11, x1_12, x1_13, x1_14, x1_15, x1_16, x1_17, x1_18, x1_19⟩ := KX.out _ g2; clear g1 g2))
    go_ret
    exact ⟨rfl, R1.out.1, HFV.out.tr R1.out.2⟩
  · skip
    cases h2 : ((F.st kb gen) ((F.ex ka gen) s).2).1
    · have HE := Lib.hid (show (andM (F.ex ka gen) (F.st kb gen)) s = (false, ((F.st kb gen) ((F.ex ka gen) s).2).2) from by rw [andM_true h1]; exact Prod.ext h2 rfl)
      have D1 := Lib.hid (fun W f r => C1.out W s f r)
      rw [h1] at D1
      have D2 := Lib.hid (fun W f r => C2.out W ((F.ex ka gen) s).2 f r)
      rw [h2] at D2
      rw [HE.out]
      clear C1 C2
      clear hkind hkids hlen  h1 h2
      go_enter Tryd.func38, Tryd.ntmps38
      go_wp2_with (first | (go_at_call 58; (with_reducible refine MC.out.mono ?_); rintro e w' ⟨rfl, rfl⟩) | (go_at_call 36; (with_reducible refine (D1.out _ R0.out.2 R0.out.1).mono ?_); rintro e v1 ⟨rfl, g1, g2⟩; have R1 := Lib.hid (And.intro g1 g2); obtain ⟨x1_0, x1_1, x1_2, x1_3, x1_4, x1_5, x1_6, x1_7, x1_8, x1_9, x1_10, x1_11, x1_12, x1_13, x1_14, x1_15, x1_16, x1_17, x1_18, x1_19⟩ := KX.out _ g2; clear g1 g2) | (go_at_call 38; (with_reducible refine (D2.out _ R1.out.2 R1.out.1).mono ?_); rintro e v2 ⟨rfl, g1, g2⟩; have R2 := Lib.hid (And.intro g1 g2); obtain ⟨x2_0, x2_1, x2_2, x2_3, x2_4, x2_5, x2_6, x2_7, x2_8, x2_9, x2_10, x2_11, x2_12, x2_13, x2_14, x2_15, x2_16, x2_17, x2_18, x2_19⟩ := KX.out _ g2; clear g1 g2))
      go_ret
      exact ⟨rfl, R2.out.1, HFV.out.tr R2.out.2⟩
    · have HE := Lib.hid (show (andM (F.ex ka gen) (F.st kb gen)) s = (true, ((F.st kb gen) ((F.ex ka gen) s).2).2) from by rw [andM_true h1]; exact Prod.ext h2 rfl)
      have D1 := Lib.hid (fun W f r => C1.out W s f r)
      rw [h1] at D1
      have D2 := Lib.hid (fun W f r => C2.out W ((F.ex ka gen) s).2 f r)
      rw [h2] at D2
      rw [HE.out]
      clear C1 C2
      clear hkind hkids hlen  h1 h2
      go_enter Tryd.func38, Tryd.ntmps38
      go_wp2_with (first | (go_at_call 58; (with_reducible refine MC.out.mono ?_); rintro e w' ⟨rfl, rfl⟩) | (go_at_call 36; (with_reducible refine (D1.out _ R0.out.2 R0.out.1).mono ?_); rintro e v1 ⟨rfl, g1, g2⟩; have R1 := Lib.hid (And.intro g1 g2); obtain ⟨x1_0, x1_1, x1_2, x1_3, x1_4, x1_5, x1_6, x1_7, x1_8, x1_9, x1_10, x1_11, x1_12, x1_13, x1_14, x1_15, x1_16, x1_17, x1_18, x1_19⟩ := KX.out _ g2; clear g1 g2) | (go_at_call 38; (with_reducible refine (D2.out _ R1.out.2 R1.out.1).mono ?_); rintro e v2 ⟨rfl, g1, g2⟩; have R2 := Lib.hid (And.intro g1 g2); obtain ⟨x2_0, x2_1, x2_2, x2_3, x2_4, x2_5, x2_6, x2_7, x2_8, x2_9, x2_10, x2_11, x2_12, x2_13, x2_14, x2_15, x2_16, x2_17, x2_18, x2_19⟩ := KX.out _ g2; clear g1 g2))
      go_ret
      exact ⟨rfl, R2.out.1, HFV.out.tr R2.out.2⟩
set_option maxRecDepth 100000 in
set_option maxHeartbeats 8000000 in
theorem st37 {F : RF} {n : Nat} (G : GoodR F n) (w : World) (B pt mu mv : Nat) (nv : Value) (s : Pl) (t : Tr) (kv : Value) (gen : Bool) (hr : RW w B pt mu mv nv s) (hd : t.fitsD (n + 1) = true) (hwf : t.wf1) (hk : KidsAt w B kv t.kids) {ka : Tr} {kb : Tr} {kc : Tr} {kd : Tr} (hkind : t.kind = 37) (hkids : t.kids = [ka, kb, kc, kd]) :
    Calls Tryd.prog 38 #[.pointer (some ⟨pt, 0, none⟩), .agg #[.int .i64 t.kind, .int .i64 t.at_, .string t.name, .int .u64 t.num, .string t.op, kv], .bool gen] w (RP w B pt mu mv nv (stP F t gen s)) := by
  have hgo : stP F t gen s = (andM (maybeM F ka gen) (andM (maybeM F kb gen) (andM (maybeM F kc gen) (F.st kd gen)))) s := by unfold stP; rw [hkind, hkids]; simp [manyP]
  rw [hgo]
  have hlen : t.kids.length = 4 := by rw [hkids]; rfl
  obtain ⟨A, cap, rfl, hcl, hcm, hA⟩ := hk.slice
  obtain ⟨b, off, rfl, hbB⟩ := hA (by omega)
  rw [hlen] at hk hcl ⊢
  clear hA
  rw [hkind]
  have hWV : Below w.heap.size w (w.alloc (.cells #[.int .i64 37, .int .i64 t.at_, .string t.name, .int .u64 t.num, .string t.op, .slice (some ⟨b, off, none⟩) 4 cap] 31)) := below_alloc (Below.refl _ _)
  have hRV : RW (w.alloc (.cells #[.int .i64 37, .int .i64 t.at_, .string t.name, .int .u64 t.num, .string t.op, .slice (some ⟨b, off, none⟩) 4 cap] 31)) B pt mu mv nv s := hr.fr hWV
  have HFV := Lib.hid (show Fr (SR mu mv) w (w.alloc (.cells #[.int .i64 37, .int .i64 t.at_, .string t.name, .int .u64 t.num, .string t.op, .slice (some ⟨b, off, none⟩) 4 cap] 31)) from Fr.of_below hWV)
  have hb8 : Blk (w.alloc (.cells #[.int .i64 37, .int .i64 t.at_, .string t.name, .int .u64 t.num, .string t.op, .slice (some ⟨b, off, none⟩) 4 cap] 31)) w.heap.size 31 #[.int .i64 37, .int .i64 t.at_, .string t.name, .int .u64 t.num, .string t.op, .slice (some ⟨b, off, none⟩) 4 cap] := Blk.new _ _ _
  have hpl := hr.blk.lt
  have hbw : b < w.heap.size := Nat.lt_of_lt_of_le hbB hr.size
  have hn1 : w.heap.size ≠ b := by omega
  have hn2 : w.heap.size ≠ pt := by omega
  have N8 := Fr.not_sr hRV hb8
  have NP := Fr.not_sr hRV hRV.blk
  obtain ⟨cpu, cpv⟩ := hr.cells
  have hi0 : t.kids[0]? = some ka := by rw [hkids]; rfl
  have hd0 := Tr.fitsD_kid hd (List.mem_of_getElem? hi0)
  obtain ⟨_, hw0, kv0, hn0, hs0⟩ := hk.kid hi0
  obtain ⟨Aka, capka, rfl, _, _, _⟩ := hs0.slice
  obtain ⟨d00, d01, d02, d03, d04, d05⟩ := kid_cells hn0 (off) (by omega)
  have hi1 : t.kids[1]? = some kb := by rw [hkids]; rfl
  have hd1 := Tr.fitsD_kid hd (List.mem_of_getElem? hi1)
  obtain ⟨_, hw1, kv1, hn1, hs1⟩ := hk.kid hi1
  obtain ⟨Akb, capkb, rfl, _, _, _⟩ := hs1.slice
  obtain ⟨d10, d11, d12, d13, d14, d15⟩ := kid_cells hn1 (off + 6) (by omega)
  have hi2 : t.kids[2]? = some kc := by rw [hkids]; rfl
  have hd2 := Tr.fitsD_kid hd (List.mem_of_getElem? hi2)
  obtain ⟨_, hw2, kv2, hn2, hs2⟩ := hk.kid hi2
  obtain ⟨Akc, capkc, rfl, _, _, _⟩ := hs2.slice
  obtain ⟨d20, d21, d22, d23, d24, d25⟩ := kid_cells hn2 (off + 12) (by omega)
  have hi3 : t.kids[3]? = some kd := by rw [hkids]; rfl
  have hd3 := Tr.fitsD_kid hd (List.mem_of_getElem? hi3)
  obtain ⟨_, hw3, kv3, hn3, hs3⟩ := hk.kid hi3
  obtain ⟨Akd, capkd, rfl, _, _, _⟩ := hs3.slice
  obtain ⟨d30, d31, d32, d33, d34, d35⟩ := kid_cells hn3 (off + 18) (by omega)
  have KX := Lib.hid (fun w' (f : Fr (SR mu mv) (w.alloc (.cells #[.int .i64 37, .int .i64 t.at_, .string t.name, .int .u64 t.num, .string t.op, .slice (some ⟨b, off, none⟩) 4 cap] 31)) w') => show w'.cell? ⟨w.heap.size, 0, none⟩ = some (.int .i64 37) ∧ w'.cell? ⟨w.heap.size, 1, none⟩ = some (.int .i64 t.at_) ∧ w'.cell? ⟨w.heap.size, 2, none⟩ = some (.string t.name) ∧ w'.cell? ⟨w.heap.size, 3, none⟩ = some (.int .u64 t.num) ∧ w'.cell? ⟨w.heap.size, 4, none⟩ = some (.string t.op) ∧ w'.cell? ⟨w.heap.size, 5, none⟩ = some (.slice (some ⟨b, off, none⟩) 4 cap) ∧ w'.cell? ⟨pt, 0, none⟩ = some (.map (some mu)) ∧ w'.cell? ⟨pt, 1, none⟩ = some (.map (some mv)) ∧ w'.cell? ⟨b, off, none⟩ = some (.int .i64 ka.kind) ∧ w'.cell? ⟨b, off + 1, none⟩ = some (.int .i64 ka.at_) ∧ w'.cell? ⟨b, off + 2, none⟩ = some (.string ka.name) ∧ w'.cell? ⟨b, off + 3, none⟩ = some (.int .u64 ka.num) ∧ w'.cell? ⟨b, off + 4, none⟩ = some (.string ka.op) ∧ w'.cell? ⟨b, off + 5, none⟩ = some (.slice Aka ka.kids.length capka) ∧ w'.cell? ⟨b, off + 6, none⟩ = some (.int .i64 kb.kind) ∧ w'.cell? ⟨b, off + 7, none⟩ = some (.int .i64 kb.at_) ∧ w'.cell? ⟨b, off + 8, none⟩ = some (.string kb.name) ∧ w'.cell? ⟨b, off + 9, none⟩ = some (.int .u64 kb.num) ∧ w'.cell? ⟨b, off + 10, none⟩ = some (.string kb.op) ∧ w'.cell? ⟨b, off + 11, none⟩ = some (.slice Akb kb.kids.length capkb) ∧ w'.cell? ⟨b, off + 12, none⟩ = some (.int .i64 kc.kind) ∧ w'.cell? ⟨b, off + 13, none⟩ = some (.int .i64 kc.at_) ∧ w'.cell? ⟨b, off + 14, none⟩ = some (.string kc.name) ∧ w'.cell? ⟨b, off + 15, none⟩ = some (.int .u64 kc.num) ∧ w'.cell? ⟨b, off + 16, none⟩ = some (.string kc.op) ∧ w'.cell? ⟨b, off + 17, none⟩ = some (.slice Akc kc.kids.length capkc) ∧ w'.cell? ⟨b, off + 18, none⟩ = some (.int .i64 kd.kind) ∧ w'.cell? ⟨b, off + 19, none⟩ = some (.int .i64 kd.at_) ∧ w'.cell? ⟨b, off + 20, none⟩ = some (.string kd.name) ∧ w'.cell? ⟨b, off + 21, none⟩ = some (.int .u64 kd.num) ∧ w'.cell? ⟨b, off + 22, none⟩ = some (.string kd.op) ∧ w'.cell? ⟨b, off + 23, none⟩ = some (.slice Akd kd.kids.length capkd) from ⟨f.cell hb8 N8 0 rfl, f.cell hb8 N8 1 rfl, f.cell hb8 N8 2 rfl, f.cell hb8 N8 3 rfl, f.cell hb8 N8 4 rfl, f.cell hb8 N8 5 rfl, f.cell hRV.blk NP 0 rfl, f.cell hRV.blk NP 1 rfl, ((Fr.root hRV f).cell (p := ⟨b, off, none⟩) hbB).trans (((hWV.mono hr.size).cell (p := ⟨b, off, none⟩) hbB).trans d00), ((Fr.root hRV f).cell (p := ⟨b, off + 1, none⟩) hbB).trans (((hWV.mono hr.size).cell (p := ⟨b, off + 1, none⟩) hbB).trans d01), ((Fr.root hRV f).cell (p := ⟨b, off + 2, none⟩) hbB).trans (((hWV.mono hr.size).cell (p := ⟨b, off + 2, none⟩) hbB).trans d02), ((Fr.root hRV f).cell (p := ⟨b, off + 3, none⟩) hbB).trans (((hWV.mono hr.size).cell (p := ⟨b, off + 3, none⟩) hbB).trans d03), ((Fr.root hRV f).cell (p := ⟨b, off + 4, none⟩) hbB).trans (((hWV.mono hr.size).cell (p := ⟨b, off + 4, none⟩) hbB).trans d04), ((Fr.root hRV f).cell (p := ⟨b, off + 5, none⟩) hbB).trans (((hWV.mono hr.size).cell (p := ⟨b, off + 5, none⟩) hbB).trans d05), ((Fr.root hRV f).cell (p := ⟨b, off + 6, none⟩) hbB).trans (((hWV.mono hr.size).cell (p := ⟨b, off + 6, none⟩) hbB).trans d10), ((Fr.root hRV f).cell (p := ⟨b, off + 7, none⟩) hbB).trans (((hWV.mono hr.size).cell (p := ⟨b, off + 7, none⟩) hbB).trans d11), ((Fr.root hRV f).cell (p := ⟨b, off + 8, none⟩) hbB).trans (((hWV.mono hr.size).cell (p := ⟨b, off + 8, none⟩) hbB).trans d12), ((Fr.root hRV f).cell (p := ⟨b, off + 9, none⟩) hbB).trans (((hWV.mono hr.size).cell (p := ⟨b, off + 9, none⟩) hbB).trans d13), ((Fr.root hRV f).cell (p := ⟨b, off + 10, none⟩) hbB).trans (((hWV.mono hr.size).cell (p := ⟨b, off + 10, none⟩) hbB).trans d14), ((Fr.root hRV f).cell (p := ⟨b, off + 11, none⟩) hbB).trans (((hWV.mono hr.size).cell (p := ⟨b, off + 11, none⟩) hbB).trans d15), ((Fr.root hRV f).cell (p := ⟨b, off + 12, none⟩) hbB).trans (((hWV.mono hr.size).cell (p := ⟨b, off + 12, none⟩) hbB).trans d20), ((Fr.root hRV f).cell (p := ⟨b, off + 13, none⟩) hbB).trans (((hWV.mono hr.size).cell (p := ⟨b, off + 13, none⟩) hbB).trans d21), ((Fr.root hRV f).cell (p := ⟨b, off + 14, none⟩) hbB).trans (((hWV.mono hr.size).cell (p := ⟨b, off + 14, none⟩) hbB).trans d22), ((Fr.root hRV f).cell (p := ⟨b, off + 15, none⟩) hbB).trans (((hWV.mono hr.size).cell (p := ⟨b, off + 15, none⟩) hbB).trans d23), ((Fr.root hRV f).cell (p := ⟨b, off + 16, none⟩) hbB).trans (((hWV.mono hr.size).cell (p := ⟨b, off + 16, none⟩) hbB).trans d24), ((Fr.root hRV f).cell (p := ⟨b, off + 17, none⟩) hbB).trans (((hWV.mono hr.size).cell (p := ⟨b, off + 17, none⟩) hbB).trans d25), ((Fr.root hRV f).cell (p := ⟨b, off + 18, none⟩) hbB).trans (((hWV.mono hr.size).cell (p := ⟨b, off + 18, none⟩) hbB).trans d30), ((Fr.root hRV f).cell (p := ⟨b, off + 19, none⟩) hbB).trans (((hWV.mono hr.size).cell (p := ⟨b, off + 19, none⟩) hbB).trans d31), ((Fr.root hRV f).cell (p := ⟨b, off + 20, none⟩) hbB).trans (((hWV.mono hr.size).cell (p := ⟨b, off + 20, none⟩) hbB).trans d32), ((Fr.root hRV f).cell (p := ⟨b, off + 21, none⟩) hbB).trans (((hWV.mono hr.size).cell (p := ⟨b, off + 21, none⟩) hbB).trans d33), ((Fr.root hRV f).cell (p := ⟨b, off + 22, none⟩) hbB).trans (((hWV.mono hr.size).cell (p := ⟨b, off + 22, none⟩) hbB).trans d34), ((Fr.root hRV f).cell (p := ⟨b, off + 23, none⟩) hbB).trans (((hWV.mono hr.size).cell (p := ⟨b, off + 23, none⟩) hbB).trans d35)⟩)
  have R0 := Lib.hid (And.intro hRV (Fr.refl (SR mu mv) (w.alloc (.cells #[.int .i64 37, .int .i64 t.at_, .string t.name, .int .u64 t.num, .string t.op, .slice (some ⟨b, off, none⟩) 4 cap] 31))))
  have C1 := Lib.hid (fun W s1 (f : Fr (SR mu mv) (w.alloc (.cells #[.int .i64 37, .int .i64 t.at_, .string t.name, .int .u64 t.num, .string t.op, .slice (some ⟨b, off, none⟩) 4 cap] 31)) W) (r : RW W B pt mu mv nv s1) => show Calls Tryd.prog 35 #[.pointer (some ⟨pt, 0, none⟩), .agg #[.int .i64 ka.kind, .int .i64 ka.at_, .string ka.name, .int .u64 ka.num, .string ka.op, .slice Aka ka.kids.length capka], .bool gen] W (fun e w' => e = .returned (.bool ((maybeM F ka gen) s1).1) ∧ RW w' B pt mu mv nv ((maybeM F ka gen) s1).2 ∧ Fr (SR mu mv) (w.alloc (.cells #[.int .i64 37, .int .i64 t.at_, .string t.name, .int .u64 t.num, .string t.op, .slice (some ⟨b, off, none⟩) 4 cap] 31)) w') from (maybe_calls G W B pt mu mv nv s1 ka _ gen r hd0 hw0 (f.to hRV (hs0.under (hWV.mono hr.size)))).mono fun e w' ⟨h1, h2, h3⟩ => ⟨h1, h2, f.tr h3⟩)
  have C2 := Lib.hid (fun W s1 (f : Fr (SR mu mv) (w.alloc (.cells #[.int .i64 37, .int .i64 t.at_, .string t.name, .int .u64 t.num, .string t.op, .slice (some ⟨b, off, none⟩) 4 cap] 31)) W) (r : RW W B pt mu mv nv s1) => show Calls Tryd.prog 35 #[.pointer (some ⟨pt, 0, none⟩), .agg #[.int .i64 kb.kind, .int .i64 kb.at_, .string kb.name, .int .u64 kb.num, .string kb.op, .slice Akb kb.kids.length capkb], .bool gen] W (fun e w' => e = .returned (.bool ((maybeM F kb gen) s1).1) ∧ RW w' B pt mu mv nv ((maybeM F kb gen) s1).2 ∧ Fr (SR mu mv) (w.alloc (.cells #[.int .i64 37, .int .i64 t.at_, .string t.name, .int .u64 t.num, .string t.op, .slice (some ⟨b, off, none⟩) 4 cap] 31)) w') from (maybe_calls G W B pt mu mv nv s1 kb _ gen r hd1 hw1 (f.to hRV (hs1.under (hWV.mono hr.size)))).mono fun e w' ⟨h1, h2, h3⟩ => ⟨h1, h2, f.tr h3⟩)
  have C3 := Lib.hid (fun W s1 (f : Fr (SR mu mv) (w.alloc (.cells #[.int .i64 37, .int .i64 t.at_, .string t.name, .int .u64 t.num, .string t.op, .slice (some ⟨b, off, none⟩) 4 cap] 31)) W) (r : RW W B pt mu mv nv s1) => show Calls Tryd.prog 35 #[.pointer (some ⟨pt, 0, none⟩), .agg #[.int .i64 kc.kind, .int .i64 kc.at_, .string kc.name, .int .u64 kc.num, .string kc.op, .slice Akc kc.kids.length capkc], .bool gen] W (fun e w' => e = .returned (.bool ((maybeM F kc gen) s1).1) ∧ RW w' B pt mu mv nv ((maybeM F kc gen) s1).2 ∧ Fr (SR mu mv) (w.alloc (.cells #[.int .i64 37, .int .i64 t.at_, .string t.name, .int .u64 t.num, .string t.op, .slice (some ⟨b, off, none⟩) 4 cap] 31)) w') from (maybe_calls G W B pt mu mv nv s1 kc _ gen r hd2 hw2 (f.to hRV (hs2.under (hWV.mono hr.size)))).mono fun e w' ⟨h1, h2, h3⟩ => ⟨h1, h2, f.tr h3⟩)
  have C4 := Lib.hid (fun W s1 (f : Fr (SR mu mv) (w.alloc (.cells #[.int .i64 37, .int .i64 t.at_, .string t.name, .int .u64 t.num, .string t.op, .slice (some ⟨b, off, none⟩) 4 cap] 31)) W) (r : RW W B pt mu mv nv s1) => show Calls Tryd.prog 38 #[.pointer (some ⟨pt, 0, none⟩), .agg #[.int .i64 kd.kind, .int .i64 kd.at_, .string kd.name, .int .u64 kd.num, .string kd.op, .slice Akd kd.kids.length capkd], .bool gen] W (fun e w' => e = .returned (.bool ((F.st kd gen) s1).1) ∧ RW w' B pt mu mv nv ((F.st kd gen) s1).2 ∧ Fr (SR mu mv) (w.alloc (.cells #[.int .i64 37, .int .i64 t.at_, .string t.name, .int .u64 t.num, .string t.op, .slice (some ⟨b, off, none⟩) 4 cap] 31)) w') from (G.st W B pt mu mv nv s1 kd _ gen r hd3 hw3 (f.to hRV (hs3.under (hWV.mono hr.size)))).mono fun e w' ⟨h1, h2, h3⟩ => ⟨h1, h2, f.tr h3⟩)
  unfold RP
  clear hgo hr hd hk hWV hb8 N8 NP hRV
  have MC := Lib.hid (show Calls Tryd.prog 58 #[.int .i64 37] (w.alloc (.cells #[.int .i64 37, .int .i64 t.at_, .string t.name, .int .u64 t.num, .string t.op, .slice (some ⟨b, off, none⟩) 4 cap] 31)) _ from many_calls _ 37)
  have hmn : manyP 37 = 4 := rfl
  rw [hmn] at MC
  cases h1 : ((maybeM F ka gen) s).1
  · have HE := Lib.hid (show (andM (maybeM F ka gen) (andM (maybeM F kb gen) (andM (maybeM F kc gen) (F.st kd gen)))) s = (false, ((maybeM F ka gen) s).2) from by rw [andM_false h1])
    have D1 := Lib.hid (fun W f r => C1.out W s f r)
    rw [h1] at D1
    rw [HE.out]
    clear C1 C2 C3 C4
    clear hkind hkids hlen  h1
    go_enter Tryd.func38, Tryd.ntmps38
    go_wp2_with (first | (go_at_call 58; (with_reducible refine MC.out.mono ?_); rintro e w' ⟨rfl, rfl⟩) | (go_at_call 35; (with_reducible refine (D1.out _ R0.out.2 R0.out.1).mono ?_); rintro e v1 ⟨rfl, g1, g2⟩; have R1 := Lib.hid (And.intro g1 g2); obtain ⟨x1_0, x1_1, x1_2, x1_3, x1_4, x1_5, x1_6, x1_7, x1_8, x1_9, x1_10, x1_11, x1_12, x1_13, x1_14, x1_15, x1_16, x1_17, x1_18, x1_19, x1_20, x1_21, x1_22, x1_23, x1_24, x1_25, x1_26, x1_27, x1_28, x1_29, x1_30, x1_31⟩ := KX.out _ g2; clear g1 g2))
    go_ret
    exact ⟨rfl, R1.out.1, HFV.out.tr R1.out.2⟩
  · skip
    cases h2 : ((maybeM F kb gen) ((maybeM F ka gen) s).2).1
    · have HE := Lib.hid (show (andM (maybeM F ka gen) (andM (maybeM F kb gen) (andM (maybeM F kc gen) (F.st kd gen)))) s = (false, ((maybeM F kb gen) ((maybeM F ka gen) s).2).2) from by rw [andM_true h1, andM_false h2])
      have D1 := Lib.hid (fun W f r => C1.out W s f r)
      rw [h1] at D1
      have D2 := Lib.hid (fun W f r => C2.out W ((maybeM F ka gen) s).2 f r)
      rw [h2] at D2
      rw [HE.out]
      clear C1 C2 C3 C4
      clear hkind hkids hlen  h1 h2
      go_enter Tryd.func38, Tryd.ntmps38
      go_wp2_with (first | (go_at_call 58; (with_reducible refine MC.out.mono ?_); rintro e w' ⟨rfl, rfl⟩) | (go_at_call 35; (with_reducible refine (D1.out _ R0.out.2 R0.out.1).mono ?_); rintro e v1 ⟨rfl, g1, g2⟩; have R1 := Lib.hid (And.intro g1 g2); obtain ⟨x1_0, x1_1, x1_2, x1_3, x1_4, x1_5, x1_6, x1_7, x1_8, x1_9, x1_10, x1_11, x1_12, x1_13, x1_14, x1_15, x1_16, x1_17, x1_18, x1_19, x1_20, x1_21, x1_22, x1_23, x1_24, x1_25, x1_26, x1_27, x1_28, x1_29, x1_30, x1_31⟩ := KX.out _ g2; clear g1 g2) | (go_at_call 35; (with_reducible refine (D2.out _ R1.out.2 R1.out.1).mono ?_); rintro e v2 ⟨rfl, g1, g2⟩; have R2 := Lib.hid (And.intro g1 g2); obtain ⟨x2_0, x2_1, x2_2, x2_3, x2_4, x2_5, x2_6, x2_7, x2_8, x2_9, x2_10, x2_11, x2_12, x2_13, x2_14, x2_15, x2_16, x2_17, x2_18, x2_19, x2_20, x2_21, x2_22, x2_23, x2_24, x2_25, x2_26, x2_27, x2_28, x2_29, x2_30, x2_31⟩ := KX.out _ g2; clear g1 g2))
      go_ret
      exact ⟨rfl, R2.out.1, HFV.out.tr R2.out.2⟩
    · skip
      cases h3 : ((maybeM F kc gen) ((maybeM F kb gen) ((maybeM F ka gen) s).2).2).1
      · have HE := Lib.hid (show (andM (maybeM F ka gen) (andM (maybeM F kb gen) (andM (maybeM F kc gen) (F.st kd gen)))) s = (false, ((maybeM F kc gen) ((maybeM F kb gen) ((maybeM F ka gen) s).2).2).2) from by rw [andM_true h1, andM_true h2, andM_false h3])
        have D1 := Lib.hid (fun W f r => C1.out W s f r)
        rw [h1] at D1
        have D2 := Lib.hid (fun W f r => C2.out W ((maybeM F ka gen) s).2 f r)
        rw [h2] at D2
        have D3 := Lib.hid (fun W f r => C3.out W ((maybeM F kb gen) ((maybeM F ka gen) s).2).2 f r)
        rw [h3] at D3
        rw [HE.out]
        clear C1 C2 C3 C4
        clear hkind hkids hlen  h1 h2 h3
        go_enter Tryd.func38, Tryd.ntmps38
        go_wp2_with (first | (go_at_call 58; (with_reducible refine MC.out.mono ?_); rintro e w' ⟨rfl, rfl⟩) | (go_at_call 35; (with_reducible refine (D1.out _ R0.out.2 R0.out.1).mono ?_); rintro e v1 ⟨rfl, g1, g2⟩; have R1 := Lib.hid (And.intro g1 g2); obtain ⟨x1_0, x1_1, x1_2, x1_3, x1_4, x1_5, x1_6, x1_7, x1_8, x1_9, x1_10, x1_11, x1_12, x1_13, x1_14, x1_15, x1_16, x1_17, x1_18, x1_19, x1_20, x1_21, x1_22, x1_23, x1_24, x1_25, x1_26, x1_27, x1_28, x1_29, x1_30, x1_31⟩ := KX.out _ g2; clear g1 g2) | (go_at_call 35; (with_reducible refine (D2.out _ R1.out.2 R1.out.1).mono ?_); rintro e v2 ⟨rfl, g1, g2⟩; have R2 := Lib.hid (And.intro g1 g2); obtain ⟨x2_0, x2_1, x2_2, x2_3, x2_4, x2_5, x2_6, x2_7, x2_8, x2_9, x2_10, x2_11, x2_12, x2_13, x2_14, x2_15, x2_16, x2_17, x2_18, x2_19, x2_20, x2_21, x2_22, x2_23, x2_24, x2_25, x2_26, x2_27, x2_28, x2_29, x2_30, x2_31⟩ := KX.out _ g2; clear g1 g2) | (go_at_call 35; (with_reducible refine (D3.out _ R2.out.2 R2.out.1).mono ?_); rintro e v3 ⟨rfl, g1, g2⟩; have R3 := Lib.hid (And.intro g1 g2); obtain ⟨x3_0, x3_1, x3_2, x3_3, x3_4, x3_5, x3_6, x3_7, x3_8, x3_9, x3_10, x3_11, x3_12, x3_13, x3_14, x3_15, x3_16, x3_17, x3_18, x3_19, x3_20, x3_21, x3_22, x3_23, x3_24, x3_25, x3_26, x3_27, x3_28, x3_29, x3_30, x3_31⟩ := KX.out _ g2; clear g1 g2))
        go_ret
        exact ⟨rfl, R3.out.1, HFV.out.tr R3.out.2⟩
      · skip
        cases h4 : ((F.st kd gen) ((maybeM F kc gen) ((maybeM F kb gen) ((maybeM F ka gen) s).2).2).2).1
        · have HE := Lib.hid (show (andM (maybeM F ka gen) (andM (maybeM F kb gen) (andM (maybeM F kc gen) (F.st kd gen)))) s = (false, ((F.st kd gen) ((maybeM F kc gen) ((maybeM F kb gen) ((maybeM F ka gen) s).2).2).2).2) from by rw [andM_true h1, andM_true h2, andM_true h3]; exact Prod.ext h4 rfl)
          have D1 := Lib.hid (fun W f r => C1.out W s f r)
          rw [h1] at D1
          have D2 := Lib.hid (fun W f r => C2.out W ((maybeM F ka gen) s).2 f r)
          rw [h2] at D2
          have D3 := Lib.hid (fun W f r => C3.out W ((maybeM F kb gen) ((maybeM F ka gen) s).2).2 f r)
          rw [h3] at D3
          have D4 := Lib.hid (fun W f r => C4.out W ((maybeM F kc gen) ((maybeM F kb gen) ((maybeM F ka gen) s).2).2).2 f r)
          rw [h4] at D4
          rw [HE.out]
          clear C1 C2 C3 C4
          clear hkind hkids hlen  h1 h2 h3 h4
          go_enter Tryd.func38, Tryd.ntmps38
          go_wp2_with (first | (go_at_call 58; (with_reducible refine MC.out.mono ?_); rintro e w' ⟨rfl, rfl⟩) | (go_at_call 35; (with_reducible refine (D1.out _ R0.out.2 R0.out.1).mono ?_); rintro e v1 ⟨rfl, g1, g2⟩; have R1 := Lib.hid (And.intro g1 g2); obtain ⟨x1_0, x1_1, x1_2, x1_3, x1_4, x1_5, x1_6, x1_7, x1_8, x1_9, x1_10, x1_11, x1_12, x1_13, x1_14, x1_15, x1_16, x1_17, x1_18, x1_19, x1_20, x1_21, x1_22, x1_23, x1_24, x1_25, x1_26, x1_27, x1_28, x1_29, x1_30, x1_31⟩ := KX.out _ g2; clear g1 g2) | (go_at_call 35; (with_reducible refine (D2.out _ R1.out.2 R1.out.1).mono ?_); rintro e v2 ⟨rfl, g1, g2⟩; have R2 := Lib.hid (And.intro g1 g2); obtain ⟨x2_0, x2_1, x2_2, x2_3, x2_4, x2_5, x2_6, x2_7, x2_8, x2_9, x2_10, x2_11, x2_12, x2_13, x2_14, x2_15, x2_16, x2_17, x2_18, x2_19, x2_20, x2_21, x2_22, x2_23, x2_24, x2_25, x2_26, x2_27, x2_28, x2_29, x2_30, x2_31⟩ := KX.out _ g2; clear g1 g2) | (go_at_call 35; (with_reducible refine (D3.out _ R2.out.2 R2.out.1).mono ?_); rintro e v3 ⟨rfl, g1, g2⟩; have R3 := Lib.hid (And.intro g1 g2); obtain ⟨x3_0, x3_1, x3_2, x3_3, x3_4, x3_5, x3_6, x3_7, x3_8, x3_9, x3_10, x3_11, x3_12, x3_13, x3_14, x3_15, x3_16, x3_17, x3_18, x3_19, x3_20, x3_21, x3_22, x3_23, x3_24, x3_25, x3_26, x3_27, x3_28, x3_29, x3_30, x3_31⟩ := KX.out _ g2; clear g1 g2) | (go_at_call 38; (with_reducible refine (D4.out _ R3.out.2 R3.out.1).mono ?_); rintro e v4 ⟨rfl, g1, g2⟩; have R4 := Lib.hid (And.intro g1 g2); obtain ⟨x4_0, x4_1, x4_2, x4_3, x4_4, x4_5, x4_6, x4_7, x4_8, x4_9, x4_10, x4_11, x4_12, x4_13, x4_14, x4_15, x4_16, x4_17, x4_18, x4_19, x4_20, x4_21, x4_22, x4_23, x4_24, x4_25, x4_26, x4_27, x4_28, x4_29, x4_30, x4_31⟩ := KX.out _ g2; clear g1 g2))
          go_ret
          exact ⟨rfl, R4.out.1, HFV.out.tr R4.out.2⟩
        · have HE := Lib.hid (show (andM (maybeM F ka gen) (andM (maybeM F kb gen) (andM (maybeM F kc gen) (F.st kd gen)))) s = (true, ((F.st kd gen) ((maybeM F kc gen) ((maybeM F kb gen) ((maybeM F ka gen) s).2).2).2).2) from by rw [andM_true h1, andM_true h2, andM_true h3]; exact Prod.ext h4 rfl)
          have D1 := Lib.hid (fun W f r => C1.out W s f r)
          rw [h1] at D1
          have D2 := Lib.hid (fun W f r => C2.out W ((maybeM F ka gen) s).2 f r)
          rw [h2] at D2
          have D3 := Lib.hid (fun W f r => C3.out W ((maybeM F kb gen) ((maybeM F ka gen) s).2).2 f r)
          rw [h3] at D3
          have D4 := Lib.hid (fun W f r => C4.out W ((maybeM F kc gen) ((maybeM F kb gen) ((maybeM F ka gen) s).2).2).2 f r)
          rw [h4] at D4
          rw [HE.out]
          clear C1 C2 C3 C4
          clear hkind hkids hlen  h1 h2 h3 h4
          go_enter Tryd.func38, Tryd.ntmps38
          go_wp2_with (first | (go_at_call 58; (with_reducible refine MC.out.mono ?_); rintro e w' ⟨rfl, rfl⟩) | (go_at_call 35; (with_reducible refine (D1.out _ R0.out.2 R0.out.1).mono ?_); rintro e v1 ⟨rfl, g1, g2⟩; have R1 := Lib.hid (And.intro g1 g2); obtain ⟨x1_0, x1_1, x1_2, x1_3, x1_4, x1_5, x1_6, x1_7, x1_8, x1_9, x1_10, x1_11, x1_12, x1_13, x1_14, x1_15, x1_16, x1_17, x1_18, x1_19, x1_20, x1_21, x1_22, x1_23, x1_24, x1_25, x1_26, x1_27, x1_28, x1_29, x1_30, x1_31⟩ := KX.out _ g2; clear g1 g2) | (go_at_call 35; (with_reducible refine (D2.out _ R1.out.2 R1.out.1).mono ?_); rintro e v2 ⟨rfl, g1, g2⟩; have R2 := Lib.hid (And.intro g1 g2); obtain ⟨x2_0, x2_1, x2_2, x2_3, x2_4, x2_5, x2_6, x2_7, x2_8, x2_9, x2_10, x2_11, x2_12, x2_13, x2_14, x2_15, x2_16, x2_17, x2_18, x2_19, x2_20, x2_21, x2_22, x2_23, x2_24, x2_25, x2_26, x2_27, x2_28, x2_29, x2_30, x2_31⟩ := KX.out _ g2; clear g1 g2) | (go_at_call 35; (with_reducible refine (D3.out _ R2.out.2 R2.out.1).mono ?_); rintro e v3 ⟨rfl, g1, g2⟩; have R3 := Lib.hid (And.intro g1 g2); obtain ⟨x3_0, x3_1, x3_2, x3_3, x3_4, x3_5, x3_6, x3_7, x3_8, x3_9, x3_10, x3_11, x3_12, x3_13, x3_14, x3_15, x3_16, x3_17, x3_18, x3_19, x3_20, x3_21, x3_22, x3_23, x3_24, x3_25, x3_26, x3_27, x3_28, x3_29, x3_30, x3_31⟩ := KX.out _ g2; clear g1 g2) | (go_at_call 38; (with_reducible refine (D4.out _ R3.out.2 R3.out.1).mono ?_); rintro e v4 ⟨rfl, g1, g2⟩; have R4 := Lib.hid (And.intro g1 g2); obtain ⟨x4_0, x4_1, x4_2, x4_3, x4_4, x4_5, x4_6, x4_7, x4_8, x4_9, x4_10, x4_11, x4_12, x4_13, x4_14, x4_15, x4_16, x4_17, x4_18, x4_19, x4_20, x4_21, x4_22, x4_23, x4_24, x4_25, x4_26, x4_27, x4_28, x4_29, x4_30, x4_31⟩ := KX.out _ g2; clear g1 g2))
          go_ret
          exact ⟨rfl, R4.out.1, HFV.out.tr R4.out.2⟩
end Go.Proofs.YtlenhcmgcgccmaaDoor
namespace Go.Proofs.YtlenhcmgcgccmaaDoor
open Go.RowKit Go
set_option linter.unusedVariables false
set_option linter.unusedSimpArgs false
theorem ascii_of {s : ByteArray} (h : s.data.toList.all (fun b => decide (b.toNat < 128)) = true) : ∀ (j : Nat) b, s.data.toList[j]? = some b → b.toNat < 128 := fun j b hb => of_decide_eq_true (List.all_eq_true.1 h b (List.mem_of_getElem? hb))
theorem andM_ok (m : PM) : andM m (okM true) = m := by
  funext s; unfold andM okM
  rcases h : m s with ⟨_ | _, s'⟩ <;> rfl
end Go.Proofs.YtlenhcmgcgccmaaDoor
