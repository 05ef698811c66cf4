/- Scope: Right: statement: if, for of. -/
import Derived.Test.YtlenhcmgcgccmaaDoorTj
namespace Go.Proofs.YtlenhcmgcgccmaaDoor
open Go.RowKit Go
set_option linter.unusedVariables false
set_option linter.unusedSimpArgs false
set_option maxRecDepth 100000 in
set_option maxHeartbeats 8000000 in
theorem st35a {F : RF} {n : Nat} (G : GoodR F n) (w : World) (B pt mu mv : Nat) (nv : Value) (s : Pl) (t : Tr) (kv : Value) (gen : Bool) (hr : RW w B pt mu mv nv s) (hd : t.fitsD (n + 1) = true) (hwf : t.wf1) (hk : KidsAt w B kv t.kids) {ka : Tr} {kb : Tr} {kc : Tr} (hkind : t.kind = 35) (hkids : t.kids = [ka, kb, kc]) (hm : missing kc = true) :
    Calls Tryd.prog 38 #[.pointer (some ⟨pt, 0, none⟩), .agg #[.int .i64 t.kind, .int .i64 t.at_, .string t.name, .int .u64 t.num, .string t.op, kv], .bool gen] w (RP w B pt mu mv nv (stP F t gen s)) := by
  have hgo : stP F t gen s = (andM (F.ex ka gen) (F.st kb gen)) s := by unfold stP; rw [hkind, hkids]; simp [manyP, hm, andM_ok]
  rw [hgo]
  have hlen : t.kids.length = 3 := by rw [hkids]; rfl
  obtain ⟨A, cap, rfl, hcl, hcm, hA⟩ := hk.slice
  obtain ⟨b, off, rfl, hbB⟩ := hA (by omega)
  rw [hlen] at hk hcl ⊢
  clear hA
  rw [hkind]
  have hWV : Below w.heap.size w (w.alloc (.cells #[.int .i64 35, .int .i64 t.at_, .string t.name, .int .u64 t.num, .string t.op, .slice (some ⟨b, off, none⟩) 3 cap] 31)) := below_alloc (Below.refl _ _)
  have hRV : RW (w.alloc (.cells #[.int .i64 35, .int .i64 t.at_, .string t.name, .int .u64 t.num, .string t.op, .slice (some ⟨b, off, none⟩) 3 cap] 31)) B pt mu mv nv s := hr.fr hWV
  have HFV := Lib.hid (show Fr (SR mu mv) w (w.alloc (.cells #[.int .i64 35, .int .i64 t.at_, .string t.name, .int .u64 t.num, .string t.op, .slice (some ⟨b, off, none⟩) 3 cap] 31)) from Fr.of_below hWV)
  have hb8 : Blk (w.alloc (.cells #[.int .i64 35, .int .i64 t.at_, .string t.name, .int .u64 t.num, .string t.op, .slice (some ⟨b, off, none⟩) 3 cap] 31)) w.heap.size 31 #[.int .i64 35, .int .i64 t.at_, .string t.name, .int .u64 t.num, .string t.op, .slice (some ⟨b, off, none⟩) 3 cap] := Blk.new _ _ _
  have hpl := hr.blk.lt
  have hbw : b < w.heap.size := Nat.lt_of_lt_of_le hbB hr.size
  have hn1 : w.heap.size ≠ b := by omega
  have hn2 : w.heap.size ≠ pt := by omega
  have N8 := Fr.not_sr hRV hb8
  have NP := Fr.not_sr hRV hRV.blk
  obtain ⟨cpu, cpv⟩ := hr.cells
  have hi0 : t.kids[0]? = some ka := by rw [hkids]; rfl
  have hd0 := Tr.fitsD_kid hd (List.mem_of_getElem? hi0)
  obtain ⟨_, hw0, kv0, hn0, hs0⟩ := hk.kid hi0
  obtain ⟨Aka, capka, rfl, _, _, _⟩ := hs0.slice
  obtain ⟨d00, d01, d02, d03, d04, d05⟩ := kid_cells hn0 (off) (by omega)
  have hi1 : t.kids[1]? = some kb := by rw [hkids]; rfl
  have hd1 := Tr.fitsD_kid hd (List.mem_of_getElem? hi1)
  obtain ⟨_, hw1, kv1, hn1, hs1⟩ := hk.kid hi1
  obtain ⟨Akb, capkb, rfl, _, _, _⟩ := hs1.slice
  obtain ⟨d10, d11, d12, d13, d14, d15⟩ := kid_cells hn1 (off + 6) (by omega)
  have hi2 : t.kids[2]? = some kc := by rw [hkids]; rfl
  have hd2 := Tr.fitsD_kid hd (List.mem_of_getElem? hi2)
  obtain ⟨_, hw2, kv2, hn2, hs2⟩ := hk.kid hi2
  obtain ⟨Akc, capkc, rfl, _, _, _⟩ := hs2.slice
  obtain ⟨d20, d21, d22, d23, d24, d25⟩ := kid_cells hn2 (off + 12) (by omega)
  have KX := Lib.hid (fun w' (f : Fr (SR mu mv) (w.alloc (.cells #[.int .i64 35, .int .i64 t.at_, .string t.name, .int .u64 t.num, .string t.op, .slice (some ⟨b, off, none⟩) 3 cap] 31)) w') => show w'.cell? ⟨w.heap.size, 0, none⟩ = some (.int .i64 35) ∧ w'.cell? ⟨w.heap.size, 1, none⟩ = some (.int .i64 t.at_) ∧ w'.cell? ⟨w.heap.size, 2, none⟩ = some (.string t.name) ∧ w'.cell? ⟨w.heap.size, 3, none⟩ = some (.int .u64 t.num) ∧ w'.cell? ⟨w.heap.size, 4, none⟩ = some (.string t.op) ∧ w'.cell? ⟨w.heap.size, 5, none⟩ = some (.slice (some ⟨b, off, none⟩) 3 cap) ∧ w'.cell? ⟨pt, 0, none⟩ = some (.map (some mu)) ∧ w'.cell? ⟨pt, 1, none⟩ = some (.map (some mv)) ∧ w'.cell? ⟨b, off, none⟩ = some (.int .i64 ka.kind) ∧ w'.cell? ⟨b, off + 1, none⟩ = some (.int .i64 ka.at_) ∧ w'.cell? ⟨b, off + 2, none⟩ = some (.string ka.name) ∧ w'.cell? ⟨b, off + 3, none⟩ = some (.int .u64 ka.num) ∧ w'.cell? ⟨b, off + 4, none⟩ = some (.string ka.op) ∧ w'.cell? ⟨b, off + 5, none⟩ = some (.slice Aka ka.kids.length capka) ∧ w'.cell? ⟨b, off + 6, none⟩ = some (.int .i64 kb.kind) ∧ w'.cell? ⟨b, off + 7, none⟩ = some (.int .i64 kb.at_) ∧ w'.cell? ⟨b, off + 8, none⟩ = some (.string kb.name) ∧ w'.cell? ⟨b, off + 9, none⟩ = some (.int .u64 kb.num) ∧ w'.cell? ⟨b, off + 10, none⟩ = some (.string kb.op) ∧ w'.cell? ⟨b, off + 11, none⟩ = some (.slice Akb kb.kids.length capkb) ∧ w'.cell? ⟨b, off + 12, none⟩ = some (.int .i64 kc.kind) ∧ w'.cell? ⟨b, off + 13, none⟩ = some (.int .i64 kc.at_) ∧ w'.cell? ⟨b, off + 14, none⟩ = some (.string kc.name) ∧ w'.cell? ⟨b, off + 15, none⟩ = some (.int .u64 kc.num) ∧ w'.cell? ⟨b, off + 16, none⟩ = some (.string kc.op) ∧ w'.cell? ⟨b, off + 17, none⟩ = some (.slice Akc kc.kids.length capkc) from ⟨f.cell hb8 N8 0 rfl, f.cell hb8 N8 1 rfl, f.cell hb8 N8 2 rfl, f.cell hb8 N8 3 rfl, f.cell hb8 N8 4 rfl, f.cell hb8 N8 5 rfl, f.cell hRV.blk NP 0 rfl, f.cell hRV.blk NP 1 rfl, ((Fr.root hRV f).cell (p := ⟨b, off, none⟩) hbB).trans (((hWV.mono hr.size).cell (p := ⟨b, off, none⟩) hbB).trans d00), ((Fr.root hRV f).cell (p := ⟨b, off + 1, none⟩) hbB).trans (((hWV.mono hr.size).cell (p := ⟨b, off + 1, none⟩) hbB).trans d01), ((Fr.root hRV f).cell (p := ⟨b, off + 2, none⟩) hbB).trans (((hWV.mono hr.size).cell (p := ⟨b, off + 2, none⟩) hbB).trans d02), ((Fr.root hRV f).cell (p := ⟨b, off + 3, none⟩) hbB).trans (((hWV.mono hr.size).cell (p := ⟨b, off + 3, none⟩) hbB).trans d03), ((Fr.root hRV f).cell (p := ⟨b, off + 4, none⟩) hbB).trans (((hWV.mono hr.size).cell (p := ⟨b, off + 4, none⟩) hbB).trans d04), ((Fr.root hRV f).cell (p := ⟨b, off + 5, none⟩) hbB).trans (((hWV.mono hr.size).cell (p := ⟨b, off + 5, none⟩) hbB).trans d05), ((Fr.root hRV f).cell (p := ⟨b, off + 6, none⟩) hbB).trans (((hWV.mono hr.size).cell (p := ⟨b, off + 6, none⟩) hbB).trans d10), ((Fr.root hRV f).cell (p := ⟨b, off + 7, none⟩) hbB).trans (((hWV.mono hr.size).cell (p := ⟨b, off + 7, none⟩) hbB).trans d11), ((Fr.root hRV f).cell (p := ⟨b, off + 8, none⟩) hbB).trans (((hWV.mono hr.size).cell (p := ⟨b, off + 8, none⟩) hbB).trans d12), ((Fr.root hRV f).cell (p := ⟨b, off + 9, none⟩) hbB).trans (((hWV.mono hr.size).cell (p := ⟨b, off + 9, none⟩) hbB).trans d13), ((Fr.root hRV f).cell (p := ⟨b, off + 10, none⟩) hbB).trans (((hWV.mono hr.size).cell (p := ⟨b, off + 10, none⟩) hbB).trans d14), ((Fr.root hRV f).cell (p := ⟨b, off + 11, none⟩) hbB).trans (((hWV.mono hr.size).cell (p := ⟨b, off + 11, none⟩) hbB).trans d15), ((Fr.root hRV f).cell (p := ⟨b, off + 12, none⟩) hbB).trans (((hWV.mono hr.size).cell (p := ⟨b, off + 12, none⟩) hbB).trans d20), ((Fr.root hRV f).cell (p := ⟨b, off + 13, none⟩) hbB).trans (((hWV.mono hr.size).cell (p := ⟨b, off + 13, none⟩) hbB).trans d21), ((Fr.root hRV f).cell (p := ⟨b, off + 14, none⟩) hbB).trans (((hWV.mono hr.size).cell (p := ⟨b, off + 14, none⟩) hbB).trans d22), ((Fr.root hRV f).cell (p := ⟨b, off + 15, none⟩) hbB).trans (((hWV.mono hr.size).cell (p := ⟨b, off + 15, none⟩) hbB).trans d23), ((Fr.root hRV f).cell (p := ⟨b, off + 16, none⟩) hbB).trans (((hWV.mono hr.size).cell (p := ⟨b, off + 16, none⟩) hbB).trans d24), ((Fr.root hRV f).cell (p := ⟨b, off + 17, none⟩) hbB).trans (((hWV.mono hr.size).cell (p := ⟨b, off + 17, none⟩) hbB).trans d25)⟩)
  have R0 := Lib.hid (And.intro hRV (Fr.refl (SR mu mv) (w.alloc (.cells #[.int .i64 35, .int .i64 t.at_, .string t.name, .int .u64 t.num, .string t.op, .slice (some ⟨b, off, none⟩) 3 cap] 31))))
  have C1 := Lib.hid (fun W s1 (f : Fr (SR mu mv) (w.alloc (.cells #[.int .i64 35, .int .i64 t.at_, .string t.name, .int .u64 t.num, .string t.op, .slice (some ⟨b, off, none⟩) 3 cap] 31)) W) (r : RW W B pt mu mv nv s1) => show Calls Tryd.prog 36 #[.pointer (some ⟨pt, 0, none⟩), .agg #[.int .i64 ka.kind, .int .i64 ka.at_, .string ka.name, .int .u64 ka.num, .string ka.op, .slice Aka ka.kids.length capka], .bool gen] W (fun e w' => e = .returned (.bool ((F.ex ka gen) s1).1) ∧ RW w' B pt mu mv nv ((F.ex ka gen) s1).2 ∧ Fr (SR mu mv) (w.alloc (.cells #[.int .i64 35, .int .i64 t.at_, .string t.name, .int .u64 t.num, .string t.op, .slice (some ⟨b, off, none⟩) 3 cap] 31)) w') from (G.ex W B pt mu mv nv s1 ka _ gen r hd0 hw0 (f.to hRV (hs0.under (hWV.mono hr.size)))).mono fun e w' ⟨h1, h2, h3⟩ => ⟨h1, h2, f.tr h3⟩)
  have C2 := Lib.hid (fun W s1 (f : Fr (SR mu mv) (w.alloc (.cells #[.int .i64 35, .int .i64 t.at_, .string t.name, .int .u64 t.num, .string t.op, .slice (some ⟨b, off, none⟩) 3 cap] 31)) W) (r : RW W B pt mu mv nv s1) => show Calls Tryd.prog 38 #[.pointer (some ⟨pt, 0, none⟩), .agg #[.int .i64 kb.kind, .int .i64 kb.at_, .string kb.name, .int .u64 kb.num, .string kb.op, .slice Akb kb.kids.length capkb], .bool gen] W (fun e w' => e = .returned (.bool ((F.st kb gen) s1).1) ∧ RW w' B pt mu mv nv ((F.st kb gen) s1).2 ∧ Fr (SR mu mv) (w.alloc (.cells #[.int .i64 35, .int .i64 t.at_, .string t.name, .int .u64 t.num, .string t.op, .slice (some ⟨b, off, none⟩) 3 cap] 31)) w') from (G.st W B pt mu mv nv s1 kb _ gen r hd1 hw1 (f.to hRV (hs1.under (hWV.mono hr.size)))).mono fun e w' ⟨h1, h2, h3⟩ => ⟨h1, h2, f.tr h3⟩)
  have C3 := Lib.hid (fun (W : World) (ht : Lib.TabIs Tryd.prog W "strings.asciiSpace" .u8 Lib.asciiSpaceTab) => show Calls Tryd.prog 54 #[.agg #[.int .i64 kc.kind, .int .i64 kc.at_, .string kc.name, .int .u64 kc.num, .string kc.op, .slice Akc kc.kids.length capkc]] W (fun e w' => e = .returned (.bool (missing kc)) ∧ Below W.heap.size W w') from by have h := missing_calls W kc.kind (.int .i64 kc.at_) (.string kc.name) (.int .u64 kc.num) (.string kc.op) rfl rfl rfl rfl Akc kc.kids.length capkc; rw [missing_eq] at h; exact h)
  unfold RP
  clear hgo hr hd hk hWV hb8 N8 NP hRV
  have MC := Lib.hid (show Calls Tryd.prog 58 #[.int .i64 35] (w.alloc (.cells #[.int .i64 35, .int .i64 t.at_, .string t.name, .int .u64 t.num, .string t.op, .slice (some ⟨b, off, none⟩) 3 cap] 31)) _ from many_calls _ 35)
  have hmn : manyP 35 = 3 := rfl
  rw [hmn] at MC
  cases h1 : ((F.ex ka gen) s).1
  · have HE := Lib.hid (show (andM (F.ex ka gen) (F.st kb gen)) s = (false, ((F.ex ka gen) s).2) from by rw [andM_false h1])
    have D1 := Lib.hid (fun W f r => C1.out W s f r)
    rw [h1] at D1
    rw [HE.out]
    clear C1 C2 C3
    clear hkind hkids hlen hm h1
    go_enter Tryd.func38, Tryd.ntmps38
    go_wp2_with (first | (go_at_call 58; (with_reducible refine MC.out.mono ?_); rintro e w' ⟨rfl, rfl⟩) | (go_at_call 36; (with_reducible refine (D1.out _ R0.out.2 R0.out.1).mono ?_); rintro e v1 ⟨rfl, g1, g2⟩; have R1 := Lib.hid (And.intro g1 g2); obtain ⟨x1_0, x1_1, x1_2, x1_3, x1_4, x1_5, x1_6, x1_7, x1_8, x1_9, x1_10, x1_11, x1_12, x1_13, x1_14, x1_15, x1_16, x1_17, x1_18, x1_19, x1_20, x1_21, x1_22, x1_23, x1_24, x1_25⟩ := KX.out _ g2; clear g1 g2))
    go_ret
    exact ⟨rfl, R1.out.1, HFV.out.tr R1.out.2⟩
  · skip
    cases h2 : ((F.st kb gen) ((F.ex ka gen) s).2).1
    · have HE := Lib.hid (show (andM (F.ex ka gen) (F.st kb gen)) s = (false, ((F.st kb gen) ((F.ex ka gen) s).2).2) from by rw [andM_true h1]; exact Prod.ext h2 rfl)
      have D1 := Lib.hid (fun W f r => C1.out W s f r)
      rw [h1] at D1
      have D2 := Lib.hid (fun W f r => C2.out W ((F.ex ka gen) s).2 f r)
      rw [h2] at D2
      rw [HE.out]
      clear C1 C2 C3
      clear hkind hkids hlen hm h1 h2
      go_enter Tryd.func38, Tryd.ntmps38
      go_wp2_with (first | (go_at_call 58; (with_reducible refine MC.out.mono ?_); rintro e w' ⟨rfl, rfl⟩) | (go_at_call 36; (with_reducible refine (D1.out _ R0.out.2 R0.out.1).mono ?_); rintro e v1 ⟨rfl, g1, g2⟩; have R1 := Lib.hid (And.intro g1 g2); obtain ⟨x1_0, x1_1, x1_2, x1_3, x1_4, x1_5, x1_6, x1_7, x1_8, x1_9, x1_10, x1_11, x1_12, x1_13, x1_14, x1_15, x1_16, x1_17, x1_18, x1_19, x1_20, x1_21, x1_22, x1_23, x1_24, x1_25⟩ := KX.out _ g2; clear g1 g2) | (go_at_call 38; (with_reducible refine (D2.out _ R1.out.2 R1.out.1).mono ?_); rintro e v2 ⟨rfl, g1, g2⟩; have R2 := Lib.hid (And.intro g1 g2); obtain ⟨x2_0, x2_1, x2_2, x2_3, x2_4, x2_5, x2_6, x2_7, x2_8, x2_9, x2_10, x2_11, x2_12, x2_13, x2_14, x2_15, x2_16, x2_17, x2_18, x2_19, x2_20, x2_21, x2_22, x2_23, x2_24, x2_25⟩ := KX.out _ g2; clear g1 g2))
      go_ret
      exact ⟨rfl, R2.out.1, HFV.out.tr R2.out.2⟩
    · have HE := Lib.hid (show (andM (F.ex ka gen) (F.st kb gen)) s = (true, ((F.st kb gen) ((F.ex ka gen) s).2).2) from by rw [andM_true h1]; exact Prod.ext h2 rfl)
      have D1 := Lib.hid (fun W f r => C1.out W s f r)
      rw [h1] at D1
      have D2 := Lib.hid (fun W f r => C2.out W ((F.ex ka gen) s).2 f r)
      rw [h2] at D2
      have D3 := Lib.hid (fun W ht => C3.out W ht)
      rw [hm] at D3
      rw [HE.out]
      clear C1 C2 C3
      clear hkind hkids hlen hm h1 h2
      go_enter Tryd.func38, Tryd.ntmps38
      go_wp2_with (first | (go_at_call 58; (with_reducible refine MC.out.mono ?_); rintro e w' ⟨rfl, rfl⟩) | (go_at_call 36; (with_reducible refine (D1.out _ R0.out.2 R0.out.1).mono ?_); rintro e v1 ⟨rfl, g1, g2⟩; have R1 := Lib.hid (And.intro g1 g2); obtain ⟨x1_0, x1_1, x1_2, x1_3, x1_4, x1_5, x1_6, x1_7, x1_8, x1_9, x1_10, x1_11, x1_12, x1_13, x1_14, x1_15, x1_16, x1_17, x1_18, x1_19, x1_20, x1_21, x1_22, x1_23, x1_24, x1_25⟩ := KX.out _ g2; clear g1 g2) | (go_at_call 38; (with_reducible refine (D2.out _ R1.out.2 R1.out.1).mono ?_); rintro e v2 ⟨rfl, g1, g2⟩; have R2 := Lib.hid (And.intro g1 g2); obtain ⟨x2_0, x2_1, x2_2, x2_3, x2_4, x2_5, x2_6, x2_7, x2_8, x2_9, x2_10, x2_11, x2_12, x2_13, x2_14, x2_15, x2_16, x2_17, x2_18, x2_19, x2_20, x2_21, x2_22, x2_23, x2_24, x2_25⟩ := KX.out _ g2; clear g1 g2) | (go_at_call 54; (with_reducible refine (D3.out _ R2.out.1.tab.here).mono ?_); rintro e v3 ⟨rfl, bm⟩; have R3 := Lib.hid (And.intro (R2.out.1.fr bm) (R2.out.2.tr (Fr.of_below bm))); obtain ⟨x3_0, x3_1, x3_2, x3_3, x3_4, x3_5, x3_6, x3_7, x3_8, x3_9, x3_10, x3_11, x3_12, x3_13, x3_14, x3_15, x3_16, x3_17, x3_18, x3_19, x3_20, x3_21, x3_22, x3_23, x3_24, x3_25⟩ := KX.out _ R3.out.2; clear bm))
      go_ret
      exact ⟨rfl, R3.out.1, HFV.out.tr R3.out.2⟩
set_option maxRecDepth 100000 in
set_option maxHeartbeats 8000000 in
theorem st35b {F : RF} {n : Nat} (G : GoodR F n) (w : World) (B pt mu mv : Nat) (nv : Value) (s : Pl) (t : Tr) (kv : Value) (gen : Bool) (hr : RW w B pt mu mv nv s) (hd : t.fitsD (n + 1) = true) (hwf : t.wf1) (hk : KidsAt w B kv t.kids) {ka : Tr} {kb : Tr} {kc : Tr} (hkind : t.kind = 35) (hkids : t.kids = [ka, kb, kc]) (hm : missing kc = false) :
    Calls Tryd.prog 38 #[.pointer (some ⟨pt, 0, none⟩), .agg #[.int .i64 t.kind, .int .i64 t.at_, .string t.name, .int .u64 t.num, .string t.op, kv], .bool gen] w (RP w B pt mu mv nv (stP F t gen s)) := by
  have hgo : stP F t gen s = (andM (F.ex ka gen) (andM (F.st kb gen) (F.st kc gen))) s := by unfold stP; rw [hkind, hkids]; simp [manyP, hm]
  rw [hgo]
  have hlen : t.kids.length = 3 := by rw [hkids]; rfl
  obtain ⟨A, cap, rfl, hcl, hcm, hA⟩ := hk.slice
  obtain ⟨b, off, rfl, hbB⟩ := hA (by omega)
  rw [hlen] at hk hcl ⊢
  clear hA
  rw [hkind]
  have hWV : Below w.heap.size w (w.alloc (.cells #[.int .i64 35, .int .i64 t.at_, .string t.name, .int .u64 t.num, .string t.op, .slice (some ⟨b, off, none⟩) 3 cap] 31)) := below_alloc (Below.refl _ _)
  have hRV : RW (w.alloc (.cells #[.int .i64 35, .int .i64 t.at_, .string t.name, .int .u64 t.num, .string t.op, .slice (some ⟨b, off, none⟩) 3 cap] 31)) B pt mu mv nv s := hr.fr hWV
  have HFV := Lib.hid (show Fr (SR mu mv) w (w.alloc (.cells #[.int .i64 35, .int .i64 t.at_, .string t.name, .int .u64 t.num, .string t.op, .slice (some ⟨b, off, none⟩) 3 cap] 31)) from Fr.of_below hWV)
  have hb8 : Blk (w.alloc (.cells #[.int .i64 35, .int .i64 t.at_, .string t.name, .int .u64 t.num, .string t.op, .slice (some ⟨b, off, none⟩) 3 cap] 31)) w.heap.size 31 #[.int .i64 35, .int .i64 t.at_, .string t.name, .int .u64 t.num, .string t.op, .slice (some ⟨b, off, none⟩) 3 cap] := Blk.new _ _ _
  have hpl := hr.blk.lt
  have hbw : b < w.heap.size := Nat.lt_of_lt_of_le hbB hr.size
  have hn1 : w.heap.size ≠ b := by omega
  have hn2 : w.heap.size ≠ pt := by omega
  have N8 := Fr.not_sr hRV hb8
  have NP := Fr.not_sr hRV hRV.blk
  obtain ⟨cpu, cpv⟩ := hr.cells
  have hi0 : t.kids[0]? = some ka := by rw [hkids]; rfl
  have hd0 := Tr.fitsD_kid hd (List.mem_of_getElem? hi0)
  obtain ⟨_, hw0, kv0, hn0, hs0⟩ := hk.kid hi0
  obtain ⟨Aka, capka, rfl, _, _, _⟩ := hs0.slice
  obtain ⟨d00, d01, d02, d03, d04, d05⟩ := kid_cells hn0 (off) (by omega)
  have hi1 : t.kids[1]? = some kb := by rw [hkids]; rfl
  have hd1 := Tr.fitsD_kid hd (List.mem_of_getElem? hi1)
  obtain ⟨_, hw1, kv1, hn1, hs1⟩ := hk.kid hi1
  obtain ⟨Akb, capkb, rfl, _, _, _⟩ := hs1.slice
  obtain ⟨d10, d11, d12, d13, d14, d15⟩ := kid_cells hn1 (off + 6) (by omega)
  have hi2 : t.kids[2]? = some kc := by rw [hkids]; rfl
  have hd2 := Tr.fitsD_kid hd (List.mem_of_getElem? hi2)
  obtain ⟨_, hw2, kv2, hn2, hs2⟩ := hk.kid hi2
  obtain ⟨Akc, capkc, rfl, _, _, _⟩ := hs2.slice
  obtain ⟨d20, d21, d22, d23, d24, d25⟩ := kid_cells hn2 (off + 12) (by omega)
  have KX := Lib.hid (fun w' (f : Fr (SR mu mv) (w.alloc (.cells #[.int .i64 35, .int .i64 t.at_, .string t.name, .int .u64 t.num, .string t.op, .slice (some ⟨b, off, none⟩) 3 cap] 31)) w') => show w'.cell? ⟨w.heap.size, 0, none⟩ = some (.int .i64 35) ∧ w'.cell? ⟨w.heap.size, 1, none⟩ = some (.int .i64 t.at_) ∧ w'.cell? ⟨w.heap.size, 2, none⟩ = some (.string t.name) ∧ w'.cell? ⟨w.heap.size, 3, none⟩ = some (.int .u64 t.num) ∧ w'.cell? ⟨w.heap.size, 4, none⟩ = some (.string t.op) ∧ w'.cell? ⟨w.heap.size, 5, none⟩ = some (.slice (some ⟨b, off, none⟩) 3 cap) ∧ w'.cell? ⟨pt, 0, none⟩ = some (.map (some mu)) ∧ w'.cell? ⟨pt, 1, none⟩ = some (.map (some mv)) ∧ w'.cell? ⟨b, off, none⟩ = some (.int .i64 ka.kind) ∧ w'.cell? ⟨b, off + 1, none⟩ = some (.int .i64 ka.at_) ∧ w'.cell? ⟨b, off + 2, none⟩ = some (.string ka.name) ∧ w'.cell? ⟨b, off + 3, none⟩ = some (.int .u64 ka.num) ∧ w'.cell? ⟨b, off + 4, none⟩ = some (.string ka.op) ∧ w'.cell? ⟨b, off + 5, none⟩ = some (.slice Aka ka.kids.length capka) ∧ w'.cell? ⟨b, off + 6, none⟩ = some (.int .i64 kb.kind) ∧ w'.cell? ⟨b, off + 7, none⟩ = some (.int .i64 kb.at_) ∧ w'.cell? ⟨b, off + 8, none⟩ = some (.string kb.name) ∧ w'.cell? ⟨b, off + 9, none⟩ = some (.int .u64 kb.num) ∧ w'.cell? ⟨b, off + 10, none⟩ = some (.string kb.op) ∧ w'.cell? ⟨b, off + 11, none⟩ = some (.slice Akb kb.kids.length capkb) ∧ w'.cell? ⟨b, off + 12, none⟩ = some (.int .i64 kc.kind) ∧ w'.cell? ⟨b, off + 13, none⟩ = some (.int .i64 kc.at_) ∧ w'.cell? ⟨b, off + 14, none⟩ = some (.string kc.name) ∧ w'.cell? ⟨b, off + 15, none⟩ = some (.int .u64 kc.num) ∧ w'.cell? ⟨b, off + 16, none⟩ = some (.string kc.op) ∧ w'.cell? ⟨b, off + 17, none⟩ = some (.slice Akc kc.kids.length capkc) from ⟨f.cell hb8 N8 0 rfl, f.cell hb8 N8 1 rfl, f.cell hb8 N8 2 rfl, f.cell hb8 N8 3 rfl, f.cell hb8 N8 4 rfl, f.cell hb8 N8 5 rfl, f.cell hRV.blk NP 0 rfl, f.cell hRV.blk NP 1 rfl, ((Fr.root hRV f).cell (p := ⟨b, off, none⟩) hbB).trans (((hWV.mono hr.size).cell (p := ⟨b, off, none⟩) hbB).trans d00), ((Fr.root hRV f).cell (p := ⟨b, off + 1, none⟩) hbB).trans (((hWV.mono hr.size).cell (p := ⟨b, off + 1, none⟩) hbB).trans d01), ((Fr.root hRV f).cell (p := ⟨b, off + 2, none⟩) hbB).trans (((hWV.mono hr.size).cell (p := ⟨b, off + 2, none⟩) hbB).trans d02), ((Fr.root hRV f).cell (p := ⟨b, off + 3, none⟩) hbB).trans (((hWV.mono hr.size).cell (p := ⟨b, off + 3, none⟩) hbB).trans d03), ((Fr.root hRV f).cell (p := ⟨b, off + 4, none⟩) hbB).trans (((hWV.mono hr.size).cell (p := ⟨b, off + 4, none⟩) hbB).trans d04), ((Fr.root hRV f).cell (p := ⟨b, off + 5, none⟩) hbB).trans (((hWV.mono hr.size).cell (p := ⟨b, off + 5, none⟩) hbB).trans d05), ((Fr.root hRV f).cell (p := ⟨b, off + 6, none⟩) hbB).trans (((hWV.mono hr.size).cell (p := ⟨b, off + 6, none⟩) hbB).trans d10), ((Fr.root hRV f).cell (p := ⟨b, off + 7, none⟩) hbB).trans (((hWV.mono hr.size).cell (p := ⟨b, off + 7, none⟩) hbB).trans d11), ((Fr.root hRV f).cell (p := ⟨b, off + 8, none⟩) hbB).trans (((hWV.mono hr.size).cell (p := ⟨b, off + 8, none⟩) hbB).trans d12), ((Fr.root hRV f).cell (p := ⟨b, off + 9, none⟩) hbB).trans (((hWV.mono hr.size).cell (p := ⟨b, off + 9, none⟩) hbB).trans d13), ((Fr.root hRV f).cell (p := ⟨b, off + 10, none⟩) hbB).trans (((hWV.mono hr.size).cell (p := ⟨b, off + 10, none⟩) hbB).trans d14), ((Fr.root hRV f).cell (p := ⟨b, off + 11, none⟩) hbB).trans (((hWV.mono hr.size).cell (p := ⟨b, off + 11, none⟩) hbB).trans d15), ((Fr.root hRV f).cell (p := ⟨b, off + 12, none⟩) hbB).trans (((hWV.mono hr.size).cell (p := ⟨b, off + 12, none⟩) hbB).trans d20), ((Fr.root hRV f).cell (p := ⟨b, off + 13, none⟩) hbB).trans (((hWV.mono hr.size).cell (p := ⟨b, off + 13, none⟩) hbB).trans d21), ((Fr.root hRV f).cell (p := ⟨b, off + 14, none⟩) hbB).trans (((hWV.mono hr.size).cell (p := ⟨b, off + 14, none⟩) hbB).trans d22), ((Fr.root hRV f).cell (p := ⟨b, off + 15, none⟩) hbB).trans (((hWV.mono hr.size).cell (p := ⟨b, off + 15, none⟩) hbB).trans d23), ((Fr.root hRV f).cell (p := ⟨b, off + 16, none⟩) hbB).trans (((hWV.mono hr.size).cell (p := ⟨b, off + 16, none⟩) hbB).trans d24), ((Fr.root hRV f).cell (p := ⟨b, off + 17, none⟩) hbB).trans (((hWV.mono hr.size).cell (p := ⟨b, off + 17, none⟩) hbB).trans d25)⟩)
  have R0 := Lib.hid (And.intro hRV (Fr.refl (SR mu mv) (w.alloc (.cells #[.int .i64 35, .int .i64 t.at_, .string t.name, .int .u64 t.num, .string t.op, .slice (some ⟨b, off, none⟩) 3 cap] 31))))
  have C1 := Lib.hid (fun W s1 (f : Fr (SR mu mv) (w.alloc (.cells #[.int .i64 35, .int .i64 t.at_, .string t.name, .int .u64 t.num, .string t.op, .slice (some ⟨b, off, none⟩) 3 cap] 31)) W) (r : RW W B pt mu mv nv s1) => show Calls Tryd.prog 36 #[.pointer (some ⟨pt, 0, none⟩), .agg #[.int .i64 ka.kind, .int .i64 ka.at_, .string ka.name, .int .u64 ka.num, .string ka.op, .slice Aka ka.kids.length capka], .bool gen] W (fun e w' => e = .returned (.bool ((F.ex ka gen) s1).1) ∧ RW w' B pt mu mv nv ((F.ex ka gen) s1).2 ∧ Fr (SR mu mv) (w.alloc (.cells #[.int .i64 35, .int .i64 t.at_, .string t.name, .int .u64 t.num, .string t.op, .slice (some ⟨b, off, none⟩) 3 cap] 31)) w') from (G.ex W B pt mu mv nv s1 ka _ gen r hd0 hw0 (f.to hRV (hs0.under (hWV.mono hr.size)))).mono fun e w' ⟨h1, h2, h3⟩ => ⟨h1, h2, f.tr h3⟩)
  have C2 := Lib.hid (fun W s1 (f : Fr (SR mu mv) (w.alloc (.cells #[.int .i64 35, .int .i64 t.at_, .string t.name, .int .u64 t.num, .string t.op, .slice (some ⟨b, off, none⟩) 3 cap] 31)) W) (r : RW W B pt mu mv nv s1) => show Calls Tryd.prog 38 #[.pointer (some ⟨pt, 0, none⟩), .agg #[.int .i64 kb.kind, .int .i64 kb.at_, .string kb.name, .int .u64 kb.num, .string kb.op, .slice Akb kb.kids.length capkb], .bool gen] W (fun e w' => e = .returned (.bool ((F.st kb gen) s1).1) ∧ RW w' B pt mu mv nv ((F.st kb gen) s1).2 ∧ Fr (SR mu mv) (w.alloc (.cells #[.int .i64 35, .int .i64 t.at_, .string t.name, .int .u64 t.num, .string t.op, .slice (some ⟨b, off, none⟩) 3 cap] 31)) w') from (G.st W B pt mu mv nv s1 kb _ gen r hd1 hw1 (f.to hRV (hs1.under (hWV.mono hr.size)))).mono fun e w' ⟨h1, h2, h3⟩ => ⟨h1, h2, f.tr h3⟩)
  have C3 := Lib.hid (fun (W : World) (ht : Lib.TabIs Tryd.prog W "strings.asciiSpace" .u8 Lib.asciiSpaceTab) => show Calls Tryd.prog 54 #[.agg #[.int .i64 kc.kind, .int .i64 kc.at_, .string kc.name, .int .u64 kc.num, .string kc.op, .slice Akc kc.kids.length capkc]] W (fun e w' => e = .returned (.bool (missing kc)) ∧ Below W.heap.size W w') from by have h := missing_calls W kc.kind (.int .i64 kc.at_) (.string kc.name) (.int .u64 kc.num) (.string kc.op) rfl rfl rfl rfl Akc kc.kids.length capkc; rw [missing_eq] at h; exact h)
  have C4 := Lib.hid (fun W s1 (f : Fr (SR mu mv) (w.alloc (.cells #[.int .i64 35, .int .i64 t.at_, .string t.name, .int .u64 t.num, .string t.op, .slice (some ⟨b, off, none⟩) 3 cap] 31)) W) (r : RW W B pt mu mv nv s1) => show Calls Tryd.prog 38 #[.pointer (some ⟨pt, 0, none⟩), .agg #[.int .i64 kc.kind, .int .i64 kc.at_, .string kc.name, .int .u64 kc.num, .string kc.op, .slice Akc kc.kids.length capkc], .bool gen] W (fun e w' => e = .returned (.bool ((F.st kc gen) s1).1) ∧ RW w' B pt mu mv nv ((F.st kc gen) s1).2 ∧ Fr (SR mu mv) (w.alloc (.cells #[.int .i64 35, .int .i64 t.at_, .string t.name, .int .u64 t.num, .string t.op, .slice (some ⟨b, off, none⟩) 3 cap] 31)) w') from (G.st W B pt mu mv nv s1 kc _ gen r hd2 hw2 (f.to hRV (hs2.under (hWV.mono hr.size)))).mono fun e w' ⟨h1, h2, h3⟩ => ⟨h1, h2, f.tr h3⟩)
  unfold RP
  clear hgo hr hd hk hWV hb8 N8 NP hRV
  have MC := Lib.hid (show Calls Tryd.prog 58 #[.int .i64 35] (w.alloc (.cells #[.int .i64 35, .int .i64 t.at_, .string t.name, .int .u64 t.num, .string t.op, .slice (some ⟨b, off, none⟩) 3 cap] 31)) _ from many_calls _ 35)
  have hmn : manyP 35 = 3 := rfl
  rw [hmn] at MC
  cases h1 : ((F.ex ka gen) s).1
  · have HE := Lib.hid (show (andM (F.ex ka gen) (andM (F.st kb gen) (F.st kc gen))) s = (false, ((F.ex ka gen) s).2) from by rw [andM_false h1])
    have D1 := Lib.hid (fun W f r => C1.out W s f r)
    rw [h1] at D1
    rw [HE.out]
    clear C1 C2 C3 C4
    clear hkind hkids hlen hm h1
    go_enter Tryd.func38, Tryd.ntmps38
    go_wp2_with (first | (go_at_call 58; (with_reducible refine MC.out.mono ?_); rintro e w' ⟨rfl, rfl⟩) | (go_at_call 36; (with_reducible refine (D1.out _ R0.out.2 R0.out.1).mono ?_); rintro e v1 ⟨rfl, g1, g2⟩; have R1 := Lib.hid (And.intro g1 g2); obtain ⟨x1_0, x1_1, x1_2, x1_3, x1_4, x1_5, x1_6, x1_7, x1_8, x1_9, x1_10, x1_11, x1_12, x1_13, x1_14, x1_15, x1_16, x1_17, x1_18, x1_19, x1_20, x1_21, x1_22, x1_23, x1_24, x1_25⟩ := KX.out _ g2; clear g1 g2))
    go_ret
    exact ⟨rfl, R1.out.1, HFV.out.tr R1.out.2⟩
  · skip
    cases h2 : ((F.st kb gen) ((F.ex ka gen) s).2).1
    · have HE := Lib.hid (show (andM (F.ex ka gen) (andM (F.st kb gen) (F.st kc gen))) s = (false, ((F.st kb gen) ((F.ex ka gen) s).2).2) from by rw [andM_true h1, andM_false h2])
      have D1 := Lib.hid (fun W f r => C1.out W s f r)
      rw [h1] at D1
      have D2 := Lib.hid (fun W f r => C2.out W ((F.ex ka gen) s).2 f r)
      rw [h2] at D2
      rw [HE.out]
      clear C1 C2 C3 C4
      clear hkind hkids hlen hm h1 h2
      go_enter Tryd.func38, Tryd.ntmps38
      go_wp2_with (first | (go_at_call 58; (with_reducible refine MC.out.mono ?_); rintro e w' ⟨rfl, rfl⟩) | (go_at_call 36; (with_reducible refine (D1.out _ R0.out.2 R0.out.1).mono ?_); rintro e v1 ⟨rfl, g1, g2⟩; have R1 := Lib.hid (And.intro g1 g2); obtain ⟨x1_0, x1_1, x1_2, x1_3, x1_4, x1_5, x1_6, x1_7, x1_8, x1_9, x1_10, x1_11, x1_12, x1_13, x1_14, x1_15, x1_16, x1_17, x1_18, x1_19, x1_20, x1_21, x1_22, x1_23, x1_24, x1_25⟩ := KX.out _ g2; clear g1 g2) | (go_at_call 38; (with_reducible refine (D2.out _ R1.out.2 R1.out.1).mono ?_); rintro e v2 ⟨rfl, g1, g2⟩; have R2 := Lib.hid (And.intro g1 g2); obtain ⟨x2_0, x2_1, x2_2, x2_3, x2_4, x2_5, x2_6, x2_7, x2_8, x2_9, x2_10, x2_11, x2_12, x2_13, x2_14, x2_15, x2_16, x2_17, x2_18, x2_19, x2_20, x2_21, x2_22, x2_23, x2_24, x2_25⟩ := KX.out _ g2; clear g1 g2))
      go_ret
      exact ⟨rfl, R2.out.1, HFV.out.tr R2.out.2⟩
    · skip
      cases h3 : ((F.st kc gen) ((F.st kb gen) ((F.ex ka gen) s).2).2).1
      · have HE := Lib.hid (show (andM (F.ex ka gen) (andM (F.st kb gen) (F.st kc gen))) s = (false, ((F.st kc gen) ((F.st kb gen) ((F.ex ka gen) s).2).2).2) from by rw [andM_true h1, andM_true h2]; exact Prod.ext h3 rfl)
        have D1 := Lib.hid (fun W f r => C1.out W s f r)
        rw [h1] at D1
        have D2 := Lib.hid (fun W f r => C2.out W ((F.ex ka gen) s).2 f r)
        rw [h2] at D2
        have D3 := Lib.hid (fun W ht => C3.out W ht)
        rw [hm] at D3
        have D4 := Lib.hid (fun W f r => C4.out W ((F.st kb gen) ((F.ex ka gen) s).2).2 f r)
        rw [h3] at D4
        rw [HE.out]
        clear C1 C2 C3 C4
        clear hkind hkids hlen hm h1 h2 h3
        go_enter Tryd.func38, Tryd.ntmps38
        go_wp2_with (first | (go_at_call 58; (with_reducible refine MC.out.mono ?_); rintro e w' ⟨rfl, rfl⟩) | (go_at_call 36; (with_reducible refine (D1.out _ R0.out.2 R0.out.1).mono ?_); rintro e v1 ⟨rfl, g1, g2⟩; have R1 := Lib.hid (And.intro g1 g2); obtain ⟨x1_0, x1_1, x1_2, x1_3, x1_4, x1_5, x1_6, x1_7, x1_8, x1_9, x1_10, x1_11, x1_12, x1_13, x1_14, x1_15, x1_16, x1_17, x1_18, x1_19, x1_20, x1_21, x1_22, x1_23, x1_24, x1_25⟩ := KX.out _ g2; clear g1 g2) | (go_at_call 38; (with_reducible refine (D2.out _ R1.out.2 R1.out.1).mono ?_); rintro e v2 ⟨rfl, g1, g2⟩; have R2 := Lib.hid (And.intro g1 g2); obtain ⟨x2_0, x2_1, x2_2, x2_3, x2_4, x2_5, x2_6, x2_7, x2_8, x2_9, x2_10, x2_11, x2_12, x2_13, x2_14, x2_15, x2_16, x2_17, x2_18, x2_19, x2_20, x2_21, x2_22, x2_23, x2_24, x2_25⟩ := KX.out _ g2; clear g1 g2) | (go_at_call 54; (with_reducible refine (D3.out _ R2.out.1.tab.here).mono ?_); rintro e v3 ⟨rfl, bm⟩; have R3 := Lib.hid (And.intro (R2.out.1.fr bm) (R2.out.2.tr (Fr.of_below bm))); obtain ⟨x3_0, x3_1, x3_2, x3_3, x3_4, x3_5, x3_6, x3_7, x3_8, x3_9, x3_10, x3_11, x3_12, x3_13, x3_14, x3_15, x3_16, x3_17, x3_18, x3_19, x3_20, x3_21, x3_22, x3_23, x3_24, x3_25⟩ := KX.out _ R3.out.2; clear bm) | (go_at_call 38; (with_reducible refine (D4.out _ R3.out.2 R3.out.1).mono ?_); rintro e v4 ⟨rfl, g1, g2⟩; have R4 := Lib.hid (And.intro g1 g2); obtain ⟨x4_0, x4_1, x4_2, x4_3, x4_4, x4_5, x4_6, x4_7, x4_8, x4_9, x4_10, x4_11, x4_12, x4_13, x4_14, x4_15, x4_16, x4_17, x4_18, x4_19, x4_20, x4_21, x4_22, x4_23, x4_24, x4_25⟩ := KX.out _ g2; clear g1 g2))
        go_ret
        exact ⟨rfl, R4.out.1, HFV.out.tr R4.out.2⟩
      · have HE := Lib.hid (show (andM (F.ex ka gen) (andM (F.st kb gen) (F.st kc gen))) s = (true, ((F.st kc gen) ((F.st kb gen) ((F.ex ka gen) s).2).2).2) from by rw [andM_true h1, andM_true h2]; exact Prod.ext h3 rfl)
        have D1 := Lib.hid (fun W f r => C1.out W s f r)
        rw [h1] at D1
        have D2 := Lib.hid (fun W f r => C2.out W ((F.ex ka gen) s).2 f r)
        rw [h2] at D2
        have D3 := Lib.hid (fun W ht => C3.out W ht)
        rw [hm] at D3
        have D4 := Lib.hid (fun W f r => C4.out W ((F.st kb gen) ((F.ex ka gen) s).2).2 f r)
        rw [h3] at D4
        rw [HE.out]
        clear C1 C2 C3 C4
        clear hkind hkids hlen hm h1 h2 h3
        go_enter Tryd.func38, Tryd.ntmps38
        go_wp2_with (first | (go_at_call 58; (with_reducible refine MC.out.mono ?_); rintro e w' ⟨rfl, rfl⟩) | (go_at_call 36; (with_reducible refine (D1.out _ R0.out.2 R0.out.1).mono ?_); rintro e v1 ⟨rfl, g1, g2⟩; have R1 := Lib.hid (And.intro g1 g2); obtain ⟨x1_0, x1_1, x1_2, x1_3, x1_4, x1_5, x1_6, x1_7, x1_8, x1_9, x1_10, x1_11, x1_12, x1_13, x1_14, x1_15, x1_16, x1_17, x1_18, x1_19, x1_20, x1_21, x1_22, x1_23, x1_24, x1_25⟩ := KX.out _ g2; clear g1 g2) | (go_at_call 38; (with_reducible refine (D2.out _ R1.out.2 R1.out.1).mono ?_); rintro e v2 ⟨rfl, g1, g2⟩; have R2 := Lib.hid (And.intro g1 g2); obtain ⟨x2_0, x2_1, x2_2, x2_3, x2_4, x2_5, x2_6, x2_7, x2_8, x2_9, x2_10, x2_11, x2_12, x2_13, x2_14, x2_15, x2_16, x2_17, x2_18, x2_19, x2_20, x2_21, x2_22, x2_23, x2_24, x2_25⟩ := KX.out _ g2; clear g1 g2) | (go_at_call 54; (with_reducible refine (D3.out _ R2.out.1.tab.here).mono ?_); rintro e v3 ⟨rfl, bm⟩; have R3 := Lib.hid (And.intro (R2.out.1.fr bm) (R2.out.2.tr (Fr.of_below bm))); obtain ⟨x3_0, x3_1, x3_2, x3_3, x3_4, x3_5, x3_6, x3_7, x3_8, x3_9, x3_10, x3_11, x3_12, x3_13, x3_14, x3_15, x3_16, x3_17, x3_18, x3_19, x3_20, x3_21, x3_22, x3_23, x3_24, x3_25⟩ := KX.out _ R3.out.2; clear bm) | (go_at_call 38; (with_reducible refine (D4.out _ R3.out.2 R3.out.1).mono ?_); rintro e v4 ⟨rfl, g1, g2⟩; have R4 := Lib.hid (And.intro g1 g2); obtain ⟨x4_0, x4_1, x4_2, x4_3, x4_4, x4_5, x4_6, x4_7, x4_8, x4_9, x4_10, x4_11, x4_12, x4_13, x4_14, x4_15, x4_16, x4_17, x4_18, x4_19, x4_20, x4_21, x4_22, x4_23, x4_24, x4_25⟩ := KX.out _ g2; clear g1 g2))
        go_ret
        exact ⟨rfl, R4.out.1, HFV.out.tr R4.out.2⟩
set_option maxRecDepth 100000 in
set_option maxHeartbeats 8000000 in
theorem st38n {F : RF} {n : Nat} (G : GoodR F n) (w : World) (B pt mu mv : Nat) (nv : Value) (s : Pl) (t : Tr) (kv : Value) (gen : Bool) (hr : RW w B pt mu mv nv s) (hd : t.fitsD (n + 1) = true) (hwf : t.wf1) (hk : KidsAt w B kv t.kids) {ka : Tr} {kb : Tr} (hkind : t.kind = 38) (hkids : t.kids = [ka, kb]) (hsg : sg t.op wLetConst = false) :
    Calls Tryd.prog 38 #[.pointer (some ⟨pt, 0, none⟩), .agg #[.int .i64 t.kind, .int .i64 t.at_, .string t.name, .int .u64 t.num, .string t.op, kv], .bool gen] w (RP w B pt mu mv nv (stP F t gen s)) := by
  have hgo : stP F t gen s = (okM false) s := by unfold stP; rw [hkind, hkids]; simp [manyP, hsg]
  rw [hgo]
  have hlen : t.kids.length = 2 := by rw [hkids]; rfl
  obtain ⟨A, cap, rfl, hcl, hcm, hA⟩ := hk.slice
  obtain ⟨b, off, rfl, hbB⟩ := hA (by omega)
  rw [hlen] at hk hcl ⊢
  clear hA
  rw [hkind]
  have hWV : Below w.heap.size w (w.alloc (.cells #[.int .i64 38, .int .i64 t.at_, .string t.name, .int .u64 t.num, .string t.op, .slice (some ⟨b, off, none⟩) 2 cap] 31)) := below_alloc (Below.refl _ _)
  have hRV : RW (w.alloc (.cells #[.int .i64 38, .int .i64 t.at_, .string t.name, .int .u64 t.num, .string t.op, .slice (some ⟨b, off, none⟩) 2 cap] 31)) B pt mu mv nv s := hr.fr hWV
  have HFV := Lib.hid (show Fr (SR mu mv) w (w.alloc (.cells #[.int .i64 38, .int .i64 t.at_, .string t.name, .int .u64 t.num, .string t.op, .slice (some ⟨b, off, none⟩) 2 cap] 31)) from Fr.of_below hWV)
  have hb8 : Blk (w.alloc (.cells #[.int .i64 38, .int .i64 t.at_, .string t.name, .int .u64 t.num, .string t.op, .slice (some ⟨b, off, none⟩) 2 cap] 31)) w.heap.size 31 #[.int .i64 38, .int .i64 t.at_, .string t.name, .int .u64 t.num, .string t.op, .slice (some ⟨b, off, none⟩) 2 cap] := Blk.new _ _ _
  have hpl := hr.blk.lt
  have hbw : b < w.heap.size := Nat.lt_of_lt_of_le hbB hr.size
  have hn1 : w.heap.size ≠ b := by omega
  have hn2 : w.heap.size ≠ pt := by omega
  have N8 := Fr.not_sr hRV hb8
  have NP := Fr.not_sr hRV hRV.blk
  obtain ⟨cpu, cpv⟩ := hr.cells
  have hi0 : t.kids[0]? = some ka := by rw [hkids]; rfl
  have hd0 := Tr.fitsD_kid hd (List.mem_of_getElem? hi0)
  obtain ⟨_, hw0, kv0, hn0, hs0⟩ := hk.kid hi0
  obtain ⟨Aka, capka, rfl, _, _, _⟩ := hs0.slice
  obtain ⟨d00, d01, d02, d03, d04, d05⟩ := kid_cells hn0 (off) (by omega)
  have hi1 : t.kids[1]? = some kb := by rw [hkids]; rfl
  have hd1 := Tr.fitsD_kid hd (List.mem_of_getElem? hi1)
  obtain ⟨_, hw1, kv1, hn1, hs1⟩ := hk.kid hi1
  obtain ⟨Akb, capkb, rfl, _, _, _⟩ := hs1.slice
  obtain ⟨d10, d11, d12, d13, d14, d15⟩ := kid_cells hn1 (off + 6) (by omega)
  have KX := Lib.hid (fun w' (f : Fr (SR mu mv) (w.alloc (.cells #[.int .i64 38, .int .i64 t.at_, .string t.name, .int .u64 t.num, .string t.op, .slice (some ⟨b, off, none⟩) 2 cap] 31)) w') => show w'.cell? ⟨w.heap.size, 0, none⟩ = some (.int .i64 38) ∧ w'.cell? ⟨w.heap.size, 1, none⟩ = some (.int .i64 t.at_) ∧ w'.cell? ⟨w.heap.size, 2, none⟩ = some (.string t.name) ∧ w'.cell? ⟨w.heap.size, 3, none⟩ = some (.int .u64 t.num) ∧ w'.cell? ⟨w.heap.size, 4, none⟩ = some (.string t.op) ∧ w'.cell? ⟨w.heap.size, 5, none⟩ = some (.slice (some ⟨b, off, none⟩) 2 cap) ∧ w'.cell? ⟨pt, 0, none⟩ = some (.map (some mu)) ∧ w'.cell? ⟨pt, 1, none⟩ = some (.map (some mv)) ∧ w'.cell? ⟨b, off, none⟩ = some (.int .i64 ka.kind) ∧ w'.cell? ⟨b, off + 1, none⟩ = some (.int .i64 ka.at_) ∧ w'.cell? ⟨b, off + 2, none⟩ = some (.string ka.name) ∧ w'.cell? ⟨b, off + 3, none⟩ = some (.int .u64 ka.num) ∧ w'.cell? ⟨b, off + 4, none⟩ = some (.string ka.op) ∧ w'.cell? ⟨b, off + 5, none⟩ = some (.slice Aka ka.kids.length capka) ∧ w'.cell? ⟨b, off + 6, none⟩ = some (.int .i64 kb.kind) ∧ w'.cell? ⟨b, off + 7, none⟩ = some (.int .i64 kb.at_) ∧ w'.cell? ⟨b, off + 8, none⟩ = some (.string kb.name) ∧ w'.cell? ⟨b, off + 9, none⟩ = some (.int .u64 kb.num) ∧ w'.cell? ⟨b, off + 10, none⟩ = some (.string kb.op) ∧ w'.cell? ⟨b, off + 11, none⟩ = some (.slice Akb kb.kids.length capkb) from ⟨f.cell hb8 N8 0 rfl, f.cell hb8 N8 1 rfl, f.cell hb8 N8 2 rfl, f.cell hb8 N8 3 rfl, f.cell hb8 N8 4 rfl, f.cell hb8 N8 5 rfl, f.cell hRV.blk NP 0 rfl, f.cell hRV.blk NP 1 rfl, ((Fr.root hRV f).cell (p := ⟨b, off, none⟩) hbB).trans (((hWV.mono hr.size).cell (p := ⟨b, off, none⟩) hbB).trans d00), ((Fr.root hRV f).cell (p := ⟨b, off + 1, none⟩) hbB).trans (((hWV.mono hr.size).cell (p := ⟨b, off + 1, none⟩) hbB).trans d01), ((Fr.root hRV f).cell (p := ⟨b, off + 2, none⟩) hbB).trans (((hWV.mono hr.size).cell (p := ⟨b, off + 2, none⟩) hbB).trans d02), ((Fr.root hRV f).cell (p := ⟨b, off + 3, none⟩) hbB).trans (((hWV.mono hr.size).cell (p := ⟨b, off + 3, none⟩) hbB).trans d03), ((Fr.root hRV f).cell (p := ⟨b, off + 4, none⟩) hbB).trans (((hWV.mono hr.size).cell (p := ⟨b, off + 4, none⟩) hbB).trans d04), ((Fr.root hRV f).cell (p := ⟨b, off + 5, none⟩) hbB).trans (((hWV.mono hr.size).cell (p := ⟨b, off + 5, none⟩) hbB).trans d05), ((Fr.root hRV f).cell (p := ⟨b, off + 6, none⟩) hbB).trans (((hWV.mono hr.size).cell (p := ⟨b, off + 6, none⟩) hbB).trans d10), ((Fr.root hRV f).cell (p := ⟨b, off + 7, none⟩) hbB).trans (((hWV.mono hr.size).cell (p := ⟨b, off + 7, none⟩) hbB).trans d11), ((Fr.root hRV f).cell (p := ⟨b, off + 8, none⟩) hbB).trans (((hWV.mono hr.size).cell (p := ⟨b, off + 8, none⟩) hbB).trans d12), ((Fr.root hRV f).cell (p := ⟨b, off + 9, none⟩) hbB).trans (((hWV.mono hr.size).cell (p := ⟨b, off + 9, none⟩) hbB).trans d13), ((Fr.root hRV f).cell (p := ⟨b, off + 10, none⟩) hbB).trans (((hWV.mono hr.size).cell (p := ⟨b, off + 10, none⟩) hbB).trans d14), ((Fr.root hRV f).cell (p := ⟨b, off + 11, none⟩) hbB).trans (((hWV.mono hr.size).cell (p := ⟨b, off + 11, none⟩) hbB).trans d15)⟩)
  have R0 := Lib.hid (And.intro hRV (Fr.refl (SR mu mv) (w.alloc (.cells #[.int .i64 38, .int .i64 t.at_, .string t.name, .int .u64 t.num, .string t.op, .slice (some ⟨b, off, none⟩) 2 cap] 31))))
  have C1 := Lib.hid (fun (W : World) (ht : Lib.TabIs Tryd.prog W "strings.asciiSpace" .u8 Lib.asciiSpaceTab) => show Calls Tryd.prog 56 #[.string t.op, .string ⟨#[108, 101, 116, 32, 99, 111, 110, 115, 116]⟩] W (fun e w' => e = .returned (.bool (sg t.op wLetConst)) ∧ Below W.heap.size W w') from signs_calls W t.op wLetConst ht (by decide) (ascii_of (by decide +kernel)) (by decide +kernel))
  unfold RP
  clear hgo hr hd hk hWV hb8 N8 NP hRV
  have MC := Lib.hid (show Calls Tryd.prog 58 #[.int .i64 38] (w.alloc (.cells #[.int .i64 38, .int .i64 t.at_, .string t.name, .int .u64 t.num, .string t.op, .slice (some ⟨b, off, none⟩) 2 cap] 31)) _ from many_calls _ 38)
  have hmn : manyP 38 = 2 := rfl
  rw [hmn] at MC
  have HE := Lib.hid (show (okM false) s = (false, s) from rfl)
  have D1 := Lib.hid (fun W ht => C1.out W ht)
  rw [hsg] at D1
  rw [HE.out]
  clear C1
  clear hkind hkids hlen hsg hwf
  go_enter Tryd.func38, Tryd.ntmps38
  go_wp2_with (first | (go_at_call 58; (with_reducible refine MC.out.mono ?_); rintro e w' ⟨rfl, rfl⟩))
  have R0d := Lib.hid (And.intro R0.out.1.drew R0.out.2.drew)
  have SX := Lib.hid (fun w' (f : Fr (SR mu mv) (w.alloc (.cells #[.int .i64 38, .int .i64 t.at_, .string t.name, .int .u64 t.num, .string t.op, .slice (some ⟨b, off, none⟩) 2 cap] 31)) w') => show (fun w' => w'.cell? ⟨w.heap.size, 0, none⟩ = some (.int .i64 38) ∧ w'.cell? ⟨w.heap.size, 1, none⟩ = some (.int .i64 t.at_) ∧ w'.cell? ⟨w.heap.size, 2, none⟩ = some (.string t.name) ∧ w'.cell? ⟨w.heap.size, 3, none⟩ = some (.int .u64 t.num) ∧ w'.cell? ⟨w.heap.size, 4, none⟩ = some (.string t.op) ∧ w'.cell? ⟨w.heap.size, 5, none⟩ = some (.slice (some ⟨b, off, none⟩) 2 cap) ∧ w'.cell? ⟨pt, 0, none⟩ = some (.map (some mu)) ∧ w'.cell? ⟨pt, 1, none⟩ = some (.map (some mv)) ∧ w'.cell? ⟨b, off, none⟩ = some (.int .i64 ka.kind) ∧ w'.cell? ⟨b, off + 1, none⟩ = some (.int .i64 ka.at_) ∧ w'.cell? ⟨b, off + 2, none⟩ = some (.string ka.name) ∧ w'.cell? ⟨b, off + 3, none⟩ = some (.int .u64 ka.num) ∧ w'.cell? ⟨b, off + 4, none⟩ = some (.string ka.op) ∧ w'.cell? ⟨b, off + 5, none⟩ = some (.slice Aka ka.kids.length capka) ∧ w'.cell? ⟨b, off + 6, none⟩ = some (.int .i64 kb.kind) ∧ w'.cell? ⟨b, off + 7, none⟩ = some (.int .i64 kb.at_) ∧ w'.cell? ⟨b, off + 8, none⟩ = some (.string kb.name) ∧ w'.cell? ⟨b, off + 9, none⟩ = some (.int .u64 kb.num) ∧ w'.cell? ⟨b, off + 10, none⟩ = some (.string kb.op) ∧ w'.cell? ⟨b, off + 11, none⟩ = some (.slice Akb kb.kids.length capkb)) w' from KX.out w' f)
  refine wp_region_held_drew (S := (fun w' => w'.cell? ⟨w.heap.size, 0, none⟩ = some (.int .i64 38) ∧ w'.cell? ⟨w.heap.size, 1, none⟩ = some (.int .i64 t.at_) ∧ w'.cell? ⟨w.heap.size, 2, none⟩ = some (.string t.name) ∧ w'.cell? ⟨w.heap.size, 3, none⟩ = some (.int .u64 t.num) ∧ w'.cell? ⟨w.heap.size, 4, none⟩ = some (.string t.op) ∧ w'.cell? ⟨w.heap.size, 5, none⟩ = some (.slice (some ⟨b, off, none⟩) 2 cap) ∧ w'.cell? ⟨pt, 0, none⟩ = some (.map (some mu)) ∧ w'.cell? ⟨pt, 1, none⟩ = some (.map (some mv)) ∧ w'.cell? ⟨b, off, none⟩ = some (.int .i64 ka.kind) ∧ w'.cell? ⟨b, off + 1, none⟩ = some (.int .i64 ka.at_) ∧ w'.cell? ⟨b, off + 2, none⟩ = some (.string ka.name) ∧ w'.cell? ⟨b, off + 3, none⟩ = some (.int .u64 ka.num) ∧ w'.cell? ⟨b, off + 4, none⟩ = some (.string ka.op) ∧ w'.cell? ⟨b, off + 5, none⟩ = some (.slice Aka ka.kids.length capka) ∧ w'.cell? ⟨b, off + 6, none⟩ = some (.int .i64 kb.kind) ∧ w'.cell? ⟨b, off + 7, none⟩ = some (.int .i64 kb.at_) ∧ w'.cell? ⟨b, off + 8, none⟩ = some (.string kb.name) ∧ w'.cell? ⟨b, off + 9, none⟩ = some (.int .u64 kb.num) ∧ w'.cell? ⟨b, off + 10, none⟩ = some (.string kb.op) ∧ w'.cell? ⟨b, off + 11, none⟩ = some (.slice Akb kb.kids.length capkb))) (by kernel_rfl) ?_ (fun hHeld => ?_)
  · exact SX.out _ R0d.out.2
  refine tk 0 ?_
  try simp only [Act.put, z1, z2, z3]
  refine tk 1 ?_
  try simp only [Act.put, z1, z2, z3]
  refine wpAnyH_ready (rs := [2]) (by kernel_rfl) (by simp) ?_
  refine (AllReadyH.cons (i := 2) (o := ?o3) ?h3 (fun K hK => ?k3) AllReadyH.nil)
  case h3 => (simp only [List.getElem?_toArray, List.getElem?_cons_succ, List.getElem?_cons_zero]; try rfl)
  case k3 =>
    go_simp
    go_at_call 56; (with_reducible refine (D1.out _ R0d.out.1.tab.here).mono ?_); rintro e v1 ⟨rfl, bm⟩; have R1 := Lib.hid (And.intro (R0d.out.1.fr bm) (R0d.out.2.tr (Fr.of_below bm))); obtain ⟨x1_0, x1_1, x1_2, x1_3, x1_4, x1_5, x1_6, x1_7, x1_8, x1_9, x1_10, x1_11, x1_12, x1_13, x1_14, x1_15, x1_16, x1_17, x1_18, x1_19⟩ := KX.out _ R1.out.2; clear bm
    try go_wp2_with fail
    refine hK.out _ _ ?_ (fun hHeld => ?_)
    · exact SX.out _ R1.out.2
    clear hK K
    try simp only [Act.put, z1, z2, z3]
    refine tk 3 ?_
    try simp only [Act.put, z1, z2, z3]
    refine tn 4 ?_
    try simp only [Act.put, z1, z2, z3]
    refine tn 5 ?_
    try simp only [Act.put, z1, z2, z3]
    refine tn 6 ?_
    try simp only [Act.put, z1, z2, z3]
    refine tn 7 ?_
    try simp only [Act.put, z1, z2, z3]
    refine tn 8 ?_
    try simp only [Act.put, z1, z2, z3]
    refine tn 9 ?_
    try simp only [Act.put, z1, z2, z3]
    refine tn 10 ?_
    try simp only [Act.put, z1, z2, z3]
    refine tk 11 ?_
    try simp only [Act.put, z1, z2, z3]
    refine tk 12 ?_
    try simp only [Act.put, z1, z2, z3]
    refine tn 13 ?_
    try simp only [Act.put, z1, z2, z3]
    refine tn 14 ?_
    try simp only [Act.put, z1, z2, z3]
    refine tn 15 ?_
    try simp only [Act.put, z1, z2, z3]
    refine tn 16 ?_
    try simp only [Act.put, z1, z2, z3]
    refine tn 17 ?_
    try simp only [Act.put, z1, z2, z3]
    refine tn 18 ?_
    try simp only [Act.put, z1, z2, z3]
    refine tk 19 ?_
    try simp only [Act.put, z1, z2, z3]
    refine tk 20 ?_
    try simp only [Act.put, z1, z2, z3]
    refine tn 21 ?_
    try simp only [Act.put, z1, z2, z3]
    refine tn 22 ?_
    try simp only [Act.put, z1, z2, z3]
    refine tn 23 ?_
    try simp only [Act.put, z1, z2, z3]
    refine tn 24 ?_
    try simp only [Act.put, z1, z2, z3]
    refine tn 25 ?_
    try simp only [Act.put, z1, z2, z3]
    refine tn 26 ?_
    try simp only [Act.put, z1, z2, z3]
    refine tk 27 ?_
    try simp only [Act.put, z1, z2, z3]
    refine tk 28 ?_
    try simp only [Act.put, z1, z2, z3]
    refine wpAnyH_done (by kernel_rfl) ?_ _
    go_wp2
    go_ret
    exact ⟨rfl, R1.out.1, HFV.out.tr R1.out.2⟩
set_option maxRecDepth 100000 in
set_option maxHeartbeats 8000000 in
theorem st38 {F : RF} {n : Nat} (G : GoodR F n) (w : World) (B pt mu mv : Nat) (nv : Value) (s : Pl) (t : Tr) (kv : Value) (gen : Bool) (hr : RW w B pt mu mv nv s) (hd : t.fitsD (n + 1) = true) (hwf : t.wf1) (hk : KidsAt w B kv t.kids) {ka : Tr} {kb : Tr} (hkind : t.kind = 38) (hkids : t.kids = [ka, kb]) (hsg : sg t.op wLetConst = true) :
    Calls Tryd.prog 38 #[.pointer (some ⟨pt, 0, none⟩), .agg #[.int .i64 t.kind, .int .i64 t.at_, .string t.name, .int .u64 t.num, .string t.op, kv], .bool gen] w (RP w B pt mu mv nv (stP F t gen s)) := by
  have hgo : stP F t gen s = (andM (varM t.at_) (andM (F.ex ka gen) (F.st kb gen))) s := by unfold stP; rw [hkind, hkids]; simp [manyP, hsg]
  rw [hgo]
  have hlen : t.kids.length = 2 := by rw [hkids]; rfl
  obtain ⟨A, cap, rfl, hcl, hcm, hA⟩ := hk.slice
  obtain ⟨b, off, rfl, hbB⟩ := hA (by omega)
  rw [hlen] at hk hcl ⊢
  clear hA
  rw [hkind]
  have hWV : Below w.heap.size w (w.alloc (.cells #[.int .i64 38, .int .i64 t.at_, .string t.name, .int .u64 t.num, .string t.op, .slice (some ⟨b, off, none⟩) 2 cap] 31)) := below_alloc (Below.refl _ _)
  have hRV : RW (w.alloc (.cells #[.int .i64 38, .int .i64 t.at_, .string t.name, .int .u64 t.num, .string t.op, .slice (some ⟨b, off, none⟩) 2 cap] 31)) B pt mu mv nv s := hr.fr hWV
  have HFV := Lib.hid (show Fr (SR mu mv) w (w.alloc (.cells #[.int .i64 38, .int .i64 t.at_, .string t.name, .int .u64 t.num, .string t.op, .slice (some ⟨b, off, none⟩) 2 cap] 31)) from Fr.of_below hWV)
  have hb8 : Blk (w.alloc (.cells #[.int .i64 38, .int .i64 t.at_, .string t.name, .int .u64 t.num, .string t.op, .slice (some ⟨b, off, none⟩) 2 cap] 31)) w.heap.size 31 #[.int .i64 38, .int .i64 t.at_, .string t.name, .int .u64 t.num, .string t.op, .slice (some ⟨b, off, none⟩) 2 cap] := Blk.new _ _ _
  have hpl := hr.blk.lt
  have hbw : b < w.heap.size := Nat.lt_of_lt_of_le hbB hr.size
  have hn1 : w.heap.size ≠ b := by omega
  have hn2 : w.heap.size ≠ pt := by omega
  have N8 := Fr.not_sr hRV hb8
  have NP := Fr.not_sr hRV hRV.blk
  obtain ⟨cpu, cpv⟩ := hr.cells
  have hi0 : t.kids[0]? = some ka := by rw [hkids]; rfl
  have hd0 := Tr.fitsD_kid hd (List.mem_of_getElem? hi0)
  obtain ⟨_, hw0, kv0, hn0, hs0⟩ := hk.kid hi0
  obtain ⟨Aka, capka, rfl, _, _, _⟩ := hs0.slice
  obtain ⟨d00, d01, d02, d03, d04, d05⟩ := kid_cells hn0 (off) (by omega)
  have hi1 : t.kids[1]? = some kb := by rw [hkids]; rfl
  have hd1 := Tr.fitsD_kid hd (List.mem_of_getElem? hi1)
  obtain ⟨_, hw1, kv1, hn1, hs1⟩ := hk.kid hi1
  obtain ⟨Akb, capkb, rfl, _, _, _⟩ := hs1.slice
  obtain ⟨d10, d11, d12, d13, d14, d15⟩ := kid_cells hn1 (off + 6) (by omega)
  have KX := Lib.hid (fun w' (f : Fr (SR mu mv) (w.alloc (.cells #[.int .i64 38, .int .i64 t.at_, .string t.name, .int .u64 t.num, .string t.op, .slice (some ⟨b, off, none⟩) 2 cap] 31)) w') => show w'.cell? ⟨w.heap.size, 0, none⟩ = some (.int .i64 38) ∧ w'.cell? ⟨w.heap.size, 1, none⟩ = some (.int .i64 t.at_) ∧ w'.cell? ⟨w.heap.size, 2, none⟩ = some (.string t.name) ∧ w'.cell? ⟨w.heap.size, 3, none⟩ = some (.int .u64 t.num) ∧ w'.cell? ⟨w.heap.size, 4, none⟩ = some (.string t.op) ∧ w'.cell? ⟨w.heap.size, 5, none⟩ = some (.slice (some ⟨b, off, none⟩) 2 cap) ∧ w'.cell? ⟨pt, 0, none⟩ = some (.map (some mu)) ∧ w'.cell? ⟨pt, 1, none⟩ = some (.map (some mv)) ∧ w'.cell? ⟨b, off, none⟩ = some (.int .i64 ka.kind) ∧ w'.cell? ⟨b, off + 1, none⟩ = some (.int .i64 ka.at_) ∧ w'.cell? ⟨b, off + 2, none⟩ = some (.string ka.name) ∧ w'.cell? ⟨b, off + 3, none⟩ = some (.int .u64 ka.num) ∧ w'.cell? ⟨b, off + 4, none⟩ = some (.string ka.op) ∧ w'.cell? ⟨b, off + 5, none⟩ = some (.slice Aka ka.kids.length capka) ∧ w'.cell? ⟨b, off + 6, none⟩ = some (.int .i64 kb.kind) ∧ w'.cell? ⟨b, off + 7, none⟩ = some (.int .i64 kb.at_) ∧ w'.cell? ⟨b, off + 8, none⟩ = some (.string kb.name) ∧ w'.cell? ⟨b, off + 9, none⟩ = some (.int .u64 kb.num) ∧ w'.cell? ⟨b, off + 10, none⟩ = some (.string kb.op) ∧ w'.cell? ⟨b, off + 11, none⟩ = some (.slice Akb kb.kids.length capkb) from ⟨f.cell hb8 N8 0 rfl, f.cell hb8 N8 1 rfl, f.cell hb8 N8 2 rfl, f.cell hb8 N8 3 rfl, f.cell hb8 N8 4 rfl, f.cell hb8 N8 5 rfl, f.cell hRV.blk NP 0 rfl, f.cell hRV.blk NP 1 rfl, ((Fr.root hRV f).cell (p := ⟨b, off, none⟩) hbB).trans (((hWV.mono hr.size).cell (p := ⟨b, off, none⟩) hbB).trans d00), ((Fr.root hRV f).cell (p := ⟨b, off + 1, none⟩) hbB).trans (((hWV.mono hr.size).cell (p := ⟨b, off + 1, none⟩) hbB).trans d01), ((Fr.root hRV f).cell (p := ⟨b, off + 2, none⟩) hbB).trans (((hWV.mono hr.size).cell (p := ⟨b, off + 2, none⟩) hbB).trans d02), ((Fr.root hRV f).cell (p := ⟨b, off + 3, none⟩) hbB).trans (((hWV.mono hr.size).cell (p := ⟨b, off + 3, none⟩) hbB).trans d03), ((Fr.root hRV f).cell (p := ⟨b, off + 4, none⟩) hbB).trans (((hWV.mono hr.size).cell (p := ⟨b, off + 4, none⟩) hbB).trans d04), ((Fr.root hRV f).cell (p := ⟨b, off + 5, none⟩) hbB).trans (((hWV.mono hr.size).cell (p := ⟨b, off + 5, none⟩) hbB).trans d05), ((Fr.root hRV f).cell (p := ⟨b, off + 6, none⟩) hbB).trans (((hWV.mono hr.size).cell (p := ⟨b, off + 6, none⟩) hbB).trans d10), ((Fr.root hRV f).cell (p := ⟨b, off + 7, none⟩) hbB).trans (((hWV.mono hr.size).cell (p := ⟨b, off + 7, none⟩) hbB).trans d11), ((Fr.root hRV f).cell (p := ⟨b, off + 8, none⟩) hbB).trans (((hWV.mono hr.size).cell (p := ⟨b, off + 8, none⟩) hbB).trans d12), ((Fr.root hRV f).cell (p := ⟨b, off + 9, none⟩) hbB).trans (((hWV.mono hr.size).cell (p := ⟨b, off + 9, none⟩) hbB).trans d13), ((Fr.root hRV f).cell (p := ⟨b, off + 10, none⟩) hbB).trans (((hWV.mono hr.size).cell (p := ⟨b, off + 10, none⟩) hbB).trans d14), ((Fr.root hRV f).cell (p := ⟨b, off + 11, none⟩) hbB).trans (((hWV.mono hr.size).cell (p := ⟨b, off + 11, none⟩) hbB).trans d15)⟩)
  have R0 := Lib.hid (And.intro hRV (Fr.refl (SR mu mv) (w.alloc (.cells #[.int .i64 38, .int .i64 t.at_, .string t.name, .int .u64 t.num, .string t.op, .slice (some ⟨b, off, none⟩) 2 cap] 31))))
  have C1 := Lib.hid (fun (W : World) (ht : Lib.TabIs Tryd.prog W "strings.asciiSpace" .u8 Lib.asciiSpaceTab) => show Calls Tryd.prog 56 #[.string t.op, .string ⟨#[108, 101, 116, 32, 99, 111, 110, 115, 116]⟩] W (fun e w' => e = .returned (.bool (sg t.op wLetConst)) ∧ Below W.heap.size W w') from signs_calls W t.op wLetConst ht (by decide) (ascii_of (by decide +kernel)) (by decide +kernel))
  have C2 := Lib.hid (fun W s1 (f : Fr (SR mu mv) (w.alloc (.cells #[.int .i64 38, .int .i64 t.at_, .string t.name, .int .u64 t.num, .string t.op, .slice (some ⟨b, off, none⟩) 2 cap] 31)) W) (r : RW W B pt mu mv nv s1) => show Calls Tryd.prog 34 #[.map (some mv), .int .i64 t.at_] W (fun e w' => e = .returned (.bool ((varM t.at_) s1).1) ∧ RW w' B pt mu mv nv ((varM t.at_) s1).2 ∧ Fr (SR mu mv) (w.alloc (.cells #[.int .i64 38, .int .i64 t.at_, .string t.name, .int .u64 t.num, .string t.op, .slice (some ⟨b, off, none⟩) 2 cap] 31)) w') from (var_calls r hwf.1).mono fun e w' ⟨h1, h2, h3⟩ => ⟨h1, h2, f.tr h3⟩)
  have C3 := Lib.hid (fun W s1 (f : Fr (SR mu mv) (w.alloc (.cells #[.int .i64 38, .int .i64 t.at_, .string t.name, .int .u64 t.num, .string t.op, .slice (some ⟨b, off, none⟩) 2 cap] 31)) W) (r : RW W B pt mu mv nv s1) => show Calls Tryd.prog 36 #[.pointer (some ⟨pt, 0, none⟩), .agg #[.int .i64 ka.kind, .int .i64 ka.at_, .string ka.name, .int .u64 ka.num, .string ka.op, .slice Aka ka.kids.length capka], .bool gen] W (fun e w' => e = .returned (.bool ((F.ex ka gen) s1).1) ∧ RW w' B pt mu mv nv ((F.ex ka gen) s1).2 ∧ Fr (SR mu mv) (w.alloc (.cells #[.int .i64 38, .int .i64 t.at_, .string t.name, .int .u64 t.num, .string t.op, .slice (some ⟨b, off, none⟩) 2 cap] 31)) w') from (G.ex W B pt mu mv nv s1 ka _ gen r hd0 hw0 (f.to hRV (hs0.under (hWV.mono hr.size)))).mono fun e w' ⟨h1, h2, h3⟩ => ⟨h1, h2, f.tr h3⟩)
  have C4 := Lib.hid (fun W s1 (f : Fr (SR mu mv) (w.alloc (.cells #[.int .i64 38, .int .i64 t.at_, .string t.name, .int .u64 t.num, .string t.op, .slice (some ⟨b, off, none⟩) 2 cap] 31)) W) (r : RW W B pt mu mv nv s1) => show Calls Tryd.prog 38 #[.pointer (some ⟨pt, 0, none⟩), .agg #[.int .i64 kb.kind, .int .i64 kb.at_, .string kb.name, .int .u64 kb.num, .string kb.op, .slice Akb kb.kids.length capkb], .bool gen] W (fun e w' => e = .returned (.bool ((F.st kb gen) s1).1) ∧ RW w' B pt mu mv nv ((F.st kb gen) s1).2 ∧ Fr (SR mu mv) (w.alloc (.cells #[.int .i64 38, .int .i64 t.at_, .string t.name, .int .u64 t.num, .string t.op, .slice (some ⟨b, off, none⟩) 2 cap] 31)) w') from (G.st W B pt mu mv nv s1 kb _ gen r hd1 hw1 (f.to hRV (hs1.under (hWV.mono hr.size)))).mono fun e w' ⟨h1, h2, h3⟩ => ⟨h1, h2, f.tr h3⟩)
  unfold RP
  clear hgo hr hd hk hWV hb8 N8 NP hRV
  have MC := Lib.hid (show Calls Tryd.prog 58 #[.int .i64 38] (w.alloc (.cells #[.int .i64 38, .int .i64 t.at_, .string t.name, .int .u64 t.num, .string t.op, .slice (some ⟨b, off, none⟩) 2 cap] 31)) _ from many_calls _ 38)
  have hmn : manyP 38 = 2 := rfl
  rw [hmn] at MC
  cases h1 : ((varM t.at_) s).1
  · have HE := Lib.hid (show (andM (varM t.at_) (andM (F.ex ka gen) (F.st kb gen))) s = (false, ((varM t.at_) s).2) from by rw [andM_false h1])
    have D1 := Lib.hid (fun W ht => C1.out W ht)
    rw [hsg] at D1
    have D2 := Lib.hid (fun W f r => C2.out W s f r)
    rw [h1] at D2
    rw [HE.out]
    clear C1 C2 C3 C4
    clear hkind hkids hlen hsg hwf h1
    go_enter Tryd.func38, Tryd.ntmps38
    go_wp2_with (first | (go_at_call 58; (with_reducible refine MC.out.mono ?_); rintro e w' ⟨rfl, rfl⟩))
    have R0d := Lib.hid (And.intro R0.out.1.drew R0.out.2.drew)
    have SX := Lib.hid (fun w' (f : Fr (SR mu mv) (w.alloc (.cells #[.int .i64 38, .int .i64 t.at_, .string t.name, .int .u64 t.num, .string t.op, .slice (some ⟨b, off, none⟩) 2 cap] 31)) w') => show (fun w' => w'.cell? ⟨w.heap.size, 0, none⟩ = some (.int .i64 38) ∧ w'.cell? ⟨w.heap.size, 1, none⟩ = some (.int .i64 t.at_) ∧ w'.cell? ⟨w.heap.size, 2, none⟩ = some (.string t.name) ∧ w'.cell? ⟨w.heap.size, 3, none⟩ = some (.int .u64 t.num) ∧ w'.cell? ⟨w.heap.size, 4, none⟩ = some (.string t.op) ∧ w'.cell? ⟨w.heap.size, 5, none⟩ = some (.slice (some ⟨b, off, none⟩) 2 cap) ∧ w'.cell? ⟨pt, 0, none⟩ = some (.map (some mu)) ∧ w'.cell? ⟨pt, 1, none⟩ = some (.map (some mv)) ∧ w'.cell? ⟨b, off, none⟩ = some (.int .i64 ka.kind) ∧ w'.cell? ⟨b, off + 1, none⟩ = some (.int .i64 ka.at_) ∧ w'.cell? ⟨b, off + 2, none⟩ = some (.string ka.name) ∧ w'.cell? ⟨b, off + 3, none⟩ = some (.int .u64 ka.num) ∧ w'.cell? ⟨b, off + 4, none⟩ = some (.string ka.op) ∧ w'.cell? ⟨b, off + 5, none⟩ = some (.slice Aka ka.kids.length capka) ∧ w'.cell? ⟨b, off + 6, none⟩ = some (.int .i64 kb.kind) ∧ w'.cell? ⟨b, off + 7, none⟩ = some (.int .i64 kb.at_) ∧ w'.cell? ⟨b, off + 8, none⟩ = some (.string kb.name) ∧ w'.cell? ⟨b, off + 9, none⟩ = some (.int .u64 kb.num) ∧ w'.cell? ⟨b, off + 10, none⟩ = some (.string kb.op) ∧ w'.cell? ⟨b, off + 11, none⟩ = some (.slice Akb kb.kids.length capkb)) w' from KX.out w' f)
    refine wp_region_held_drew (S := (fun w' => w'.cell? ⟨w.heap.size, 0, none⟩ = some (.int .i64 38) ∧ w'.cell? ⟨w.heap.size, 1, none⟩ = some (.int .i64 t.at_) ∧ w'.cell? ⟨w.heap.size, 2, none⟩ = some (.string t.name) ∧ w'.cell? ⟨w.heap.size, 3, none⟩ = some (.int .u64 t.num) ∧ w'.cell? ⟨w.heap.size, 4, none⟩ = some (.string t.op) ∧ w'.cell? ⟨w.heap.size, 5, none⟩ = some (.slice (some ⟨b, off, none⟩) 2 cap) ∧ w'.cell? ⟨pt, 0, none⟩ = some (.map (some mu)) ∧ w'.cell? ⟨pt, 1, none⟩ = some (.map (some mv)) ∧ w'.cell? ⟨b, off, none⟩ = some (.int .i64 ka.kind) ∧ w'.cell? ⟨b, off + 1, none⟩ = some (.int .i64 ka.at_) ∧ w'.cell? ⟨b, off + 2, none⟩ = some (.string ka.name) ∧ w'.cell? ⟨b, off + 3, none⟩ = some (.int .u64 ka.num) ∧ w'.cell? ⟨b, off + 4, none⟩ = some (.string ka.op) ∧ w'.cell? ⟨b, off + 5, none⟩ = some (.slice Aka ka.kids.length capka) ∧ w'.cell? ⟨b, off + 6, none⟩ = some (.int .i64 kb.kind) ∧ w'.cell? ⟨b, off + 7, none⟩ = some (.int .i64 kb.at_) ∧ w'.cell? ⟨b, off + 8, none⟩ = some (.string kb.name) ∧ w'.cell? ⟨b, off + 9, none⟩ = some (.int .u64 kb.num) ∧ w'.cell? ⟨b, off + 10, none⟩ = some (.string kb.op) ∧ w'.cell? ⟨b, off + 11, none⟩ = some (.slice Akb kb.kids.length capkb))) (by kernel_rfl) ?_ (fun hHeld => ?_)
    · exact SX.out _ R0d.out.2
    refine tk 0 ?_
    try simp only [Act.put, z1, z2, z3]
    refine tk 1 ?_
    try simp only [Act.put, z1, z2, z3]
    refine wpAnyH_ready (rs := [2]) (by kernel_rfl) (by simp) ?_
    refine (AllReadyH.cons (i := 2) (o := ?o32) ?h32 (fun K hK => ?k32) AllReadyH.nil)
    case h32 => (simp only [List.getElem?_toArray, List.getElem?_cons_succ, List.getElem?_cons_zero]; try rfl)
    case k32 =>
      go_simp
      go_at_call 56; (with_reducible refine (D1.out _ R0d.out.1.tab.here).mono ?_); rintro e v1 ⟨rfl, bm⟩; have R1 := Lib.hid (And.intro (R0d.out.1.fr bm) (R0d.out.2.tr (Fr.of_below bm))); obtain ⟨x1_0, x1_1, x1_2, x1_3, x1_4, x1_5, x1_6, x1_7, x1_8, x1_9, x1_10, x1_11, x1_12, x1_13, x1_14, x1_15, x1_16, x1_17, x1_18, x1_19⟩ := KX.out _ R1.out.2; clear bm
      try go_wp2_with fail
      refine hK.out _ _ ?_ (fun hHeld => ?_)
      · exact SX.out _ R1.out.2
      clear hK K
      try simp only [Act.put, z1, z2, z3]
      refine tk 3 ?_
      try simp only [Act.put, z1, z2, z3]
      refine tk 4 ?_
      try simp only [Act.put, z1, z2, z3]
      refine tk 5 ?_
      try simp only [Act.put, z1, z2, z3]
      refine tk 6 ?_
      try simp only [Act.put, z1, z2, z3]
      refine tk 7 ?_
      try simp only [Act.put, z1, z2, z3]
      refine tk 8 ?_
      try simp only [Act.put, z1, z2, z3]
      refine tk 9 ?_
      try simp only [Act.put, z1, z2, z3]
      refine wpAnyH_ready (rs := [10]) (by kernel_rfl) (by simp) ?_
      refine (AllReadyH.cons (i := 10) (o := ?o40) ?h40 (fun K hK => ?k40) AllReadyH.nil)
      case h40 => (simp only [List.getElem?_toArray, List.getElem?_cons_succ, List.getElem?_cons_zero]; try rfl)
      case k40 =>
        go_simp
        go_at_call 34; (with_reducible refine (D2.out _ R1.out.2 R1.out.1).mono ?_); rintro e v2 ⟨rfl, g1, g2⟩; have R2 := Lib.hid (And.intro g1 g2); obtain ⟨x2_0, x2_1, x2_2, x2_3, x2_4, x2_5, x2_6, x2_7, x2_8, x2_9, x2_10, x2_11, x2_12, x2_13, x2_14, x2_15, x2_16, x2_17, x2_18, x2_19⟩ := KX.out _ g2; clear g1 g2
        try go_wp2_with fail
        refine hK.out _ _ ?_ (fun hHeld => ?_)
        · exact SX.out _ R2.out.2
        clear hK K
        try simp only [Act.put, z1, z2, z3]
        refine tk 11 ?_
        try simp only [Act.put, z1, z2, z3]
        refine tk 12 ?_
        try simp only [Act.put, z1, z2, z3]
        refine tn 13 ?_
        try simp only [Act.put, z1, z2, z3]
        refine tn 14 ?_
        try simp only [Act.put, z1, z2, z3]
        refine tn 15 ?_
        try simp only [Act.put, z1, z2, z3]
        refine tn 16 ?_
        try simp only [Act.put, z1, z2, z3]
        refine tn 17 ?_
        try simp only [Act.put, z1, z2, z3]
        refine tn 18 ?_
        try simp only [Act.put, z1, z2, z3]
        refine tk 19 ?_
        try simp only [Act.put, z1, z2, z3]
        refine tk 20 ?_
        try simp only [Act.put, z1, z2, z3]
        refine tn 21 ?_
        try simp only [Act.put, z1, z2, z3]
        refine tn 22 ?_
        try simp only [Act.put, z1, z2, z3]
        refine tn 23 ?_
        try simp only [Act.put, z1, z2, z3]
        refine tn 24 ?_
        try simp only [Act.put, z1, z2, z3]
        refine tn 25 ?_
        try simp only [Act.put, z1, z2, z3]
        refine tn 26 ?_
        try simp only [Act.put, z1, z2, z3]
        refine tk 27 ?_
        try simp only [Act.put, z1, z2, z3]
        refine tk 28 ?_
        try simp only [Act.put, z1, z2, z3]
        refine wpAnyH_done (by kernel_rfl) ?_ _
        go_wp2
        go_ret
        exact ⟨rfl, R2.out.1, HFV.out.tr R2.out.2⟩
  · skip
    cases h2 : ((F.ex ka gen) ((varM t.at_) s).2).1
    · have HE := Lib.hid (show (andM (varM t.at_) (andM (F.ex ka gen) (F.st kb gen))) s = (false, ((F.ex ka gen) ((varM t.at_) s).2).2) from by rw [andM_true h1, andM_false h2])
      have D1 := Lib.hid (fun W ht => C1.out W ht)
      rw [hsg] at D1
      have D2 := Lib.hid (fun W f r => C2.out W s f r)
      rw [h1] at D2
      have D3 := Lib.hid (fun W f r => C3.out W ((varM t.at_) s).2 f r)
      rw [h2] at D3
      rw [HE.out]
      clear C1 C2 C3 C4
      clear hkind hkids hlen hsg hwf h1 h2
      go_enter Tryd.func38, Tryd.ntmps38
      go_wp2_with (first | (go_at_call 58; (with_reducible refine MC.out.mono ?_); rintro e w' ⟨rfl, rfl⟩))
      have R0d := Lib.hid (And.intro R0.out.1.drew R0.out.2.drew)
      have SX := Lib.hid (fun w' (f : Fr (SR mu mv) (w.alloc (.cells #[.int .i64 38, .int .i64 t.at_, .string t.name, .int .u64 t.num, .string t.op, .slice (some ⟨b, off, none⟩) 2 cap] 31)) w') => show (fun w' => w'.cell? ⟨w.heap.size, 0, none⟩ = some (.int .i64 38) ∧ w'.cell? ⟨w.heap.size, 1, none⟩ = some (.int .i64 t.at_) ∧ w'.cell? ⟨w.heap.size, 2, none⟩ = some (.string t.name) ∧ w'.cell? ⟨w.heap.size, 3, none⟩ = some (.int .u64 t.num) ∧ w'.cell? ⟨w.heap.size, 4, none⟩ = some (.string t.op) ∧ w'.cell? ⟨w.heap.size, 5, none⟩ = some (.slice (some ⟨b, off, none⟩) 2 cap) ∧ w'.cell? ⟨pt, 0, none⟩ = some (.map (some mu)) ∧ w'.cell? ⟨pt, 1, none⟩ = some (.map (some mv)) ∧ w'.cell? ⟨b, off, none⟩ = some (.int .i64 ka.kind) ∧ w'.cell? ⟨b, off + 1, none⟩ = some (.int .i64 ka.at_) ∧ w'.cell? ⟨b, off + 2, none⟩ = some (.string ka.name) ∧ w'.cell? ⟨b, off + 3, none⟩ = some (.int .u64 ka.num) ∧ w'.cell? ⟨b, off + 4, none⟩ = some (.string ka.op) ∧ w'.cell? ⟨b, off + 5, none⟩ = some (.slice Aka ka.kids.length capka) ∧ w'.cell? ⟨b, off + 6, none⟩ = some (.int .i64 kb.kind) ∧ w'.cell? ⟨b, off + 7, none⟩ = some (.int .i64 kb.at_) ∧ w'.cell? ⟨b, off + 8, none⟩ = some (.string kb.name) ∧ w'.cell? ⟨b, off + 9, none⟩ = some (.int .u64 kb.num) ∧ w'.cell? ⟨b, off + 10, none⟩ = some (.string kb.op) ∧ w'.cell? ⟨b, off + 11, none⟩ = some (.slice Akb kb.kids.length capkb)) w' from KX.out w' f)
      refine wp_region_held_drew (S := (fun w' => w'.cell? ⟨w.heap.size, 0, none⟩ = some (.int .i64 38) ∧ w'.cell? ⟨w.heap.size, 1, none⟩ = some (.int .i64 t.at_) ∧ w'.cell? ⟨w.heap.size, 2, none⟩ = some (.string t.name) ∧ w'.cell? ⟨w.heap.size, 3, none⟩ = some (.int .u64 t.num) ∧ w'.cell? ⟨w.heap.size, 4, none⟩ = some (.string t.op) ∧ w'.cell? ⟨w.heap.size, 5, none⟩ = some (.slice (some ⟨b, off, none⟩) 2 cap) ∧ w'.cell? ⟨pt, 0, none⟩ = some (.map (some mu)) ∧ w'.cell? ⟨pt, 1, none⟩ = some (.map (some mv)) ∧ w'.cell? ⟨b, off, none⟩ = some (.int .i64 ka.kind) ∧ w'.cell? ⟨b, off + 1, none⟩ = some (.int .i64 ka.at_) ∧ w'.cell? ⟨b, off + 2, none⟩ = some (.string ka.name) ∧ w'.cell? ⟨b, off + 3, none⟩ = some (.int .u64 ka.num) ∧ w'.cell? ⟨b, off + 4, none⟩ = some (.string ka.op) ∧ w'.cell? ⟨b, off + 5, none⟩ = some (.slice Aka ka.kids.length capka) ∧ w'.cell? ⟨b, off + 6, none⟩ = some (.int .i64 kb.kind) ∧ w'.cell? ⟨b, off + 7, none⟩ = some (.int .i64 kb.at_) ∧ w'.cell? ⟨b, off + 8, none⟩ = some (.string kb.name) ∧ w'.cell? ⟨b, off + 9, none⟩ = some (.int .u64 kb.num) ∧ w'.cell? ⟨b, off + 10, none⟩ = some (.string kb.op) ∧ w'.cell? ⟨b, off + 11, none⟩ = some (.slice Akb kb.kids.length capkb))) (by kernel_rfl) ?_ (fun hHeld => ?_)
      · exact SX.out _ R0d.out.2
      refine tk 0 ?_
      try simp only [Act.put, z1, z2, z3]
      refine tk 1 ?_
      try simp only [Act.put, z1, z2, z3]
      refine wpAnyH_ready (rs := [2]) (by kernel_rfl) (by simp) ?_
      refine (AllReadyH.cons (i := 2) (o := ?o61) ?h61 (fun K hK => ?k61) AllReadyH.nil)
      case h61 => (simp only [List.getElem?_toArray, List.getElem?_cons_succ, List.getElem?_cons_zero]; try rfl)
      case k61 =>
        go_simp
        go_at_call 56; (with_reducible refine (D1.out _ R0d.out.1.tab.here).mono ?_); rintro e v1 ⟨rfl, bm⟩; have R1 := Lib.hid (And.intro (R0d.out.1.fr bm) (R0d.out.2.tr (Fr.of_below bm))); obtain ⟨x1_0, x1_1, x1_2, x1_3, x1_4, x1_5, x1_6, x1_7, x1_8, x1_9, x1_10, x1_11, x1_12, x1_13, x1_14, x1_15, x1_16, x1_17, x1_18, x1_19⟩ := KX.out _ R1.out.2; clear bm
        try go_wp2_with fail
        refine hK.out _ _ ?_ (fun hHeld => ?_)
        · exact SX.out _ R1.out.2
        clear hK K
        try simp only [Act.put, z1, z2, z3]
        refine tk 3 ?_
        try simp only [Act.put, z1, z2, z3]
        refine tk 4 ?_
        try simp only [Act.put, z1, z2, z3]
        refine tk 5 ?_
        try simp only [Act.put, z1, z2, z3]
        refine tk 6 ?_
        try simp only [Act.put, z1, z2, z3]
        refine tk 7 ?_
        try simp only [Act.put, z1, z2, z3]
        refine tk 8 ?_
        try simp only [Act.put, z1, z2, z3]
        refine tk 9 ?_
        try simp only [Act.put, z1, z2, z3]
        refine wpAnyH_ready (rs := [10]) (by kernel_rfl) (by simp) ?_
        refine (AllReadyH.cons (i := 10) (o := ?o69) ?h69 (fun K hK => ?k69) AllReadyH.nil)
        case h69 => (simp only [List.getElem?_toArray, List.getElem?_cons_succ, List.getElem?_cons_zero]; try rfl)
        case k69 =>
          go_simp
          go_at_call 34; (with_reducible refine (D2.out _ R1.out.2 R1.out.1).mono ?_); rintro e v2 ⟨rfl, g1, g2⟩; have R2 := Lib.hid (And.intro g1 g2); obtain ⟨x2_0, x2_1, x2_2, x2_3, x2_4, x2_5, x2_6, x2_7, x2_8, x2_9, x2_10, x2_11, x2_12, x2_13, x2_14, x2_15, x2_16, x2_17, x2_18, x2_19⟩ := KX.out _ g2; clear g1 g2
          try go_wp2_with fail
          refine hK.out _ _ ?_ (fun hHeld => ?_)
          · exact SX.out _ R2.out.2
          clear hK K
          try simp only [Act.put, z1, z2, z3]
          refine tk 11 ?_
          try simp only [Act.put, z1, z2, z3]
          refine tk 12 ?_
          try simp only [Act.put, z1, z2, z3]
          refine tk 13 ?_
          try simp only [Act.put, z1, z2, z3]
          refine tk 14 ?_
          try simp only [Act.put, z1, z2, z3]
          refine tk 15 ?_
          try simp only [Act.put, z1, z2, z3]
          refine tk 16 ?_
          try simp only [Act.put, z1, z2, z3]
          refine tk 17 ?_
          try simp only [Act.put, z1, z2, z3]
          refine wpAnyH_ready (rs := [18]) (by kernel_rfl) (by simp) ?_
          refine (AllReadyH.cons (i := 18) (o := ?o77) ?h77 (fun K hK => ?k77) AllReadyH.nil)
          case h77 => (simp only [List.getElem?_toArray, List.getElem?_cons_succ, List.getElem?_cons_zero]; try rfl)
          case k77 =>
            go_simp
            go_at_call 36; (with_reducible refine (D3.out _ R2.out.2 R2.out.1).mono ?_); rintro e v3 ⟨rfl, g1, g2⟩; have R3 := Lib.hid (And.intro g1 g2); obtain ⟨x3_0, x3_1, x3_2, x3_3, x3_4, x3_5, x3_6, x3_7, x3_8, x3_9, x3_10, x3_11, x3_12, x3_13, x3_14, x3_15, x3_16, x3_17, x3_18, x3_19⟩ := KX.out _ g2; clear g1 g2
            try go_wp2_with fail
            refine hK.out _ _ ?_ (fun hHeld => ?_)
            · exact SX.out _ R3.out.2
            clear hK K
            try simp only [Act.put, z1, z2, z3]
            refine tk 19 ?_
            try simp only [Act.put, z1, z2, z3]
            refine tk 20 ?_
            try simp only [Act.put, z1, z2, z3]
            refine tn 21 ?_
            try simp only [Act.put, z1, z2, z3]
            refine tn 22 ?_
            try simp only [Act.put, z1, z2, z3]
            refine tn 23 ?_
            try simp only [Act.put, z1, z2, z3]
            refine tn 24 ?_
            try simp only [Act.put, z1, z2, z3]
            refine tn 25 ?_
            try simp only [Act.put, z1, z2, z3]
            refine tn 26 ?_
            try simp only [Act.put, z1, z2, z3]
            refine tk 27 ?_
            try simp only [Act.put, z1, z2, z3]
            refine tk 28 ?_
            try simp only [Act.put, z1, z2, z3]
            refine wpAnyH_done (by kernel_rfl) ?_ _
            go_wp2
            go_ret
            exact ⟨rfl, R3.out.1, HFV.out.tr R3.out.2⟩
    · skip
      cases h3 : ((F.st kb gen) ((F.ex ka gen) ((varM t.at_) s).2).2).1
      · have HE := Lib.hid (show (andM (varM t.at_) (andM (F.ex ka gen) (F.st kb gen))) s = (false, ((F.st kb gen) ((F.ex ka gen) ((varM t.at_) s).2).2).2) from by rw [andM_true h1, andM_true h2]; exact Prod.ext h3 rfl)
        have D1 := Lib.hid (fun W ht => C1.out W ht)
        rw [hsg] at D1
        have D2 := Lib.hid (fun W f r => C2.out W s f r)
        rw [h1] at D2
        have D3 := Lib.hid (fun W f r => C3.out W ((varM t.at_) s).2 f r)
        rw [h2] at D3
        have D4 := Lib.hid (fun W f r => C4.out W ((F.ex ka gen) ((varM t.at_) s).2).2 f r)
        rw [h3] at D4
        rw [HE.out]
        clear C1 C2 C3 C4
        clear hkind hkids hlen hsg hwf h1 h2 h3
        go_enter Tryd.func38, Tryd.ntmps38
        go_wp2_with (first | (go_at_call 58; (with_reducible refine MC.out.mono ?_); rintro e w' ⟨rfl, rfl⟩))
        have R0d := Lib.hid (And.intro R0.out.1.drew R0.out.2.drew)
        have SX := Lib.hid (fun w' (f : Fr (SR mu mv) (w.alloc (.cells #[.int .i64 38, .int .i64 t.at_, .string t.name, .int .u64 t.num, .string t.op, .slice (some ⟨b, off, none⟩) 2 cap] 31)) w') => show (fun w' => w'.cell? ⟨w.heap.size, 0, none⟩ = some (.int .i64 38) ∧ w'.cell? ⟨w.heap.size, 1, none⟩ = some (.int .i64 t.at_) ∧ w'.cell? ⟨w.heap.size, 2, none⟩ = some (.string t.name) ∧ w'.cell? ⟨w.heap.size, 3, none⟩ = some (.int .u64 t.num) ∧ w'.cell? ⟨w.heap.size, 4, none⟩ = some (.string t.op) ∧ w'.cell? ⟨w.heap.size, 5, none⟩ = some (.slice (some ⟨b, off, none⟩) 2 cap) ∧ w'.cell? ⟨pt, 0, none⟩ = some (.map (some mu)) ∧ w'.cell? ⟨pt, 1, none⟩ = some (.map (some mv)) ∧ w'.cell? ⟨b, off, none⟩ = some (.int .i64 ka.kind) ∧ w'.cell? ⟨b, off + 1, none⟩ = some (.int .i64 ka.at_) ∧ w'.cell? ⟨b, off + 2, none⟩ = some (.string ka.name) ∧ w'.cell? ⟨b, off + 3, none⟩ = some (.int .u64 ka.num) ∧ w'.cell? ⟨b, off + 4, none⟩ = some (.string ka.op) ∧ w'.cell? ⟨b, off + 5, none⟩ = some (.slice Aka ka.kids.length capka) ∧ w'.cell? ⟨b, off + 6, none⟩ = some (.int .i64 kb.kind) ∧ w'.cell? ⟨b, off + 7, none⟩ = some (.int .i64 kb.at_) ∧ w'.cell? ⟨b, off + 8, none⟩ = some (.string kb.name) ∧ w'.cell? ⟨b, off + 9, none⟩ = some (.int .u64 kb.num) ∧ w'.cell? ⟨b, off + 10, none⟩ = some (.string kb.op) ∧ w'.cell? ⟨b, off + 11, none⟩ = some (.slice Akb kb.kids.length capkb)) w' from KX.out w' f)
        refine wp_region_held_drew (S := (fun w' => w'.cell? ⟨w.heap.size, 0, none⟩ = some (.int .i64 38) ∧ w'.cell? ⟨w.heap.size, 1, none⟩ = some (.int .i64 t.at_) ∧ w'.cell? ⟨w.heap.size, 2, none⟩ = some (.string t.name) ∧ w'.cell? ⟨w.heap.size, 3, none⟩ = some (.int .u64 t.num) ∧ w'.cell? ⟨w.heap.size, 4, none⟩ = some (.string t.op) ∧ w'.cell? ⟨w.heap.size, 5, none⟩ = some (.slice (some ⟨b, off, none⟩) 2 cap) ∧ w'.cell? ⟨pt, 0, none⟩ = some (.map (some mu)) ∧ w'.cell? ⟨pt, 1, none⟩ = some (.map (some mv)) ∧ w'.cell? ⟨b, off, none⟩ = some (.int .i64 ka.kind) ∧ w'.cell? ⟨b, off + 1, none⟩ = some (.int .i64 ka.at_) ∧ w'.cell? ⟨b, off + 2, none⟩ = some (.string ka.name) ∧ w'.cell? ⟨b, off + 3, none⟩ = some (.int .u64 ka.num) ∧ w'.cell? ⟨b, off + 4, none⟩ = some (.string ka.op) ∧ w'.cell? ⟨b, off + 5, none⟩ = some (.slice Aka ka.kids.length capka) ∧ w'.cell? ⟨b, off + 6, none⟩ = some (.int .i64 kb.kind) ∧ w'.cell? ⟨b, off + 7, none⟩ = some (.int .i64 kb.at_) ∧ w'.cell? ⟨b, off + 8, none⟩ = some (.string kb.name) ∧ w'.cell? ⟨b, off + 9, none⟩ = some (.int .u64 kb.num) ∧ w'.cell? ⟨b, off + 10, none⟩ = some (.string kb.op) ∧ w'.cell? ⟨b, off + 11, none⟩ = some (.slice Akb kb.kids.length capkb))) (by kernel_rfl) ?_ (fun hHeld => ?_)
        · exact SX.out _ R0d.out.2
        refine tk 0 ?_
        try simp only [Act.put, z1, z2, z3]
        refine tk 1 ?_
        try simp only [Act.put, z1, z2, z3]
        refine wpAnyH_ready (rs := [2]) (by kernel_rfl) (by simp) ?_
        refine (AllReadyH.cons (i := 2) (o := ?o90) ?h90 (fun K hK => ?k90) AllReadyH.nil)
        case h90 => (simp only [List.getElem?_toArray, List.getElem?_cons_succ, List.getElem?_cons_zero]; try rfl)
        case k90 =>
          go_simp
          go_at_call 56; (with_reducible refine (D1.out _ R0d.out.1.tab.here).mono ?_); rintro e v1 ⟨rfl, bm⟩; have R1 := Lib.hid (And.intro (R0d.out.1.fr bm) (R0d.out.2.tr (Fr.of_below bm))); obtain ⟨x1_0, x1_1, x1_2, x1_3, x1_4, x1_5, x1_6, x1_7, x1_8, x1_9, x1_10, x1_11, x1_12, x1_13, x1_14, x1_15, x1_16, x1_17, x1_18, x1_19⟩ := KX.out _ R1.out.2; clear bm
          try go_wp2_with fail
          refine hK.out _ _ ?_ (fun hHeld => ?_)
          · exact SX.out _ R1.out.2
          clear hK K
          try simp only [Act.put, z1, z2, z3]
          refine tk 3 ?_
          try simp only [Act.put, z1, z2, z3]
          refine tk 4 ?_
          try simp only [Act.put, z1, z2, z3]
          refine tk 5 ?_
          try simp only [Act.put, z1, z2, z3]
          refine tk 6 ?_
          try simp only [Act.put, z1, z2, z3]
          refine tk 7 ?_
          try simp only [Act.put, z1, z2, z3]
          refine tk 8 ?_
          try simp only [Act.put, z1, z2, z3]
          refine tk 9 ?_
          try simp only [Act.put, z1, z2, z3]
          refine wpAnyH_ready (rs := [10]) (by kernel_rfl) (by simp) ?_
          refine (AllReadyH.cons (i := 10) (o := ?o98) ?h98 (fun K hK => ?k98) AllReadyH.nil)
          case h98 => (simp only [List.getElem?_toArray, List.getElem?_cons_succ, List.getElem?_cons_zero]; try rfl)
          case k98 =>
            go_simp
            go_at_call 34; (with_reducible refine (D2.out _ R1.out.2 R1.out.1).mono ?_); rintro e v2 ⟨rfl, g1, g2⟩; have R2 := Lib.hid (And.intro g1 g2); obtain ⟨x2_0, x2_1, x2_2, x2_3, x2_4, x2_5, x2_6, x2_7, x2_8, x2_9, x2_10, x2_11, x2_12, x2_13, x2_14, x2_15, x2_16, x2_17, x2_18, x2_19⟩ := KX.out _ g2; clear g1 g2
            try go_wp2_with fail
            refine hK.out _ _ ?_ (fun hHeld => ?_)
            · exact SX.out _ R2.out.2
            clear hK K
            try simp only [Act.put, z1, z2, z3]
            refine tk 11 ?_
            try simp only [Act.put, z1, z2, z3]
            refine tk 12 ?_
            try simp only [Act.put, z1, z2, z3]
            refine tk 13 ?_
            try simp only [Act.put, z1, z2, z3]
            refine tk 14 ?_
            try simp only [Act.put, z1, z2, z3]
            refine tk 15 ?_
            try simp only [Act.put, z1, z2, z3]
            refine tk 16 ?_
            try simp only [Act.put, z1, z2, z3]
            refine tk 17 ?_
            try simp only [Act.put, z1, z2, z3]
            refine wpAnyH_ready (rs := [18]) (by kernel_rfl) (by simp) ?_
            refine (AllReadyH.cons (i := 18) (o := ?o106) ?h106 (fun K hK => ?k106) AllReadyH.nil)
            case h106 => (simp only [List.getElem?_toArray, List.getElem?_cons_succ, List.getElem?_cons_zero]; try rfl)
            case k106 =>
              go_simp
              go_at_call 36; (with_reducible refine (D3.out _ R2.out.2 R2.out.1).mono ?_); rintro e v3 ⟨rfl, g1, g2⟩; have R3 := Lib.hid (And.intro g1 g2); obtain ⟨x3_0, x3_1, x3_2, x3_3, x3_4, x3_5, x3_6, x3_7, x3_8, x3_9, x3_10, x3_11, x3_12, x3_13, x3_14, x3_15, x3_16, x3_17, x3_18, x3_19⟩ := KX.out _ g2; clear g1 g2
              try go_wp2_with fail
              refine hK.out _ _ ?_ (fun hHeld => ?_)
              · exact SX.out _ R3.out.2
              clear hK K
              try simp only [Act.put, z1, z2, z3]
              refine tk 19 ?_
              try simp only [Act.put, z1, z2, z3]
              refine tk 20 ?_
              try simp only [Act.put, z1, z2, z3]
              refine tk 21 ?_
              try simp only [Act.put, z1, z2, z3]
              refine tk 22 ?_
              try simp only [Act.put, z1, z2, z3]
              refine tk 23 ?_
              try simp only [Act.put, z1, z2, z3]
              refine tk 24 ?_
              try simp only [Act.put, z1, z2, z3]
              refine tk 25 ?_
              try simp only [Act.put, z1, z2, z3]
              refine wpAnyH_ready (rs := [26]) (by kernel_rfl) (by simp) ?_
              refine (AllReadyH.cons (i := 26) (o := ?o114) ?h114 (fun K hK => ?k114) AllReadyH.nil)
              case h114 => (simp only [List.getElem?_toArray, List.getElem?_cons_succ, List.getElem?_cons_zero]; try rfl)
              case k114 =>
                go_simp
                go_at_call 38; (with_reducible refine (D4.out _ R3.out.2 R3.out.1).mono ?_); rintro e v4 ⟨rfl, g1, g2⟩; have R4 := Lib.hid (And.intro g1 g2); obtain ⟨x4_0, x4_1, x4_2, x4_3, x4_4, x4_5, x4_6, x4_7, x4_8, x4_9, x4_10, x4_11, x4_12, x4_13, x4_14, x4_15, x4_16, x4_17, x4_18, x4_19⟩ := KX.out _ g2; clear g1 g2
                try go_wp2_with fail
                refine hK.out _ _ ?_ (fun hHeld => ?_)
                · exact SX.out _ R4.out.2
                clear hK K
                try simp only [Act.put, z1, z2, z3]
                refine tk 27 ?_
                try simp only [Act.put, z1, z2, z3]
                refine tk 28 ?_
                try simp only [Act.put, z1, z2, z3]
                refine wpAnyH_done (by kernel_rfl) ?_ _
                go_wp2
                go_ret
                exact ⟨rfl, R4.out.1, HFV.out.tr R4.out.2⟩
      · have HE := Lib.hid (show (andM (varM t.at_) (andM (F.ex ka gen) (F.st kb gen))) s = (true, ((F.st kb gen) ((F.ex ka gen) ((varM t.at_) s).2).2).2) from by rw [andM_true h1, andM_true h2]; exact Prod.ext h3 rfl)
        have D1 := Lib.hid (fun W ht => C1.out W ht)
        rw [hsg] at D1
        have D2 := Lib.hid (fun W f r => C2.out W s f r)
        rw [h1] at D2
        have D3 := Lib.hid (fun W f r => C3.out W ((varM t.at_) s).2 f r)
        rw [h2] at D3
        have D4 := Lib.hid (fun W f r => C4.out W ((F.ex ka gen) ((varM t.at_) s).2).2 f r)
        rw [h3] at D4
        rw [HE.out]
        clear C1 C2 C3 C4
        clear hkind hkids hlen hsg hwf h1 h2 h3
        go_enter Tryd.func38, Tryd.ntmps38
        go_wp2_with (first | (go_at_call 58; (with_reducible refine MC.out.mono ?_); rintro e w' ⟨rfl, rfl⟩))
        have R0d := Lib.hid (And.intro R0.out.1.drew R0.out.2.drew)
        have SX := Lib.hid (fun w' (f : Fr (SR mu mv) (w.alloc (.cells #[.int .i64 38, .int .i64 t.at_, .string t.name, .int .u64 t.num, .string t.op, .slice (some ⟨b, off, none⟩) 2 cap] 31)) w') => show (fun w' => w'.cell? ⟨w.heap.size, 0, none⟩ = some (.int .i64 38) ∧ w'.cell? ⟨w.heap.size, 1, none⟩ = some (.int .i64 t.at_) ∧ w'.cell? ⟨w.heap.size, 2, none⟩ = some (.string t.name) ∧ w'.cell? ⟨w.heap.size, 3, none⟩ = some (.int .u64 t.num) ∧ w'.cell? ⟨w.heap.size, 4, none⟩ = some (.string t.op) ∧ w'.cell? ⟨w.heap.size, 5, none⟩ = some (.slice (some ⟨b, off, none⟩) 2 cap) ∧ w'.cell? ⟨pt, 0, none⟩ = some (.map (some mu)) ∧ w'.cell? ⟨pt, 1, none⟩ = some (.map (some mv)) ∧ w'.cell? ⟨b, off, none⟩ = some (.int .i64 ka.kind) ∧ w'.cell? ⟨b, off + 1, none⟩ = some (.int .i64 ka.at_) ∧ w'.cell? ⟨b, off + 2, none⟩ = some (.string ka.name) ∧ w'.cell? ⟨b, off + 3, none⟩ = some (.int .u64 ka.num) ∧ w'.cell? ⟨b, off + 4, none⟩ = some (.string ka.op) ∧ w'.cell? ⟨b, off + 5, none⟩ = some (.slice Aka ka.kids.length capka) ∧ w'.cell? ⟨b, off + 6, none⟩ = some (.int .i64 kb.kind) ∧ w'.cell? ⟨b, off + 7, none⟩ = some (.int .i64 kb.at_) ∧ w'.cell? ⟨b, off + 8, none⟩ = some (.string kb.name) ∧ w'.cell? ⟨b, off + 9, none⟩ = some (.int .u64 kb.num) ∧ w'.cell? ⟨b, off + 10, none⟩ = some (.string kb.op) ∧ w'.cell? ⟨b, off + 11, none⟩ = some (.slice Akb kb.kids.length capkb)) w' from KX.out w' f)
        refine wp_region_held_drew (S := (fun w' => w'.cell? ⟨w.heap.size, 0, none⟩ = some (.int .i64 38) ∧ w'.cell? ⟨w.heap.size, 1, none⟩ = some (.int .i64 t.at_) ∧ w'.cell? ⟨w.heap.size, 2, none⟩ = some (.string t.name) ∧ w'.cell? ⟨w.heap.size, 3, none⟩ = some (.int .u64 t.num) ∧ w'.cell? ⟨w.heap.size, 4, none⟩ = some (.string t.op) ∧ w'.cell? ⟨w.heap.size, 5, none⟩ = some (.slice (some ⟨b, off, none⟩) 2 cap) ∧ w'.cell? ⟨pt, 0, none⟩ = some (.map (some mu)) ∧ w'.cell? ⟨pt, 1, none⟩ = some (.map (some mv)) ∧ w'.cell? ⟨b, off, none⟩ = some (.int .i64 ka.kind) ∧ w'.cell? ⟨b, off + 1, none⟩ = some (.int .i64 ka.at_) ∧ w'.cell? ⟨b, off + 2, none⟩ = some (.string ka.name) ∧ w'.cell? ⟨b, off + 3, none⟩ = some (.int .u64 ka.num) ∧ w'.cell? ⟨b, off + 4, none⟩ = some (.string ka.op) ∧ w'.cell? ⟨b, off + 5, none⟩ = some (.slice Aka ka.kids.length capka) ∧ w'.cell? ⟨b, off + 6, none⟩ = some (.int .i64 kb.kind) ∧ w'.cell? ⟨b, off + 7, none⟩ = some (.int .i64 kb.at_) ∧ w'.cell? ⟨b, off + 8, none⟩ = some (.string kb.name) ∧ w'.cell? ⟨b, off + 9, none⟩ = some (.int .u64 kb.num) ∧ w'.cell? ⟨b, off + 10, none⟩ = some (.string kb.op) ∧ w'.cell? ⟨b, off + 11, none⟩ = some (.slice Akb kb.kids.length capkb))) (by kernel_rfl) ?_ (fun hHeld => ?_)
        · exact SX.out _ R0d.out.2
        refine tk 0 ?_
        try simp only [Act.put, z1, z2, z3]
        refine tk 1 ?_
        try simp only [Act.put, z1, z2, z3]
        refine wpAnyH_ready (rs := [2]) (by kernel_rfl) (by simp) ?_
        refine (AllReadyH.cons (i := 2) (o := ?o119) ?h119 (fun K hK => ?k119) AllReadyH.nil)
        case h119 => (simp only [List.getElem?_toArray, List.getElem?_cons_succ, List.getElem?_cons_zero]; try rfl)
        case k119 =>
          go_simp
          go_at_call 56; (with_reducible refine (D1.out _ R0d.out.1.tab.here).mono ?_); rintro e v1 ⟨rfl, bm⟩; have R1 := Lib.hid (And.intro (R0d.out.1.fr bm) (R0d.out.2.tr (Fr.of_below bm))); obtain ⟨x1_0, x1_1, x1_2, x1_3, x1_4, x1_5, x1_6, x1_7, x1_8, x1_9, x1_10, x1_11, x1_12, x1_13, x1_14, x1_15, x1_16, x1_17, x1_18, x1_19⟩ := KX.out _ R1.out.2; clear bm
          try go_wp2_with fail
          refine hK.out _ _ ?_ (fun hHeld => ?_)
          · exact SX.out _ R1.out.2
          clear hK K
          try simp only [Act.put, z1, z2, z3]
          refine tk 3 ?_
          try simp only [Act.put, z1, z2, z3]
          refine tk 4 ?_
          try simp only [Act.put, z1, z2, z3]
          refine tk 5 ?_
          try simp only [Act.put, z1, z2, z3]
          refine tk 6 ?_
          try simp only [Act.put, z1, z2, z3]
          refine tk 7 ?_
          try simp only [Act.put, z1, z2, z3]
          refine tk 8 ?_
          try simp only [Act.put, z1, z2, z3]
          refine tk 9 ?_
          try simp only [Act.put, z1, z2, z3]
          refine wpAnyH_ready (rs := [10]) (by kernel_rfl) (by simp) ?_
          refine (AllReadyH.cons (i := 10) (o := ?o127) ?h127 (fun K hK => ?k127) AllReadyH.nil)
          case h127 => (simp only [List.getElem?_toArray, List.getElem?_cons_succ, List.getElem?_cons_zero]; try rfl)
          case k127 =>
            go_simp
            go_at_call 34; (with_reducible refine (D2.out _ R1.out.2 R1.out.1).mono ?_); rintro e v2 ⟨rfl, g1, g2⟩; have R2 := Lib.hid (And.intro g1 g2); obtain ⟨x2_0, x2_1, x2_2, x2_3, x2_4, x2_5, x2_6, x2_7, x2_8, x2_9, x2_10, x2_11, x2_12, x2_13, x2_14, x2_15, x2_16, x2_17, x2_18, x2_19⟩ := KX.out _ g2; clear g1 g2
            try go_wp2_with fail
            refine hK.out _ _ ?_ (fun hHeld => ?_)
            · exact SX.out _ R2.out.2
            clear hK K
            try simp only [Act.put, z1, z2, z3]
            refine tk 11 ?_
            try simp only [Act.put, z1, z2, z3]
            refine tk 12 ?_
            try simp only [Act.put, z1, z2, z3]
            refine tk 13 ?_
            try simp only [Act.put, z1, z2, z3]
            refine tk 14 ?_
            try simp only [Act.put, z1, z2, z3]
            refine tk 15 ?_
            try simp only [Act.put, z1, z2, z3]
            refine tk 16 ?_
            try simp only [Act.put, z1, z2, z3]
            refine tk 17 ?_
            try simp only [Act.put, z1, z2, z3]
            refine wpAnyH_ready (rs := [18]) (by kernel_rfl) (by simp) ?_
            refine (AllReadyH.cons (i := 18) (o := ?o135) ?h135 (fun K hK => ?k135) AllReadyH.nil)
            case h135 => (simp only [List.getElem?_toArray, List.getElem?_cons_succ, List.getElem?_cons_zero]; try rfl)
            case k135 =>
              go_simp
              go_at_call 36; (with_reducible refine (D3.out _ R2.out.2 R2.out.1).mono ?_); rintro e v3 ⟨rfl, g1, g2⟩; have R3 := Lib.hid (And.intro g1 g2); obtain ⟨x3_0, x3_1, x3_2, x3_3, x3_4, x3_5, x3_6, x3_7, x3_8, x3_9, x3_10, x3_11, x3_12, x3_13, x3_14, x3_15, x3_16, x3_17, x3_18, x3_19⟩ := KX.out _ g2; clear g1 g2
              try go_wp2_with fail
              refine hK.out _ _ ?_ (fun hHeld => ?_)
              · exact SX.out _ R3.out.2
              clear hK K
              try simp only [Act.put, z1, z2, z3]
              refine tk 19 ?_
              try simp only [Act.put, z1, z2, z3]
              refine tk 20 ?_
              try simp only [Act.put, z1, z2, z3]
              refine tk 21 ?_
              try simp only [Act.put, z1, z2, z3]
              refine tk 22 ?_
              try simp only [Act.put, z1, z2, z3]
              refine tk 23 ?_
              try simp only [Act.put, z1, z2, z3]
              refine tk 24 ?_
              try simp only [Act.put, z1, z2, z3]
              refine tk 25 ?_
              try simp only [Act.put, z1, z2, z3]
              refine wpAnyH_ready (rs := [26]) (by kernel_rfl) (by simp) ?_
              refine (AllReadyH.cons (i := 26) (o := ?o143) ?h143 (fun K hK => ?k143) AllReadyH.nil)
              case h143 => (simp only [List.getElem?_toArray, List.getElem?_cons_succ, List.getElem?_cons_zero]; try rfl)
              case k143 =>
                go_simp
                go_at_call 38; (with_reducible refine (D4.out _ R3.out.2 R3.out.1).mono ?_); rintro e v4 ⟨rfl, g1, g2⟩; have R4 := Lib.hid (And.intro g1 g2); obtain ⟨x4_0, x4_1, x4_2, x4_3, x4_4, x4_5, x4_6, x4_7, x4_8, x4_9, x4_10, x4_11, x4_12, x4_13, x4_14, x4_15, x4_16, x4_17, x4_18, x4_19⟩ := KX.out _ g2; clear g1 g2
                try go_wp2_with fail
                refine hK.out _ _ ?_ (fun hHeld => ?_)
                · exact SX.out _ R4.out.2
                clear hK K
                try simp only [Act.put, z1, z2, z3]
                refine tk 27 ?_
                try simp only [Act.put, z1, z2, z3]
                refine tk 28 ?_
                try simp only [Act.put, z1, z2, z3]
                refine wpAnyH_done (by kernel_rfl) ?_ _
                go_wp2
                go_ret
                exact ⟨rfl, R4.out.1, HFV.out.tr R4.out.2⟩
end Go.Proofs.YtlenhcmgcgccmaaDoor
