/- Scope: Right: expr, signs and all. -/
import Derived.Test.YtlenhcmgcgccmaaDoorTo
namespace Go.Proofs.YtlenhcmgcgccmaaDoor
open Go.RowKit Go
set_option linter.unusedVariables false
set_option linter.unusedSimpArgs false
set_option maxRecDepth 100000 in
set_option maxHeartbeats 8000000 in
theorem ex13 {F : RF} {n : Nat} (G : GoodR F n) (w : World) (B pt mu mv : Nat) (nv : Value) (s : Pl) (t : Tr) (kv : Value) (gen : Bool) (hr : RW w B pt mu mv nv s) (hd : t.fitsD (n + 1) = true) (hwf : t.wf1) (hk : KidsAt w B kv t.kids) {ka : Tr} {kb : Tr} (hkind : t.kind = 13) (hkids : t.kids = [ka, kb]) :
    Calls Tryd.prog 36 #[.pointer (some ⟨pt, 0, none⟩), .agg #[.int .i64 t.kind, .int .i64 t.at_, .string t.name, .int .u64 t.num, .string t.op, kv], .bool gen] w (RP w B pt mu mv nv (exP F t gen s)) := by
  have hgo : exP F t gen s = (exsM F t.kids gen) s := by unfold exP; rw [hkind, hkids]; simp
  rw [hgo]
  have hlen : t.kids.length = 2 := by rw [hkids]; rfl
  obtain ⟨A, cap, rfl, hcl, hcm, hA⟩ := hk.slice
  obtain ⟨b, off, rfl, hbB⟩ := hA (by omega)
  rw [hlen] at hk hcl ⊢
  clear hA
  rw [hkind]
  have hWV : Below w.heap.size w (w.alloc (.cells #[.int .i64 13, .int .i64 t.at_, .string t.name, .int .u64 t.num, .string t.op, .slice (some ⟨b, off, none⟩) 2 cap] 31)) := below_alloc (Below.refl _ _)
  have hRV : RW (w.alloc (.cells #[.int .i64 13, .int .i64 t.at_, .string t.name, .int .u64 t.num, .string t.op, .slice (some ⟨b, off, none⟩) 2 cap] 31)) B pt mu mv nv s := hr.fr hWV
  have HFV := Lib.hid (show Fr (SR mu mv) w (w.alloc (.cells #[.int .i64 13, .int .i64 t.at_, .string t.name, .int .u64 t.num, .string t.op, .slice (some ⟨b, off, none⟩) 2 cap] 31)) from Fr.of_below hWV)
  have hb8 : Blk (w.alloc (.cells #[.int .i64 13, .int .i64 t.at_, .string t.name, .int .u64 t.num, .string t.op, .slice (some ⟨b, off, none⟩) 2 cap] 31)) w.heap.size 31 #[.int .i64 13, .int .i64 t.at_, .string t.name, .int .u64 t.num, .string t.op, .slice (some ⟨b, off, none⟩) 2 cap] := Blk.new _ _ _
  have hpl := hr.blk.lt
  have hbw : b < w.heap.size := Nat.lt_of_lt_of_le hbB hr.size
  have hn1 : w.heap.size ≠ b := by omega
  have hn2 : w.heap.size ≠ pt := by omega
  have N8 := Fr.not_sr hRV hb8
  have NP := Fr.not_sr hRV hRV.blk
  obtain ⟨cpu, cpv⟩ := hr.cells
  have hi0 : t.kids[0]? = some ka := by rw [hkids]; rfl
  have hd0 := Tr.fitsD_kid hd (List.mem_of_getElem? hi0)
  obtain ⟨_, hw0, kv0, hn0, hs0⟩ := hk.kid hi0
  obtain ⟨Aka, capka, rfl, _, _, _⟩ := hs0.slice
  obtain ⟨d00, d01, d02, d03, d04, d05⟩ := kid_cells hn0 (off) (by omega)
  have hi1 : t.kids[1]? = some kb := by rw [hkids]; rfl
  have hd1 := Tr.fitsD_kid hd (List.mem_of_getElem? hi1)
  obtain ⟨_, hw1, kv1, hn1, hs1⟩ := hk.kid hi1
  obtain ⟨Akb, capkb, rfl, _, _, _⟩ := hs1.slice
  obtain ⟨d10, d11, d12, d13, d14, d15⟩ := kid_cells hn1 (off + 6) (by omega)
  have KX := Lib.hid (fun w' (f : Fr (SR mu mv) (w.alloc (.cells #[.int .i64 13, .int .i64 t.at_, .string t.name, .int .u64 t.num, .string t.op, .slice (some ⟨b, off, none⟩) 2 cap] 31)) w') => show w'.cell? ⟨w.heap.size, 0, none⟩ = some (.int .i64 13) ∧ w'.cell? ⟨w.heap.size, 1, none⟩ = some (.int .i64 t.at_) ∧ w'.cell? ⟨w.heap.size, 2, none⟩ = some (.string t.name) ∧ w'.cell? ⟨w.heap.size, 3, none⟩ = some (.int .u64 t.num) ∧ w'.cell? ⟨w.heap.size, 4, none⟩ = some (.string t.op) ∧ w'.cell? ⟨w.heap.size, 5, none⟩ = some (.slice (some ⟨b, off, none⟩) 2 cap) ∧ w'.cell? ⟨pt, 0, none⟩ = some (.map (some mu)) ∧ w'.cell? ⟨pt, 1, none⟩ = some (.map (some mv)) ∧ w'.cell? ⟨b, off, none⟩ = some (.int .i64 ka.kind) ∧ w'.cell? ⟨b, off + 1, none⟩ = some (.int .i64 ka.at_) ∧ w'.cell? ⟨b, off + 2, none⟩ = some (.string ka.name) ∧ w'.cell? ⟨b, off + 3, none⟩ = some (.int .u64 ka.num) ∧ w'.cell? ⟨b, off + 4, none⟩ = some (.string ka.op) ∧ w'.cell? ⟨b, off + 5, none⟩ = some (.slice Aka ka.kids.length capka) ∧ w'.cell? ⟨b, off + 6, none⟩ = some (.int .i64 kb.kind) ∧ w'.cell? ⟨b, off + 7, none⟩ = some (.int .i64 kb.at_) ∧ w'.cell? ⟨b, off + 8, none⟩ = some (.string kb.name) ∧ w'.cell? ⟨b, off + 9, none⟩ = some (.int .u64 kb.num) ∧ w'.cell? ⟨b, off + 10, none⟩ = some (.string kb.op) ∧ w'.cell? ⟨b, off + 11, none⟩ = some (.slice Akb kb.kids.length capkb) from ⟨f.cell hb8 N8 0 rfl, f.cell hb8 N8 1 rfl, f.cell hb8 N8 2 rfl, f.cell hb8 N8 3 rfl, f.cell hb8 N8 4 rfl, f.cell hb8 N8 5 rfl, f.cell hRV.blk NP 0 rfl, f.cell hRV.blk NP 1 rfl, ((Fr.root hRV f).cell (p := ⟨b, off, none⟩) hbB).trans (((hWV.mono hr.size).cell (p := ⟨b, off, none⟩) hbB).trans d00), ((Fr.root hRV f).cell (p := ⟨b, off + 1, none⟩) hbB).trans (((hWV.mono hr.size).cell (p := ⟨b, off + 1, none⟩) hbB).trans d01), ((Fr.root hRV f).cell (p := ⟨b, off + 2, none⟩) hbB).trans (((hWV.mono hr.size).cell (p := ⟨b, off + 2, none⟩) hbB).trans d02), ((Fr.root hRV f).cell (p := ⟨b, off + 3, none⟩) hbB).trans (((hWV.mono hr.size).cell (p := ⟨b, off + 3, none⟩) hbB).trans d03), ((Fr.root hRV f).cell (p := ⟨b, off + 4, none⟩) hbB).trans (((hWV.mono hr.size).cell (p := ⟨b, off + 4, none⟩) hbB).trans d04), ((Fr.root hRV f).cell (p := ⟨b, off + 5, none⟩) hbB).trans (((hWV.mono hr.size).cell (p := ⟨b, off + 5, none⟩) hbB).trans d05), ((Fr.root hRV f).cell (p := ⟨b, off + 6, none⟩) hbB).trans (((hWV.mono hr.size).cell (p := ⟨b, off + 6, none⟩) hbB).trans d10), ((Fr.root hRV f).cell (p := ⟨b, off + 7, none⟩) hbB).trans (((hWV.mono hr.size).cell (p := ⟨b, off + 7, none⟩) hbB).trans d11), ((Fr.root hRV f).cell (p := ⟨b, off + 8, none⟩) hbB).trans (((hWV.mono hr.size).cell (p := ⟨b, off + 8, none⟩) hbB).trans d12), ((Fr.root hRV f).cell (p := ⟨b, off + 9, none⟩) hbB).trans (((hWV.mono hr.size).cell (p := ⟨b, off + 9, none⟩) hbB).trans d13), ((Fr.root hRV f).cell (p := ⟨b, off + 10, none⟩) hbB).trans (((hWV.mono hr.size).cell (p := ⟨b, off + 10, none⟩) hbB).trans d14), ((Fr.root hRV f).cell (p := ⟨b, off + 11, none⟩) hbB).trans (((hWV.mono hr.size).cell (p := ⟨b, off + 11, none⟩) hbB).trans d15)⟩)
  have R0 := Lib.hid (And.intro hRV (Fr.refl (SR mu mv) (w.alloc (.cells #[.int .i64 13, .int .i64 t.at_, .string t.name, .int .u64 t.num, .string t.op, .slice (some ⟨b, off, none⟩) 2 cap] 31))))
  have C1 := Lib.hid (fun W s1 (f : Fr (SR mu mv) (w.alloc (.cells #[.int .i64 13, .int .i64 t.at_, .string t.name, .int .u64 t.num, .string t.op, .slice (some ⟨b, off, none⟩) 2 cap] 31)) W) (r : RW W B pt mu mv nv s1) => show Calls Tryd.prog 55 #[.pointer (some ⟨pt, 0, none⟩), .slice (some ⟨b, off, none⟩) 2 cap, .bool gen] W (fun e w' => e = .returned (.bool ((exsM F t.kids gen) s1).1) ∧ RW w' B pt mu mv nv ((exsM F t.kids gen) s1).2 ∧ Fr (SR mu mv) (w.alloc (.cells #[.int .i64 13, .int .i64 t.at_, .string t.name, .int .u64 t.num, .string t.op, .slice (some ⟨b, off, none⟩) 2 cap] 31)) w') from (all_calls' G W B pt mu mv nv s1 t.kids _ cap gen 2 hlen r (fun k hk => Tr.fitsD_kid hd hk) (f.to hRV (hk.under (hWV.mono hr.size)))).mono fun e w' ⟨h1, h2, h3⟩ => ⟨h1, h2, f.tr h3⟩)
  unfold RP
  clear hgo hr hd hk hWV hb8 N8 NP hRV
  cases h1 : ((exsM F t.kids gen) s).1
  · have HE := Lib.hid (show (exsM F t.kids gen) s = (false, ((exsM F t.kids gen) s).2) from by exact Prod.ext h1 rfl)
    have D1 := Lib.hid (fun W f r => C1.out W s f r)
    rw [h1] at D1
    rw [HE.out]
    clear C1
    clear hkind hkids hlen  hwf h1
    go_enter Tryd.func36, Tryd.ntmps36
    go_wp2_with (first | (go_at_call 55; (with_reducible refine (D1.out _ R0.out.2 R0.out.1).mono ?_); rintro e v1 ⟨rfl, g1, g2⟩; have R1 := Lib.hid (And.intro g1 g2); obtain ⟨x1_0, x1_1, x1_2, x1_3, x1_4, x1_5, x1_6, x1_7, x1_8, x1_9, x1_10, x1_11, x1_12, x1_13, x1_14, x1_15, x1_16, x1_17, x1_18, x1_19⟩ := KX.out _ g2; clear g1 g2))
    go_ret
    exact ⟨rfl, R1.out.1, HFV.out.tr R1.out.2⟩
  · have HE := Lib.hid (show (exsM F t.kids gen) s = (true, ((exsM F t.kids gen) s).2) from by exact Prod.ext h1 rfl)
    have D1 := Lib.hid (fun W f r => C1.out W s f r)
    rw [h1] at D1
    rw [HE.out]
    clear C1
    clear hkind hkids hlen  hwf h1
    go_enter Tryd.func36, Tryd.ntmps36
    go_wp2_with (first | (go_at_call 55; (with_reducible refine (D1.out _ R0.out.2 R0.out.1).mono ?_); rintro e v1 ⟨rfl, g1, g2⟩; have R1 := Lib.hid (And.intro g1 g2); obtain ⟨x1_0, x1_1, x1_2, x1_3, x1_4, x1_5, x1_6, x1_7, x1_8, x1_9, x1_10, x1_11, x1_12, x1_13, x1_14, x1_15, x1_16, x1_17, x1_18, x1_19⟩ := KX.out _ g2; clear g1 g2))
    go_ret
    exact ⟨rfl, R1.out.1, HFV.out.tr R1.out.2⟩
set_option maxRecDepth 100000 in
set_option maxHeartbeats 8000000 in
theorem ex20 {F : RF} {n : Nat} (G : GoodR F n) (w : World) (B pt mu mv : Nat) (nv : Value) (s : Pl) (t : Tr) (kv : Value) (gen : Bool) (hr : RW w B pt mu mv nv s) (hd : t.fitsD (n + 1) = true) (hwf : t.wf1) (hk : KidsAt w B kv t.kids) {ka : Tr} {kb : Tr} {kc : Tr} (hkind : t.kind = 20) (hkids : t.kids = [ka, kb, kc]) :
    Calls Tryd.prog 36 #[.pointer (some ⟨pt, 0, none⟩), .agg #[.int .i64 t.kind, .int .i64 t.at_, .string t.name, .int .u64 t.num, .string t.op, kv], .bool gen] w (RP w B pt mu mv nv (exP F t gen s)) := by
  have hgo : exP F t gen s = (exsM F t.kids gen) s := by unfold exP; rw [hkind, hkids]; simp
  rw [hgo]
  have hlen : t.kids.length = 3 := by rw [hkids]; rfl
  obtain ⟨A, cap, rfl, hcl, hcm, hA⟩ := hk.slice
  obtain ⟨b, off, rfl, hbB⟩ := hA (by omega)
  rw [hlen] at hk hcl ⊢
  clear hA
  rw [hkind]
  have hWV : Below w.heap.size w (w.alloc (.cells #[.int .i64 20, .int .i64 t.at_, .string t.name, .int .u64 t.num, .string t.op, .slice (some ⟨b, off, none⟩) 3 cap] 31)) := below_alloc (Below.refl _ _)
  have hRV : RW (w.alloc (.cells #[.int .i64 20, .int .i64 t.at_, .string t.name, .int .u64 t.num, .string t.op, .slice (some ⟨b, off, none⟩) 3 cap] 31)) B pt mu mv nv s := hr.fr hWV
  have HFV := Lib.hid (show Fr (SR mu mv) w (w.alloc (.cells #[.int .i64 20, .int .i64 t.at_, .string t.name, .int .u64 t.num, .string t.op, .slice (some ⟨b, off, none⟩) 3 cap] 31)) from Fr.of_below hWV)
  have hb8 : Blk (w.alloc (.cells #[.int .i64 20, .int .i64 t.at_, .string t.name, .int .u64 t.num, .string t.op, .slice (some ⟨b, off, none⟩) 3 cap] 31)) w.heap.size 31 #[.int .i64 20, .int .i64 t.at_, .string t.name, .int .u64 t.num, .string t.op, .slice (some ⟨b, off, none⟩) 3 cap] := Blk.new _ _ _
  have hpl := hr.blk.lt
  have hbw : b < w.heap.size := Nat.lt_of_lt_of_le hbB hr.size
  have hn1 : w.heap.size ≠ b := by omega
  have hn2 : w.heap.size ≠ pt := by omega
  have N8 := Fr.not_sr hRV hb8
  have NP := Fr.not_sr hRV hRV.blk
  obtain ⟨cpu, cpv⟩ := hr.cells
  have hi0 : t.kids[0]? = some ka := by rw [hkids]; rfl
  have hd0 := Tr.fitsD_kid hd (List.mem_of_getElem? hi0)
  obtain ⟨_, hw0, kv0, hn0, hs0⟩ := hk.kid hi0
  obtain ⟨Aka, capka, rfl, _, _, _⟩ := hs0.slice
  obtain ⟨d00, d01, d02, d03, d04, d05⟩ := kid_cells hn0 (off) (by omega)
  have hi1 : t.kids[1]? = some kb := by rw [hkids]; rfl
  have hd1 := Tr.fitsD_kid hd (List.mem_of_getElem? hi1)
  obtain ⟨_, hw1, kv1, hn1, hs1⟩ := hk.kid hi1
  obtain ⟨Akb, capkb, rfl, _, _, _⟩ := hs1.slice
  obtain ⟨d10, d11, d12, d13, d14, d15⟩ := kid_cells hn1 (off + 6) (by omega)
  have hi2 : t.kids[2]? = some kc := by rw [hkids]; rfl
  have hd2 := Tr.fitsD_kid hd (List.mem_of_getElem? hi2)
  obtain ⟨_, hw2, kv2, hn2, hs2⟩ := hk.kid hi2
  obtain ⟨Akc, capkc, rfl, _, _, _⟩ := hs2.slice
  obtain ⟨d20, d21, d22, d23, d24, d25⟩ := kid_cells hn2 (off + 12) (by omega)
  have KX := Lib.hid (fun w' (f : Fr (SR mu mv) (w.alloc (.cells #[.int .i64 20, .int .i64 t.at_, .string t.name, .int .u64 t.num, .string t.op, .slice (some ⟨b, off, none⟩) 3 cap] 31)) w') => show w'.cell? ⟨w.heap.size, 0, none⟩ = some (.int .i64 20) ∧ w'.cell? ⟨w.heap.size, 1, none⟩ = some (.int .i64 t.at_) ∧ w'.cell? ⟨w.heap.size, 2, none⟩ = some (.string t.name) ∧ w'.cell? ⟨w.heap.size, 3, none⟩ = some (.int .u64 t.num) ∧ w'.cell? ⟨w.heap.size, 4, none⟩ = some (.string t.op) ∧ w'.cell? ⟨w.heap.size, 5, none⟩ = some (.slice (some ⟨b, off, none⟩) 3 cap) ∧ w'.cell? ⟨pt, 0, none⟩ = some (.map (some mu)) ∧ w'.cell? ⟨pt, 1, none⟩ = some (.map (some mv)) ∧ w'.cell? ⟨b, off, none⟩ = some (.int .i64 ka.kind) ∧ w'.cell? ⟨b, off + 1, none⟩ = some (.int .i64 ka.at_) ∧ w'.cell? ⟨b, off + 2, none⟩ = some (.string ka.name) ∧ w'.cell? ⟨b, off + 3, none⟩ = some (.int .u64 ka.num) ∧ w'.cell? ⟨b, off + 4, none⟩ = some (.string ka.op) ∧ w'.cell? ⟨b, off + 5, none⟩ = some (.slice Aka ka.kids.length capka) ∧ w'.cell? ⟨b, off + 6, none⟩ = some (.int .i64 kb.kind) ∧ w'.cell? ⟨b, off + 7, none⟩ = some (.int .i64 kb.at_) ∧ w'.cell? ⟨b, off + 8, none⟩ = some (.string kb.name) ∧ w'.cell? ⟨b, off + 9, none⟩ = some (.int .u64 kb.num) ∧ w'.cell? ⟨b, off + 10, none⟩ = some (.string kb.op) ∧ w'.cell? ⟨b, off + 11, none⟩ = some (.slice Akb kb.kids.length capkb) ∧ w'.cell? ⟨b, off + 12, none⟩ = some (.int .i64 kc.kind) ∧ w'.cell? ⟨b, off + 13, none⟩ = some (.int .i64 kc.at_) ∧ w'.cell? ⟨b, off + 14, none⟩ = some (.string kc.name) ∧ w'.cell? ⟨b, off + 15, none⟩ = some (.int .u64 kc.num) ∧ w'.cell? ⟨b, off + 16, none⟩ = some (.string kc.op) ∧ w'.cell? ⟨b, off + 17, none⟩ = some (.slice Akc kc.kids.length capkc) from ⟨f.cell hb8 N8 0 rfl, f.cell hb8 N8 1 rfl, f.cell hb8 N8 2 rfl, f.cell hb8 N8 3 rfl, f.cell hb8 N8 4 rfl, f.cell hb8 N8 5 rfl, f.cell hRV.blk NP 0 rfl, f.cell hRV.blk NP 1 rfl, ((Fr.root hRV f).cell (p := ⟨b, off, none⟩) hbB).trans (((hWV.mono hr.size).cell (p := ⟨b, off, none⟩) hbB).trans d00), ((Fr.root hRV f).cell (p := ⟨b, off + 1, none⟩) hbB).trans (((hWV.mono hr.size).cell (p := ⟨b, off + 1, none⟩) hbB).trans d01), ((Fr.root hRV f).cell (p := ⟨b, off + 2, none⟩) hbB).trans (((hWV.mono hr.size).cell (p := ⟨b, off + 2, none⟩) hbB).trans d02), ((Fr.root hRV f).cell (p := ⟨b, off + 3, none⟩) hbB).trans (((hWV.mono hr.size).cell (p := ⟨b, off + 3, none⟩) hbB).trans d03), ((Fr.root hRV f).cell (p := ⟨b, off + 4, none⟩) hbB).trans (((hWV.mono hr.size).cell (p := ⟨b, off + 4, none⟩) hbB).trans d04), ((Fr.root hRV f).cell (p := ⟨b, off + 5, none⟩) hbB).trans (((hWV.mono hr.size).cell (p := ⟨b, off + 5, none⟩) hbB).trans d05), ((Fr.root hRV f).cell (p := ⟨b, off + 6, none⟩) hbB).trans (((hWV.mono hr.size).cell (p := ⟨b, off + 6, none⟩) hbB).trans d10), ((Fr.root hRV f).cell (p := ⟨b, off + 7, none⟩) hbB).trans (((hWV.mono hr.size).cell (p := ⟨b, off + 7, none⟩) hbB).trans d11), ((Fr.root hRV f).cell (p := ⟨b, off + 8, none⟩) hbB).trans (((hWV.mono hr.size).cell (p := ⟨b, off + 8, none⟩) hbB).trans d12), ((Fr.root hRV f).cell (p := ⟨b, off + 9, none⟩) hbB).trans (((hWV.mono hr.size).cell (p := ⟨b, off + 9, none⟩) hbB).trans d13), ((Fr.root hRV f).cell (p := ⟨b, off + 10, none⟩) hbB).trans (((hWV.mono hr.size).cell (p := ⟨b, off + 10, none⟩) hbB).trans d14), ((Fr.root hRV f).cell (p := ⟨b, off + 11, none⟩) hbB).trans (((hWV.mono hr.size).cell (p := ⟨b, off + 11, none⟩) hbB).trans d15), ((Fr.root hRV f).cell (p := ⟨b, off + 12, none⟩) hbB).trans (((hWV.mono hr.size).cell (p := ⟨b, off + 12, none⟩) hbB).trans d20), ((Fr.root hRV f).cell (p := ⟨b, off + 13, none⟩) hbB).trans (((hWV.mono hr.size).cell (p := ⟨b, off + 13, none⟩) hbB).trans d21), ((Fr.root hRV f).cell (p := ⟨b, off + 14, none⟩) hbB).trans (((hWV.mono hr.size).cell (p := ⟨b, off + 14, none⟩) hbB).trans d22), ((Fr.root hRV f).cell (p := ⟨b, off + 15, none⟩) hbB).trans (((hWV.mono hr.size).cell (p := ⟨b, off + 15, none⟩) hbB).trans d23), ((Fr.root hRV f).cell (p := ⟨b, off + 16, none⟩) hbB).trans (((hWV.mono hr.size).cell (p := ⟨b, off + 16, none⟩) hbB).trans d24), ((Fr.root hRV f).cell (p := ⟨b, off + 17, none⟩) hbB).trans (((hWV.mono hr.size).cell (p := ⟨b, off + 17, none⟩) hbB).trans d25)⟩)
  have R0 := Lib.hid (And.intro hRV (Fr.refl (SR mu mv) (w.alloc (.cells #[.int .i64 20, .int .i64 t.at_, .string t.name, .int .u64 t.num, .string t.op, .slice (some ⟨b, off, none⟩) 3 cap] 31))))
  have C1 := Lib.hid (fun W s1 (f : Fr (SR mu mv) (w.alloc (.cells #[.int .i64 20, .int .i64 t.at_, .string t.name, .int .u64 t.num, .string t.op, .slice (some ⟨b, off, none⟩) 3 cap] 31)) W) (r : RW W B pt mu mv nv s1) => show Calls Tryd.prog 55 #[.pointer (some ⟨pt, 0, none⟩), .slice (some ⟨b, off, none⟩) 3 cap, .bool gen] W (fun e w' => e = .returned (.bool ((exsM F t.kids gen) s1).1) ∧ RW w' B pt mu mv nv ((exsM F t.kids gen) s1).2 ∧ Fr (SR mu mv) (w.alloc (.cells #[.int .i64 20, .int .i64 t.at_, .string t.name, .int .u64 t.num, .string t.op, .slice (some ⟨b, off, none⟩) 3 cap] 31)) w') from (all_calls' G W B pt mu mv nv s1 t.kids _ cap gen 3 hlen r (fun k hk => Tr.fitsD_kid hd hk) (f.to hRV (hk.under (hWV.mono hr.size)))).mono fun e w' ⟨h1, h2, h3⟩ => ⟨h1, h2, f.tr h3⟩)
  unfold RP
  clear hgo hr hd hk hWV hb8 N8 NP hRV
  cases h1 : ((exsM F t.kids gen) s).1
  · have HE := Lib.hid (show (exsM F t.kids gen) s = (false, ((exsM F t.kids gen) s).2) from by exact Prod.ext h1 rfl)
    have D1 := Lib.hid (fun W f r => C1.out W s f r)
    rw [h1] at D1
    rw [HE.out]
    clear C1
    clear hkind hkids hlen  hwf h1
    go_enter Tryd.func36, Tryd.ntmps36
    go_wp2_with (first | (go_at_call 55; (with_reducible refine (D1.out _ R0.out.2 R0.out.1).mono ?_); rintro e v1 ⟨rfl, g1, g2⟩; have R1 := Lib.hid (And.intro g1 g2); obtain ⟨x1_0, x1_1, x1_2, x1_3, x1_4, x1_5, x1_6, x1_7, x1_8, x1_9, x1_10, x1_11, x1_12, x1_13, x1_14, x1_15, x1_16, x1_17, x1_18, x1_19, x1_20, x1_21, x1_22, x1_23, x1_24, x1_25⟩ := KX.out _ g2; clear g1 g2))
    go_ret
    exact ⟨rfl, R1.out.1, HFV.out.tr R1.out.2⟩
  · have HE := Lib.hid (show (exsM F t.kids gen) s = (true, ((exsM F t.kids gen) s).2) from by exact Prod.ext h1 rfl)
    have D1 := Lib.hid (fun W f r => C1.out W s f r)
    rw [h1] at D1
    rw [HE.out]
    clear C1
    clear hkind hkids hlen  hwf h1
    go_enter Tryd.func36, Tryd.ntmps36
    go_wp2_with (first | (go_at_call 55; (with_reducible refine (D1.out _ R0.out.2 R0.out.1).mono ?_); rintro e v1 ⟨rfl, g1, g2⟩; have R1 := Lib.hid (And.intro g1 g2); obtain ⟨x1_0, x1_1, x1_2, x1_3, x1_4, x1_5, x1_6, x1_7, x1_8, x1_9, x1_10, x1_11, x1_12, x1_13, x1_14, x1_15, x1_16, x1_17, x1_18, x1_19, x1_20, x1_21, x1_22, x1_23, x1_24, x1_25⟩ := KX.out _ g2; clear g1 g2))
    go_ret
    exact ⟨rfl, R1.out.1, HFV.out.tr R1.out.2⟩
set_option maxRecDepth 100000 in
set_option maxHeartbeats 8000000 in
theorem ex16n {F : RF} {n : Nat} (G : GoodR F n) (w : World) (B pt mu mv : Nat) (nv : Value) (s : Pl) (t : Tr) (kv : Value) (gen : Bool) (hr : RW w B pt mu mv nv s) (hd : t.fitsD (n + 1) = true) (hwf : t.wf1) (hk : KidsAt w B kv t.kids) {ka : Tr} (hkind : t.kind = 16) (hkids : t.kids = [ka]) (hsg : sg t.op wUnary = false) :
    Calls Tryd.prog 36 #[.pointer (some ⟨pt, 0, none⟩), .agg #[.int .i64 t.kind, .int .i64 t.at_, .string t.name, .int .u64 t.num, .string t.op, kv], .bool gen] w (RP w B pt mu mv nv (exP F t gen s)) := by
  have hgo : exP F t gen s = (okM false) s := by unfold exP; rw [hkind, hkids]; simp [hsg]
  rw [hgo]
  have hlen : t.kids.length = 1 := by rw [hkids]; rfl
  obtain ⟨A, cap, rfl, hcl, hcm, hA⟩ := hk.slice
  obtain ⟨b, off, rfl, hbB⟩ := hA (by omega)
  rw [hlen] at hk hcl ⊢
  clear hA
  rw [hkind]
  have hWV : Below w.heap.size w (w.alloc (.cells #[.int .i64 16, .int .i64 t.at_, .string t.name, .int .u64 t.num, .string t.op, .slice (some ⟨b, off, none⟩) 1 cap] 31)) := below_alloc (Below.refl _ _)
  have hRV : RW (w.alloc (.cells #[.int .i64 16, .int .i64 t.at_, .string t.name, .int .u64 t.num, .string t.op, .slice (some ⟨b, off, none⟩) 1 cap] 31)) B pt mu mv nv s := hr.fr hWV
  have HFV := Lib.hid (show Fr (SR mu mv) w (w.alloc (.cells #[.int .i64 16, .int .i64 t.at_, .string t.name, .int .u64 t.num, .string t.op, .slice (some ⟨b, off, none⟩) 1 cap] 31)) from Fr.of_below hWV)
  have hb8 : Blk (w.alloc (.cells #[.int .i64 16, .int .i64 t.at_, .string t.name, .int .u64 t.num, .string t.op, .slice (some ⟨b, off, none⟩) 1 cap] 31)) w.heap.size 31 #[.int .i64 16, .int .i64 t.at_, .string t.name, .int .u64 t.num, .string t.op, .slice (some ⟨b, off, none⟩) 1 cap] := Blk.new _ _ _
  have hpl := hr.blk.lt
  have hbw : b < w.heap.size := Nat.lt_of_lt_of_le hbB hr.size
  have hn1 : w.heap.size ≠ b := by omega
  have hn2 : w.heap.size ≠ pt := by omega
  have N8 := Fr.not_sr hRV hb8
  have NP := Fr.not_sr hRV hRV.blk
  obtain ⟨cpu, cpv⟩ := hr.cells
  have hi0 : t.kids[0]? = some ka := by rw [hkids]; rfl
  have hd0 := Tr.fitsD_kid hd (List.mem_of_getElem? hi0)
  obtain ⟨_, hw0, kv0, hn0, hs0⟩ := hk.kid hi0
  obtain ⟨Aka, capka, rfl, _, _, _⟩ := hs0.slice
  obtain ⟨d00, d01, d02, d03, d04, d05⟩ := kid_cells hn0 (off) (by omega)
  have KX := Lib.hid (fun w' (f : Fr (SR mu mv) (w.alloc (.cells #[.int .i64 16, .int .i64 t.at_, .string t.name, .int .u64 t.num, .string t.op, .slice (some ⟨b, off, none⟩) 1 cap] 31)) w') => show w'.cell? ⟨w.heap.size, 0, none⟩ = some (.int .i64 16) ∧ w'.cell? ⟨w.heap.size, 1, none⟩ = some (.int .i64 t.at_) ∧ w'.cell? ⟨w.heap.size, 2, none⟩ = some (.string t.name) ∧ w'.cell? ⟨w.heap.size, 3, none⟩ = some (.int .u64 t.num) ∧ w'.cell? ⟨w.heap.size, 4, none⟩ = some (.string t.op) ∧ w'.cell? ⟨w.heap.size, 5, none⟩ = some (.slice (some ⟨b, off, none⟩) 1 cap) ∧ w'.cell? ⟨pt, 0, none⟩ = some (.map (some mu)) ∧ w'.cell? ⟨pt, 1, none⟩ = some (.map (some mv)) ∧ w'.cell? ⟨b, off, none⟩ = some (.int .i64 ka.kind) ∧ w'.cell? ⟨b, off + 1, none⟩ = some (.int .i64 ka.at_) ∧ w'.cell? ⟨b, off + 2, none⟩ = some (.string ka.name) ∧ w'.cell? ⟨b, off + 3, none⟩ = some (.int .u64 ka.num) ∧ w'.cell? ⟨b, off + 4, none⟩ = some (.string ka.op) ∧ w'.cell? ⟨b, off + 5, none⟩ = some (.slice Aka ka.kids.length capka) from ⟨f.cell hb8 N8 0 rfl, f.cell hb8 N8 1 rfl, f.cell hb8 N8 2 rfl, f.cell hb8 N8 3 rfl, f.cell hb8 N8 4 rfl, f.cell hb8 N8 5 rfl, f.cell hRV.blk NP 0 rfl, f.cell hRV.blk NP 1 rfl, ((Fr.root hRV f).cell (p := ⟨b, off, none⟩) hbB).trans (((hWV.mono hr.size).cell (p := ⟨b, off, none⟩) hbB).trans d00), ((Fr.root hRV f).cell (p := ⟨b, off + 1, none⟩) hbB).trans (((hWV.mono hr.size).cell (p := ⟨b, off + 1, none⟩) hbB).trans d01), ((Fr.root hRV f).cell (p := ⟨b, off + 2, none⟩) hbB).trans (((hWV.mono hr.size).cell (p := ⟨b, off + 2, none⟩) hbB).trans d02), ((Fr.root hRV f).cell (p := ⟨b, off + 3, none⟩) hbB).trans (((hWV.mono hr.size).cell (p := ⟨b, off + 3, none⟩) hbB).trans d03), ((Fr.root hRV f).cell (p := ⟨b, off + 4, none⟩) hbB).trans (((hWV.mono hr.size).cell (p := ⟨b, off + 4, none⟩) hbB).trans d04), ((Fr.root hRV f).cell (p := ⟨b, off + 5, none⟩) hbB).trans (((hWV.mono hr.size).cell (p := ⟨b, off + 5, none⟩) hbB).trans d05)⟩)
  have R0 := Lib.hid (And.intro hRV (Fr.refl (SR mu mv) (w.alloc (.cells #[.int .i64 16, .int .i64 t.at_, .string t.name, .int .u64 t.num, .string t.op, .slice (some ⟨b, off, none⟩) 1 cap] 31))))
  have C1 := Lib.hid (fun (W : World) (ht : Lib.TabIs Tryd.prog W "strings.asciiSpace" .u8 Lib.asciiSpaceTab) => show Calls Tryd.prog 56 #[.string t.op, .string ⟨#[100, 101, 108, 101, 116, 101, 32, 118, 111, 105, 100, 32, 116, 121, 112, 101, 111, 102, 32, 43, 32, 45, 32, 126, 32, 33]⟩] W (fun e w' => e = .returned (.bool (sg t.op wUnary)) ∧ Below W.heap.size W w') from signs_calls W t.op wUnary ht (by decide) (ascii_of (by decide +kernel)) (by decide +kernel))
  unfold RP
  clear hgo hr hd hk hWV hb8 N8 NP hRV
  have HE := Lib.hid (show (okM false) s = (false, s) from rfl)
  have D1 := Lib.hid (fun W ht => C1.out W ht)
  rw [hsg] at D1
  rw [HE.out]
  clear C1
  clear hkind hkids hlen hsg hwf
  go_enter Tryd.func36, Tryd.ntmps36
  go_wp2_with (first | (go_at_call 56; (with_reducible refine (D1.out _ R0.out.1.tab.here).mono ?_); rintro e v1 ⟨rfl, bm⟩; have R1 := Lib.hid (And.intro (R0.out.1.fr bm) (R0.out.2.tr (Fr.of_below bm))); obtain ⟨x1_0, x1_1, x1_2, x1_3, x1_4, x1_5, x1_6, x1_7, x1_8, x1_9, x1_10, x1_11, x1_12, x1_13⟩ := KX.out _ R1.out.2; clear bm))
  go_ret
  exact ⟨rfl, R1.out.1, HFV.out.tr R1.out.2⟩
set_option maxRecDepth 100000 in
set_option maxHeartbeats 8000000 in
theorem ex16 {F : RF} {n : Nat} (G : GoodR F n) (w : World) (B pt mu mv : Nat) (nv : Value) (s : Pl) (t : Tr) (kv : Value) (gen : Bool) (hr : RW w B pt mu mv nv s) (hd : t.fitsD (n + 1) = true) (hwf : t.wf1) (hk : KidsAt w B kv t.kids) {ka : Tr} (hkind : t.kind = 16) (hkids : t.kids = [ka]) (hsg : sg t.op wUnary = true) :
    Calls Tryd.prog 36 #[.pointer (some ⟨pt, 0, none⟩), .agg #[.int .i64 t.kind, .int .i64 t.at_, .string t.name, .int .u64 t.num, .string t.op, kv], .bool gen] w (RP w B pt mu mv nv (exP F t gen s)) := by
  have hgo : exP F t gen s = (exsM F t.kids gen) s := by unfold exP; rw [hkind, hkids]; simp [hsg]
  rw [hgo]
  have hlen : t.kids.length = 1 := by rw [hkids]; rfl
  obtain ⟨A, cap, rfl, hcl, hcm, hA⟩ := hk.slice
  obtain ⟨b, off, rfl, hbB⟩ := hA (by omega)
  rw [hlen] at hk hcl ⊢
  clear hA
  rw [hkind]
  have hWV : Below w.heap.size w (w.alloc (.cells #[.int .i64 16, .int .i64 t.at_, .string t.name, .int .u64 t.num, .string t.op, .slice (some ⟨b, off, none⟩) 1 cap] 31)) := below_alloc (Below.refl _ _)
  have hRV : RW (w.alloc (.cells #[.int .i64 16, .int .i64 t.at_, .string t.name, .int .u64 t.num, .string t.op, .slice (some ⟨b, off, none⟩) 1 cap] 31)) B pt mu mv nv s := hr.fr hWV
  have HFV := Lib.hid (show Fr (SR mu mv) w (w.alloc (.cells #[.int .i64 16, .int .i64 t.at_, .string t.name, .int .u64 t.num, .string t.op, .slice (some ⟨b, off, none⟩) 1 cap] 31)) from Fr.of_below hWV)
  have hb8 : Blk (w.alloc (.cells #[.int .i64 16, .int .i64 t.at_, .string t.name, .int .u64 t.num, .string t.op, .slice (some ⟨b, off, none⟩) 1 cap] 31)) w.heap.size 31 #[.int .i64 16, .int .i64 t.at_, .string t.name, .int .u64 t.num, .string t.op, .slice (some ⟨b, off, none⟩) 1 cap] := Blk.new _ _ _
  have hpl := hr.blk.lt
  have hbw : b < w.heap.size := Nat.lt_of_lt_of_le hbB hr.size
  have hn1 : w.heap.size ≠ b := by omega
  have hn2 : w.heap.size ≠ pt := by omega
  have N8 := Fr.not_sr hRV hb8
  have NP := Fr.not_sr hRV hRV.blk
  obtain ⟨cpu, cpv⟩ := hr.cells
  have hi0 : t.kids[0]? = some ka := by rw [hkids]; rfl
  have hd0 := Tr.fitsD_kid hd (List.mem_of_getElem? hi0)
  obtain ⟨_, hw0, kv0, hn0, hs0⟩ := hk.kid hi0
  obtain ⟨Aka, capka, rfl, _, _, _⟩ := hs0.slice
  obtain ⟨d00, d01, d02, d03, d04, d05⟩ := kid_cells hn0 (off) (by omega)
  have KX := Lib.hid (fun w' (f : Fr (SR mu mv) (w.alloc (.cells #[.int .i64 16, .int .i64 t.at_, .string t.name, .int .u64 t.num, .string t.op, .slice (some ⟨b, off, none⟩) 1 cap] 31)) w') => show w'.cell? ⟨w.heap.size, 0, none⟩ = some (.int .i64 16) ∧ w'.cell? ⟨w.heap.size, 1, none⟩ = some (.int .i64 t.at_) ∧ w'.cell? ⟨w.heap.size, 2, none⟩ = some (.string t.name) ∧ w'.cell? ⟨w.heap.size, 3, none⟩ = some (.int .u64 t.num) ∧ w'.cell? ⟨w.heap.size, 4, none⟩ = some (.string t.op) ∧ w'.cell? ⟨w.heap.size, 5, none⟩ = some (.slice (some ⟨b, off, none⟩) 1 cap) ∧ w'.cell? ⟨pt, 0, none⟩ = some (.map (some mu)) ∧ w'.cell? ⟨pt, 1, none⟩ = some (.map (some mv)) ∧ w'.cell? ⟨b, off, none⟩ = some (.int .i64 ka.kind) ∧ w'.cell? ⟨b, off + 1, none⟩ = some (.int .i64 ka.at_) ∧ w'.cell? ⟨b, off + 2, none⟩ = some (.string ka.name) ∧ w'.cell? ⟨b, off + 3, none⟩ = some (.int .u64 ka.num) ∧ w'.cell? ⟨b, off + 4, none⟩ = some (.string ka.op) ∧ w'.cell? ⟨b, off + 5, none⟩ = some (.slice Aka ka.kids.length capka) from ⟨f.cell hb8 N8 0 rfl, f.cell hb8 N8 1 rfl, f.cell hb8 N8 2 rfl, f.cell hb8 N8 3 rfl, f.cell hb8 N8 4 rfl, f.cell hb8 N8 5 rfl, f.cell hRV.blk NP 0 rfl, f.cell hRV.blk NP 1 rfl, ((Fr.root hRV f).cell (p := ⟨b, off, none⟩) hbB).trans (((hWV.mono hr.size).cell (p := ⟨b, off, none⟩) hbB).trans d00), ((Fr.root hRV f).cell (p := ⟨b, off + 1, none⟩) hbB).trans (((hWV.mono hr.size).cell (p := ⟨b, off + 1, none⟩) hbB).trans d01), ((Fr.root hRV f).cell (p := ⟨b, off + 2, none⟩) hbB).trans (((hWV.mono hr.size).cell (p := ⟨b, off + 2, none⟩) hbB).trans d02), ((Fr.root hRV f).cell (p := ⟨b, off + 3, none⟩) hbB).trans (((hWV.mono hr.size).cell (p := ⟨b, off + 3, none⟩) hbB).trans d03), ((Fr.root hRV f).cell (p := ⟨b, off + 4, none⟩) hbB).trans (((hWV.mono hr.size).cell (p := ⟨b, off + 4, none⟩) hbB).trans d04), ((Fr.root hRV f).cell (p := ⟨b, off + 5, none⟩) hbB).trans (((hWV.mono hr.size).cell (p := ⟨b, off + 5, none⟩) hbB).trans d05)⟩)
  have R0 := Lib.hid (And.intro hRV (Fr.refl (SR mu mv) (w.alloc (.cells #[.int .i64 16, .int .i64 t.at_, .string t.name, .int .u64 t.num, .string t.op, .slice (some ⟨b, off, none⟩) 1 cap] 31))))
  have C1 := Lib.hid (fun (W : World) (ht : Lib.TabIs Tryd.prog W "strings.asciiSpace" .u8 Lib.asciiSpaceTab) => show Calls Tryd.prog 56 #[.string t.op, .string ⟨#[100, 101, 108, 101, 116, 101, 32, 118, 111, 105, 100, 32, 116, 121, 112, 101, 111, 102, 32, 43, 32, 45, 32, 126, 32, 33]⟩] W (fun e w' => e = .returned (.bool (sg t.op wUnary)) ∧ Below W.heap.size W w') from signs_calls W t.op wUnary ht (by decide) (ascii_of (by decide +kernel)) (by decide +kernel))
  have C2 := Lib.hid (fun W s1 (f : Fr (SR mu mv) (w.alloc (.cells #[.int .i64 16, .int .i64 t.at_, .string t.name, .int .u64 t.num, .string t.op, .slice (some ⟨b, off, none⟩) 1 cap] 31)) W) (r : RW W B pt mu mv nv s1) => show Calls Tryd.prog 55 #[.pointer (some ⟨pt, 0, none⟩), .slice (some ⟨b, off, none⟩) 1 cap, .bool gen] W (fun e w' => e = .returned (.bool ((exsM F t.kids gen) s1).1) ∧ RW w' B pt mu mv nv ((exsM F t.kids gen) s1).2 ∧ Fr (SR mu mv) (w.alloc (.cells #[.int .i64 16, .int .i64 t.at_, .string t.name, .int .u64 t.num, .string t.op, .slice (some ⟨b, off, none⟩) 1 cap] 31)) w') from (all_calls' G W B pt mu mv nv s1 t.kids _ cap gen 1 hlen r (fun k hk => Tr.fitsD_kid hd hk) (f.to hRV (hk.under (hWV.mono hr.size)))).mono fun e w' ⟨h1, h2, h3⟩ => ⟨h1, h2, f.tr h3⟩)
  unfold RP
  clear hgo hr hd hk hWV hb8 N8 NP hRV
  cases h1 : ((exsM F t.kids gen) s).1
  · have HE := Lib.hid (show (exsM F t.kids gen) s = (false, ((exsM F t.kids gen) s).2) from by exact Prod.ext h1 rfl)
    have D1 := Lib.hid (fun W ht => C1.out W ht)
    rw [hsg] at D1
    have D2 := Lib.hid (fun W f r => C2.out W s f r)
    rw [h1] at D2
    rw [HE.out]
    clear C1 C2
    clear hkind hkids hlen hsg hwf h1
    go_enter Tryd.func36, Tryd.ntmps36
    go_wp2_with (first | (go_at_call 56; (with_reducible refine (D1.out _ R0.out.1.tab.here).mono ?_); rintro e v1 ⟨rfl, bm⟩; have R1 := Lib.hid (And.intro (R0.out.1.fr bm) (R0.out.2.tr (Fr.of_below bm))); obtain ⟨x1_0, x1_1, x1_2, x1_3, x1_4, x1_5, x1_6, x1_7, x1_8, x1_9, x1_10, x1_11, x1_12, x1_13⟩ := KX.out _ R1.out.2; clear bm) | (go_at_call 55; (with_reducible refine (D2.out _ R1.out.2 R1.out.1).mono ?_); rintro e v2 ⟨rfl, g1, g2⟩; have R2 := Lib.hid (And.intro g1 g2); obtain ⟨x2_0, x2_1, x2_2, x2_3, x2_4, x2_5, x2_6, x2_7, x2_8, x2_9, x2_10, x2_11, x2_12, x2_13⟩ := KX.out _ g2; clear g1 g2))
    go_ret
    exact ⟨rfl, R2.out.1, HFV.out.tr R2.out.2⟩
  · have HE := Lib.hid (show (exsM F t.kids gen) s = (true, ((exsM F t.kids gen) s).2) from by exact Prod.ext h1 rfl)
    have D1 := Lib.hid (fun W ht => C1.out W ht)
    rw [hsg] at D1
    have D2 := Lib.hid (fun W f r => C2.out W s f r)
    rw [h1] at D2
    rw [HE.out]
    clear C1 C2
    clear hkind hkids hlen hsg hwf h1
    go_enter Tryd.func36, Tryd.ntmps36
    go_wp2_with (first | (go_at_call 56; (with_reducible refine (D1.out _ R0.out.1.tab.here).mono ?_); rintro e v1 ⟨rfl, bm⟩; have R1 := Lib.hid (And.intro (R0.out.1.fr bm) (R0.out.2.tr (Fr.of_below bm))); obtain ⟨x1_0, x1_1, x1_2, x1_3, x1_4, x1_5, x1_6, x1_7, x1_8, x1_9, x1_10, x1_11, x1_12, x1_13⟩ := KX.out _ R1.out.2; clear bm) | (go_at_call 55; (with_reducible refine (D2.out _ R1.out.2 R1.out.1).mono ?_); rintro e v2 ⟨rfl, g1, g2⟩; have R2 := Lib.hid (And.intro g1 g2); obtain ⟨x2_0, x2_1, x2_2, x2_3, x2_4, x2_5, x2_6, x2_7, x2_8, x2_9, x2_10, x2_11, x2_12, x2_13⟩ := KX.out _ g2; clear g1 g2))
    go_ret
    exact ⟨rfl, R2.out.1, HFV.out.tr R2.out.2⟩
set_option maxRecDepth 100000 in
set_option maxHeartbeats 8000000 in
theorem ex18n {F : RF} {n : Nat} (G : GoodR F n) (w : World) (B pt mu mv : Nat) (nv : Value) (s : Pl) (t : Tr) (kv : Value) (gen : Bool) (hr : RW w B pt mu mv nv s) (hd : t.fitsD (n + 1) = true) (hwf : t.wf1) (hk : KidsAt w B kv t.kids) {ka : Tr} {kb : Tr} (hkind : t.kind = 18) (hkids : t.kids = [ka, kb]) (hsg : sg t.op wBinary = false) :
    Calls Tryd.prog 36 #[.pointer (some ⟨pt, 0, none⟩), .agg #[.int .i64 t.kind, .int .i64 t.at_, .string t.name, .int .u64 t.num, .string t.op, kv], .bool gen] w (RP w B pt mu mv nv (exP F t gen s)) := by
  have hgo : exP F t gen s = (okM false) s := by unfold exP; rw [hkind, hkids]; simp [hsg]
  rw [hgo]
  have hlen : t.kids.length = 2 := by rw [hkids]; rfl
  obtain ⟨A, cap, rfl, hcl, hcm, hA⟩ := hk.slice
  obtain ⟨b, off, rfl, hbB⟩ := hA (by omega)
  rw [hlen] at hk hcl ⊢
  clear hA
  rw [hkind]
  have hWV : Below w.heap.size w (w.alloc (.cells #[.int .i64 18, .int .i64 t.at_, .string t.name, .int .u64 t.num, .string t.op, .slice (some ⟨b, off, none⟩) 2 cap] 31)) := below_alloc (Below.refl _ _)
  have hRV : RW (w.alloc (.cells #[.int .i64 18, .int .i64 t.at_, .string t.name, .int .u64 t.num, .string t.op, .slice (some ⟨b, off, none⟩) 2 cap] 31)) B pt mu mv nv s := hr.fr hWV
  have HFV := Lib.hid (show Fr (SR mu mv) w (w.alloc (.cells #[.int .i64 18, .int .i64 t.at_, .string t.name, .int .u64 t.num, .string t.op, .slice (some ⟨b, off, none⟩) 2 cap] 31)) from Fr.of_below hWV)
  have hb8 : Blk (w.alloc (.cells #[.int .i64 18, .int .i64 t.at_, .string t.name, .int .u64 t.num, .string t.op, .slice (some ⟨b, off, none⟩) 2 cap] 31)) w.heap.size 31 #[.int .i64 18, .int .i64 t.at_, .string t.name, .int .u64 t.num, .string t.op, .slice (some ⟨b, off, none⟩) 2 cap] := Blk.new _ _ _
  have hpl := hr.blk.lt
  have hbw : b < w.heap.size := Nat.lt_of_lt_of_le hbB hr.size
  have hn1 : w.heap.size ≠ b := by omega
  have hn2 : w.heap.size ≠ pt := by omega
  have N8 := Fr.not_sr hRV hb8
  have NP := Fr.not_sr hRV hRV.blk
  obtain ⟨cpu, cpv⟩ := hr.cells
  have hi0 : t.kids[0]? = some ka := by rw [hkids]; rfl
  have hd0 := Tr.fitsD_kid hd (List.mem_of_getElem? hi0)
  obtain ⟨_, hw0, kv0, hn0, hs0⟩ := hk.kid hi0
  obtain ⟨Aka, capka, rfl, _, _, _⟩ := hs0.slice
  obtain ⟨d00, d01, d02, d03, d04, d05⟩ := kid_cells hn0 (off) (by omega)
  have hi1 : t.kids[1]? = some kb := by rw [hkids]; rfl
  have hd1 := Tr.fitsD_kid hd (List.mem_of_getElem? hi1)
  obtain ⟨_, hw1, kv1, hn1, hs1⟩ := hk.kid hi1
  obtain ⟨Akb, capkb, rfl, _, _, _⟩ := hs1.slice
  obtain ⟨d10, d11, d12, d13, d14, d15⟩ := kid_cells hn1 (off + 6) (by omega)
  have KX := Lib.hid (fun w' (f : Fr (SR mu mv) (w.alloc (.cells #[.int .i64 18, .int .i64 t.at_, .string t.name, .int .u64 t.num, .string t.op, .slice (some ⟨b, off, none⟩) 2 cap] 31)) w') => show w'.cell? ⟨w.heap.size, 0, none⟩ = some (.int .i64 18) ∧ w'.cell? ⟨w.heap.size, 1, none⟩ = some (.int .i64 t.at_) ∧ w'.cell? ⟨w.heap.size, 2, none⟩ = some (.string t.name) ∧ w'.cell? ⟨w.heap.size, 3, none⟩ = some (.int .u64 t.num) ∧ w'.cell? ⟨w.heap.size, 4, none⟩ = some (.string t.op) ∧ w'.cell? ⟨w.heap.size, 5, none⟩ = some (.slice (some ⟨b, off, none⟩) 2 cap) ∧ w'.cell? ⟨pt, 0, none⟩ = some (.map (some mu)) ∧ w'.cell? ⟨pt, 1, none⟩ = some (.map (some mv)) ∧ w'.cell? ⟨b, off, none⟩ = some (.int .i64 ka.kind) ∧ w'.cell? ⟨b, off + 1, none⟩ = some (.int .i64 ka.at_) ∧ w'.cell? ⟨b, off + 2, none⟩ = some (.string ka.name) ∧ w'.cell? ⟨b, off + 3, none⟩ = some (.int .u64 ka.num) ∧ w'.cell? ⟨b, off + 4, none⟩ = some (.string ka.op) ∧ w'.cell? ⟨b, off + 5, none⟩ = some (.slice Aka ka.kids.length capka) ∧ w'.cell? ⟨b, off + 6, none⟩ = some (.int .i64 kb.kind) ∧ w'.cell? ⟨b, off + 7, none⟩ = some (.int .i64 kb.at_) ∧ w'.cell? ⟨b, off + 8, none⟩ = some (.string kb.name) ∧ w'.cell? ⟨b, off + 9, none⟩ = some (.int .u64 kb.num) ∧ w'.cell? ⟨b, off + 10, none⟩ = some (.string kb.op) ∧ w'.cell? ⟨b, off + 11, none⟩ = some (.slice Akb kb.kids.length capkb) from ⟨f.cell hb8 N8 0 rfl, f.cell hb8 N8 1 rfl, f.cell hb8 N8 2 rfl, f.cell hb8 N8 3 rfl, f.cell hb8 N8 4 rfl, f.cell hb8 N8 5 rfl, f.cell hRV.blk NP 0 rfl, f.cell hRV.blk NP 1 rfl, ((Fr.root hRV f).cell (p := ⟨b, off, none⟩) hbB).trans (((hWV.mono hr.size).cell (p := ⟨b, off, none⟩) hbB).trans d00), ((Fr.root hRV f).cell (p := ⟨b, off + 1, none⟩) hbB).trans (((hWV.mono hr.size).cell (p := ⟨b, off + 1, none⟩) hbB).trans d01), ((Fr.root hRV f).cell (p := ⟨b, off + 2, none⟩) hbB).trans (((hWV.mono hr.size).cell (p := ⟨b, off + 2, none⟩) hbB).trans d02), ((Fr.root hRV f).cell (p := ⟨b, off + 3, none⟩) hbB).trans (((hWV.mono hr.size).cell (p := ⟨b, off + 3, none⟩) hbB).trans d03), ((Fr.root hRV f).cell (p := ⟨b, off + 4, none⟩) hbB).trans (((hWV.mono hr.size).cell (p := ⟨b, off + 4, none⟩) hbB).trans d04), ((Fr.root hRV f).cell (p := ⟨b, off + 5, none⟩) hbB).trans (((hWV.mono hr.size).cell (p := ⟨b, off + 5, none⟩) hbB).trans d05), ((Fr.root hRV f).cell (p := ⟨b, off + 6, none⟩) hbB).trans (((hWV.mono hr.size).cell (p := ⟨b, off + 6, none⟩) hbB).trans d10), ((Fr.root hRV f).cell (p := ⟨b, off + 7, none⟩) hbB).trans (((hWV.mono hr.size).cell (p := ⟨b, off + 7, none⟩) hbB).trans d11), ((Fr.root hRV f).cell (p := ⟨b, off + 8, none⟩) hbB).trans (((hWV.mono hr.size).cell (p := ⟨b, off + 8, none⟩) hbB).trans d12), ((Fr.root hRV f).cell (p := ⟨b, off + 9, none⟩) hbB).trans (((hWV.mono hr.size).cell (p := ⟨b, off + 9, none⟩) hbB).trans d13), ((Fr.root hRV f).cell (p := ⟨b, off + 10, none⟩) hbB).trans (((hWV.mono hr.size).cell (p := ⟨b, off + 10, none⟩) hbB).trans d14), ((Fr.root hRV f).cell (p := ⟨b, off + 11, none⟩) hbB).trans (((hWV.mono hr.size).cell (p := ⟨b, off + 11, none⟩) hbB).trans d15)⟩)
  have R0 := Lib.hid (And.intro hRV (Fr.refl (SR mu mv) (w.alloc (.cells #[.int .i64 18, .int .i64 t.at_, .string t.name, .int .u64 t.num, .string t.op, .slice (some ⟨b, off, none⟩) 2 cap] 31))))
  have C1 := Lib.hid (fun (W : World) (ht : Lib.TabIs Tryd.prog W "strings.asciiSpace" .u8 Lib.asciiSpaceTab) => show Calls Tryd.prog 56 #[.string t.op, .string ⟨#[43, 32, 45, 32, 42, 32, 47, 32, 37, 32, 60, 60, 32, 62, 62, 32, 62, 62, 62, 32, 38, 32, 124, 32, 94, 32, 60, 32, 60, 61, 32, 62, 32, 62, 61, 32, 61, 61, 32, 33, 61, 32, 61, 61, 61, 32, 33, 61, 61, 32, 105, 110, 32, 105, 110, 115, 116, 97, 110, 99, 101, 111, 102]⟩] W (fun e w' => e = .returned (.bool (sg t.op wBinary)) ∧ Below W.heap.size W w') from signs_calls W t.op wBinary ht (by decide) (ascii_of (by decide +kernel)) (by decide +kernel))
  unfold RP
  clear hgo hr hd hk hWV hb8 N8 NP hRV
  have HE := Lib.hid (show (okM false) s = (false, s) from rfl)
  have D1 := Lib.hid (fun W ht => C1.out W ht)
  rw [hsg] at D1
  rw [HE.out]
  clear C1
  clear hkind hkids hlen hsg hwf
  go_enter Tryd.func36, Tryd.ntmps36
  go_wp2_with (first | (go_at_call 56; (with_reducible refine (D1.out _ R0.out.1.tab.here).mono ?_); rintro e v1 ⟨rfl, bm⟩; have R1 := Lib.hid (And.intro (R0.out.1.fr bm) (R0.out.2.tr (Fr.of_below bm))); obtain ⟨x1_0, x1_1, x1_2, x1_3, x1_4, x1_5, x1_6, x1_7, x1_8, x1_9, x1_10, x1_11, x1_12, x1_13, x1_14, x1_15, x1_16, x1_17, x1_18, x1_19⟩ := KX.out _ R1.out.2; clear bm))
  go_ret
  exact ⟨rfl, R1.out.1, HFV.out.tr R1.out.2⟩
set_option maxRecDepth 100000 in
set_option maxHeartbeats 8000000 in
theorem ex18 {F : RF} {n : Nat} (G : GoodR F n) (w : World) (B pt mu mv : Nat) (nv : Value) (s : Pl) (t : Tr) (kv : Value) (gen : Bool) (hr : RW w B pt mu mv nv s) (hd : t.fitsD (n + 1) = true) (hwf : t.wf1) (hk : KidsAt w B kv t.kids) {ka : Tr} {kb : Tr} (hkind : t.kind = 18) (hkids : t.kids = [ka, kb]) (hsg : sg t.op wBinary = true) :
    Calls Tryd.prog 36 #[.pointer (some ⟨pt, 0, none⟩), .agg #[.int .i64 t.kind, .int .i64 t.at_, .string t.name, .int .u64 t.num, .string t.op, kv], .bool gen] w (RP w B pt mu mv nv (exP F t gen s)) := by
  have hgo : exP F t gen s = (exsM F t.kids gen) s := by unfold exP; rw [hkind, hkids]; simp [hsg]
  rw [hgo]
  have hlen : t.kids.length = 2 := by rw [hkids]; rfl
  obtain ⟨A, cap, rfl, hcl, hcm, hA⟩ := hk.slice
  obtain ⟨b, off, rfl, hbB⟩ := hA (by omega)
  rw [hlen] at hk hcl ⊢
  clear hA
  rw [hkind]
  have hWV : Below w.heap.size w (w.alloc (.cells #[.int .i64 18, .int .i64 t.at_, .string t.name, .int .u64 t.num, .string t.op, .slice (some ⟨b, off, none⟩) 2 cap] 31)) := below_alloc (Below.refl _ _)
  have hRV : RW (w.alloc (.cells #[.int .i64 18, .int .i64 t.at_, .string t.name, .int .u64 t.num, .string t.op, .slice (some ⟨b, off, none⟩) 2 cap] 31)) B pt mu mv nv s := hr.fr hWV
  have HFV := Lib.hid (show Fr (SR mu mv) w (w.alloc (.cells #[.int .i64 18, .int .i64 t.at_, .string t.name, .int .u64 t.num, .string t.op, .slice (some ⟨b, off, none⟩) 2 cap] 31)) from Fr.of_below hWV)
  have hb8 : Blk (w.alloc (.cells #[.int .i64 18, .int .i64 t.at_, .string t.name, .int .u64 t.num, .string t.op, .slice (some ⟨b, off, none⟩) 2 cap] 31)) w.heap.size 31 #[.int .i64 18, .int .i64 t.at_, .string t.name, .int .u64 t.num, .string t.op, .slice (some ⟨b, off, none⟩) 2 cap] := Blk.new _ _ _
  have hpl := hr.blk.lt
  have hbw : b < w.heap.size := Nat.lt_of_lt_of_le hbB hr.size
  have hn1 : w.heap.size ≠ b := by omega
  have hn2 : w.heap.size ≠ pt := by omega
  have N8 := Fr.not_sr hRV hb8
  have NP := Fr.not_sr hRV hRV.blk
  obtain ⟨cpu, cpv⟩ := hr.cells
  have hi0 : t.kids[0]? = some ka := by rw [hkids]; rfl
  have hd0 := Tr.fitsD_kid hd (List.mem_of_getElem? hi0)
  obtain ⟨_, hw0, kv0, hn0, hs0⟩ := hk.kid hi0
  obtain ⟨Aka, capka, rfl, _, _, _⟩ := hs0.slice
  obtain ⟨d00, d01, d02, d03, d04, d05⟩ := kid_cells hn0 (off) (by omega)
  have hi1 : t.kids[1]? = some kb := by rw [hkids]; rfl
  have hd1 := Tr.fitsD_kid hd (List.mem_of_getElem? hi1)
  obtain ⟨_, hw1, kv1, hn1, hs1⟩ := hk.kid hi1
  obtain ⟨Akb, capkb, rfl, _, _, _⟩ := hs1.slice
  obtain ⟨d10, d11, d12, d13, d14, d15⟩ := kid_cells hn1 (off + 6) (by omega)
  have KX := Lib.hid (fun w' (f : Fr (SR mu mv) (w.alloc (.cells #[.int .i64 18, .int .i64 t.at_, .string t.name, .int .u64 t.num, .string t.op, .slice (some ⟨b, off, none⟩) 2 cap] 31)) w') => show w'.cell? ⟨w.heap.size, 0, none⟩ = some (.int .i64 18) ∧ w'.cell? ⟨w.heap.size, 1, none⟩ = some (.int .i64 t.at_) ∧ w'.cell? ⟨w.heap.size, 2, none⟩ = some (.string t.name) ∧ w'.cell? ⟨w.heap.size, 3, none⟩ = some (.int .u64 t.num) ∧ w'.cell? ⟨w.heap.size, 4, none⟩ = some (.string t.op) ∧ w'.cell? ⟨w.heap.size, 5, none⟩ = some (.slice (some ⟨b, off, none⟩) 2 cap) ∧ w'.cell? ⟨pt, 0, none⟩ = some (.map (some mu)) ∧ w'.cell? ⟨pt, 1, none⟩ = some (.map (some mv)) ∧ w'.cell? ⟨b, off, none⟩ = some (.int .i64 ka.kind) ∧ w'.cell? ⟨b, off + 1, none⟩ = some (.int .i64 ka.at_) ∧ w'.cell? ⟨b, off + 2, none⟩ = some (.string ka.name) ∧ w'.cell? ⟨b, off + 3, none⟩ = some (.int .u64 ka.num) ∧ w'.cell? ⟨b, off + 4, none⟩ = some (.string ka.op) ∧ w'.cell? ⟨b, off + 5, none⟩ = some (.slice Aka ka.kids.length capka) ∧ w'.cell? ⟨b, off + 6, none⟩ = some (.int .i64 kb.kind) ∧ w'.cell? ⟨b, off + 7, none⟩ = some (.int .i64 kb.at_) ∧ w'.cell? ⟨b, off + 8, none⟩ = some (.string kb.name) ∧ w'.cell? ⟨b, off + 9, none⟩ = some (.int .u64 kb.num) ∧ w'.cell? ⟨b, off + 10, none⟩ = some (.string kb.op) ∧ w'.cell? ⟨b, off + 11, none⟩ = some (.slice Akb kb.kids.length capkb) from ⟨f.cell hb8 N8 0 rfl, f.cell hb8 N8 1 rfl, f.cell hb8 N8 2 rfl, f.cell hb8 N8 3 rfl, f.cell hb8 N8 4 rfl, f.cell hb8 N8 5 rfl, f.cell hRV.blk NP 0 rfl, f.cell hRV.blk NP 1 rfl, ((Fr.root hRV f).cell (p := ⟨b, off, none⟩) hbB).trans (((hWV.mono hr.size).cell (p := ⟨b, off, none⟩) hbB).trans d00), ((Fr.root hRV f).cell (p := ⟨b, off + 1, none⟩) hbB).trans (((hWV.mono hr.size).cell (p := ⟨b, off + 1, none⟩) hbB).trans d01), ((Fr.root hRV f).cell (p := ⟨b, off + 2, none⟩) hbB).trans (((hWV.mono hr.size).cell (p := ⟨b, off + 2, none⟩) hbB).trans d02), ((Fr.root hRV f).cell (p := ⟨b, off + 3, none⟩) hbB).trans (((hWV.mono hr.size).cell (p := ⟨b, off + 3, none⟩) hbB).trans d03), ((Fr.root hRV f).cell (p := ⟨b, off + 4, none⟩) hbB).trans (((hWV.mono hr.size).cell (p := ⟨b, off + 4, none⟩) hbB).trans d04), ((Fr.root hRV f).cell (p := ⟨b, off + 5, none⟩) hbB).trans (((hWV.mono hr.size).cell (p := ⟨b, off + 5, none⟩) hbB).trans d05), ((Fr.root hRV f).cell (p := ⟨b, off + 6, none⟩) hbB).trans (((hWV.mono hr.size).cell (p := ⟨b, off + 6, none⟩) hbB).trans d10), ((Fr.root hRV f).cell (p := ⟨b, off + 7, none⟩) hbB).trans (((hWV.mono hr.size).cell (p := ⟨b, off + 7, none⟩) hbB).trans d11), ((Fr.root hRV f).cell (p := ⟨b, off + 8, none⟩) hbB).trans (((hWV.mono hr.size).cell (p := ⟨b, off + 8, none⟩) hbB).trans d12), ((Fr.root hRV f).cell (p := ⟨b, off + 9, none⟩) hbB).trans (((hWV.mono hr.size).cell (p := ⟨b, off + 9, none⟩) hbB).trans d13), ((Fr.root hRV f).cell (p := ⟨b, off + 10, none⟩) hbB).trans (((hWV.mono hr.size).cell (p := ⟨b, off + 10, none⟩) hbB).trans d14), ((Fr.root hRV f).cell (p := ⟨b, off + 11, none⟩) hbB).trans (((hWV.mono hr.size).cell (p := ⟨b, off + 11, none⟩) hbB).trans d15)⟩)
  have R0 := Lib.hid (And.intro hRV (Fr.refl (SR mu mv) (w.alloc (.cells #[.int .i64 18, .int .i64 t.at_, .string t.name, .int .u64 t.num, .string t.op, .slice (some ⟨b, off, none⟩) 2 cap] 31))))
  have C1 := Lib.hid (fun (W : World) (ht : Lib.TabIs Tryd.prog W "strings.asciiSpace" .u8 Lib.asciiSpaceTab) => show Calls Tryd.prog 56 #[.string t.op, .string ⟨#[43, 32, 45, 32, 42, 32, 47, 32, 37, 32, 60, 60, 32, 62, 62, 32, 62, 62, 62, 32, 38, 32, 124, 32, 94, 32, 60, 32, 60, 61, 32, 62, 32, 62, 61, 32, 61, 61, 32, 33, 61, 32, 61, 61, 61, 32, 33, 61, 61, 32, 105, 110, 32, 105, 110, 115, 116, 97, 110, 99, 101, 111, 102]⟩] W (fun e w' => e = .returned (.bool (sg t.op wBinary)) ∧ Below W.heap.size W w') from signs_calls W t.op wBinary ht (by decide) (ascii_of (by decide +kernel)) (by decide +kernel))
  have C2 := Lib.hid (fun W s1 (f : Fr (SR mu mv) (w.alloc (.cells #[.int .i64 18, .int .i64 t.at_, .string t.name, .int .u64 t.num, .string t.op, .slice (some ⟨b, off, none⟩) 2 cap] 31)) W) (r : RW W B pt mu mv nv s1) => show Calls Tryd.prog 55 #[.pointer (some ⟨pt, 0, none⟩), .slice (some ⟨b, off, none⟩) 2 cap, .bool gen] W (fun e w' => e = .returned (.bool ((exsM F t.kids gen) s1).1) ∧ RW w' B pt mu mv nv ((exsM F t.kids gen) s1).2 ∧ Fr (SR mu mv) (w.alloc (.cells #[.int .i64 18, .int .i64 t.at_, .string t.name, .int .u64 t.num, .string t.op, .slice (some ⟨b, off, none⟩) 2 cap] 31)) w') from (all_calls' G W B pt mu mv nv s1 t.kids _ cap gen 2 hlen r (fun k hk => Tr.fitsD_kid hd hk) (f.to hRV (hk.under (hWV.mono hr.size)))).mono fun e w' ⟨h1, h2, h3⟩ => ⟨h1, h2, f.tr h3⟩)
  unfold RP
  clear hgo hr hd hk hWV hb8 N8 NP hRV
  cases h1 : ((exsM F t.kids gen) s).1
  · have HE := Lib.hid (show (exsM F t.kids gen) s = (false, ((exsM F t.kids gen) s).2) from by exact Prod.ext h1 rfl)
    have D1 := Lib.hid (fun W ht => C1.out W ht)
    rw [hsg] at D1
    have D2 := Lib.hid (fun W f r => C2.out W s f r)
    rw [h1] at D2
    rw [HE.out]
    clear C1 C2
    clear hkind hkids hlen hsg hwf h1
    go_enter Tryd.func36, Tryd.ntmps36
    go_wp2_with (first | (go_at_call 56; (with_reducible refine (D1.out _ R0.out.1.tab.here).mono ?_); rintro e v1 ⟨rfl, bm⟩; have R1 := Lib.hid (And.intro (R0.out.1.fr bm) (R0.out.2.tr (Fr.of_below bm))); obtain ⟨x1_0, x1_1, x1_2, x1_3, x1_4, x1_5, x1_6, x1_7, x1_8, x1_9, x1_10, x1_11, x1_12, x1_13, x1_14, x1_15, x1_16, x1_17, x1_18, x1_19⟩ := KX.out _ R1.out.2; clear bm) | (go_at_call 55; (with_reducible refine (D2.out _ R1.out.2 R1.out.1).mono ?_); rintro e v2 ⟨rfl, g1, g2⟩; have R2 := Lib.hid (And.intro g1 g2); obtain ⟨x2_0, x2_1, x2_2, x2_3, x2_4, x2_5, x2_6, x2_7, x2_8, x2_9, x2_10, x2_11, x2_12, x2_13, x2_14, x2_15, x2_16, x2_17, x2_18, x2_19⟩ := KX.out _ g2; clear g1 g2))
    go_ret
    exact ⟨rfl, R2.out.1, HFV.out.tr R2.out.2⟩
  · have HE := Lib.hid (show (exsM F t.kids gen) s = (true, ((exsM F t.kids gen) s).2) from by exact Prod.ext h1 rfl)
    have D1 := Lib.hid (fun W ht => C1.out W ht)
    rw [hsg] at D1
    have D2 := Lib.hid (fun W f r => C2.out W s f r)
    rw [h1] at D2
    rw [HE.out]
    clear C1 C2
    clear hkind hkids hlen hsg hwf h1
    go_enter Tryd.func36, Tryd.ntmps36
    go_wp2_with (first | (go_at_call 56; (with_reducible refine (D1.out _ R0.out.1.tab.here).mono ?_); rintro e v1 ⟨rfl, bm⟩; have R1 := Lib.hid (And.intro (R0.out.1.fr bm) (R0.out.2.tr (Fr.of_below bm))); obtain ⟨x1_0, x1_1, x1_2, x1_3, x1_4, x1_5, x1_6, x1_7, x1_8, x1_9, x1_10, x1_11, x1_12, x1_13, x1_14, x1_15, x1_16, x1_17, x1_18, x1_19⟩ := KX.out _ R1.out.2; clear bm) | (go_at_call 55; (with_reducible refine (D2.out _ R1.out.2 R1.out.1).mono ?_); rintro e v2 ⟨rfl, g1, g2⟩; have R2 := Lib.hid (And.intro g1 g2); obtain ⟨x2_0, x2_1, x2_2, x2_3, x2_4, x2_5, x2_6, x2_7, x2_8, x2_9, x2_10, x2_11, x2_12, x2_13, x2_14, x2_15, x2_16, x2_17, x2_18, x2_19⟩ := KX.out _ g2; clear g1 g2))
    go_ret
    exact ⟨rfl, R2.out.1, HFV.out.tr R2.out.2⟩
set_option maxRecDepth 100000 in
set_option maxHeartbeats 8000000 in
theorem ex19n {F : RF} {n : Nat} (G : GoodR F n) (w : World) (B pt mu mv : Nat) (nv : Value) (s : Pl) (t : Tr) (kv : Value) (gen : Bool) (hr : RW w B pt mu mv nv s) (hd : t.fitsD (n + 1) = true) (hwf : t.wf1) (hk : KidsAt w B kv t.kids) {ka : Tr} {kb : Tr} (hkind : t.kind = 19) (hkids : t.kids = [ka, kb]) (hsg : sg t.op wLogic = false) :
    Calls Tryd.prog 36 #[.pointer (some ⟨pt, 0, none⟩), .agg #[.int .i64 t.kind, .int .i64 t.at_, .string t.name, .int .u64 t.num, .string t.op, kv], .bool gen] w (RP w B pt mu mv nv (exP F t gen s)) := by
  have hgo : exP F t gen s = (okM false) s := by unfold exP; rw [hkind, hkids]; simp [hsg]
  rw [hgo]
  have hlen : t.kids.length = 2 := by rw [hkids]; rfl
  obtain ⟨A, cap, rfl, hcl, hcm, hA⟩ := hk.slice
  obtain ⟨b, off, rfl, hbB⟩ := hA (by omega)
  rw [hlen] at hk hcl ⊢
  clear hA
  rw [hkind]
  have hWV : Below w.heap.size w (w.alloc (.cells #[.int .i64 19, .int .i64 t.at_, .string t.name, .int .u64 t.num, .string t.op, .slice (some ⟨b, off, none⟩) 2 cap] 31)) := below_alloc (Below.refl _ _)
  have hRV : RW (w.alloc (.cells #[.int .i64 19, .int .i64 t.at_, .string t.name, .int .u64 t.num, .string t.op, .slice (some ⟨b, off, none⟩) 2 cap] 31)) B pt mu mv nv s := hr.fr hWV
  have HFV := Lib.hid (show Fr (SR mu mv) w (w.alloc (.cells #[.int .i64 19, .int .i64 t.at_, .string t.name, .int .u64 t.num, .string t.op, .slice (some ⟨b, off, none⟩) 2 cap] 31)) from Fr.of_below hWV)
  have hb8 : Blk (w.alloc (.cells #[.int .i64 19, .int .i64 t.at_, .string t.name, .int .u64 t.num, .string t.op, .slice (some ⟨b, off, none⟩) 2 cap] 31)) w.heap.size 31 #[.int .i64 19, .int .i64 t.at_, .string t.name, .int .u64 t.num, .string t.op, .slice (some ⟨b, off, none⟩) 2 cap] := Blk.new _ _ _
  have hpl := hr.blk.lt
  have hbw : b < w.heap.size := Nat.lt_of_lt_of_le hbB hr.size
  have hn1 : w.heap.size ≠ b := by omega
  have hn2 : w.heap.size ≠ pt := by omega
  have N8 := Fr.not_sr hRV hb8
  have NP := Fr.not_sr hRV hRV.blk
  obtain ⟨cpu, cpv⟩ := hr.cells
  have hi0 : t.kids[0]? = some ka := by rw [hkids]; rfl
  have hd0 := Tr.fitsD_kid hd (List.mem_of_getElem? hi0)
  obtain ⟨_, hw0, kv0, hn0, hs0⟩ := hk.kid hi0
  obtain ⟨Aka, capka, rfl, _, _, _⟩ := hs0.slice
  obtain ⟨d00, d01, d02, d03, d04, d05⟩ := kid_cells hn0 (off) (by omega)
  have hi1 : t.kids[1]? = some kb := by rw [hkids]; rfl
  have hd1 := Tr.fitsD_kid hd (List.mem_of_getElem? hi1)
  obtain ⟨_, hw1, kv1, hn1, hs1⟩ := hk.kid hi1
  obtain ⟨Akb, capkb, rfl, _, _, _⟩ := hs1.slice
  obtain ⟨d10, d11, d12, d13, d14, d15⟩ := kid_cells hn1 (off + 6) (by omega)
  have KX := Lib.hid (fun w' (f : Fr (SR mu mv) (w.alloc (.cells #[.int .i64 19, .int .i64 t.at_, .string t.name, .int .u64 t.num, .string t.op, .slice (some ⟨b, off, none⟩) 2 cap] 31)) w') => show w'.cell? ⟨w.heap.size, 0, none⟩ = some (.int .i64 19) ∧ w'.cell? ⟨w.heap.size, 1, none⟩ = some (.int .i64 t.at_) ∧ w'.cell? ⟨w.heap.size, 2, none⟩ = some (.string t.name) ∧ w'.cell? ⟨w.heap.size, 3, none⟩ = some (.int .u64 t.num) ∧ w'.cell? ⟨w.heap.size, 4, none⟩ = some (.string t.op) ∧ w'.cell? ⟨w.heap.size, 5, none⟩ = some (.slice (some ⟨b, off, none⟩) 2 cap) ∧ w'.cell? ⟨pt, 0, none⟩ = some (.map (some mu)) ∧ w'.cell? ⟨pt, 1, none⟩ = some (.map (some mv)) ∧ w'.cell? ⟨b, off, none⟩ = some (.int .i64 ka.kind) ∧ w'.cell? ⟨b, off + 1, none⟩ = some (.int .i64 ka.at_) ∧ w'.cell? ⟨b, off + 2, none⟩ = some (.string ka.name) ∧ w'.cell? ⟨b, off + 3, none⟩ = some (.int .u64 ka.num) ∧ w'.cell? ⟨b, off + 4, none⟩ = some (.string ka.op) ∧ w'.cell? ⟨b, off + 5, none⟩ = some (.slice Aka ka.kids.length capka) ∧ w'.cell? ⟨b, off + 6, none⟩ = some (.int .i64 kb.kind) ∧ w'.cell? ⟨b, off + 7, none⟩ = some (.int .i64 kb.at_) ∧ w'.cell? ⟨b, off + 8, none⟩ = some (.string kb.name) ∧ w'.cell? ⟨b, off + 9, none⟩ = some (.int .u64 kb.num) ∧ w'.cell? ⟨b, off + 10, none⟩ = some (.string kb.op) ∧ w'.cell? ⟨b, off + 11, none⟩ = some (.slice Akb kb.kids.length capkb) from ⟨f.cell hb8 N8 0 rfl, f.cell hb8 N8 1 rfl, f.cell hb8 N8 2 rfl, f.cell hb8 N8 3 rfl, f.cell hb8 N8 4 rfl, f.cell hb8 N8 5 rfl, f.cell hRV.blk NP 0 rfl, f.cell hRV.blk NP 1 rfl, ((Fr.root hRV f).cell (p := ⟨b, off, none⟩) hbB).trans (((hWV.mono hr.size).cell (p := ⟨b, off, none⟩) hbB).trans d00), ((Fr.root hRV f).cell (p := ⟨b, off + 1, none⟩) hbB).trans (((hWV.mono hr.size).cell (p := ⟨b, off + 1, none⟩) hbB).trans d01), ((Fr.root hRV f).cell (p := ⟨b, off + 2, none⟩) hbB).trans (((hWV.mono hr.size).cell (p := ⟨b, off + 2, none⟩) hbB).trans d02), ((Fr.root hRV f).cell (p := ⟨b, off + 3, none⟩) hbB).trans (((hWV.mono hr.size).cell (p := ⟨b, off + 3, none⟩) hbB).trans d03), ((Fr.root hRV f).cell (p := ⟨b, off + 4, none⟩) hbB).trans (((hWV.mono hr.size).cell (p := ⟨b, off + 4, none⟩) hbB).trans d04), ((Fr.root hRV f).cell (p := ⟨b, off + 5, none⟩) hbB).trans (((hWV.mono hr.size).cell (p := ⟨b, off + 5, none⟩) hbB).trans d05), ((Fr.root hRV f).cell (p := ⟨b, off + 6, none⟩) hbB).trans (((hWV.mono hr.size).cell (p := ⟨b, off + 6, none⟩) hbB).trans d10), ((Fr.root hRV f).cell (p := ⟨b, off + 7, none⟩) hbB).trans (((hWV.mono hr.size).cell (p := ⟨b, off + 7, none⟩) hbB).trans d11), ((Fr.root hRV f).cell (p := ⟨b, off + 8, none⟩) hbB).trans (((hWV.mono hr.size).cell (p := ⟨b, off + 8, none⟩) hbB).trans d12), ((Fr.root hRV f).cell (p := ⟨b, off + 9, none⟩) hbB).trans (((hWV.mono hr.size).cell (p := ⟨b, off + 9, none⟩) hbB).trans d13), ((Fr.root hRV f).cell (p := ⟨b, off + 10, none⟩) hbB).trans (((hWV.mono hr.size).cell (p := ⟨b, off + 10, none⟩) hbB).trans d14), ((Fr.root hRV f).cell (p := ⟨b, off + 11, none⟩) hbB).trans (((hWV.mono hr.size).cell (p := ⟨b, off + 11, none⟩) hbB).trans d15)⟩)
  have R0 := Lib.hid (And.intro hRV (Fr.refl (SR mu mv) (w.alloc (.cells #[.int .i64 19, .int .i64 t.at_, .string t.name, .int .u64 t.num, .string t.op, .slice (some ⟨b, off, none⟩) 2 cap] 31))))
  have C1 := Lib.hid (fun (W : World) (ht : Lib.TabIs Tryd.prog W "strings.asciiSpace" .u8 Lib.asciiSpaceTab) => show Calls Tryd.prog 56 #[.string t.op, .string ⟨#[38, 38, 32, 124, 124]⟩] W (fun e w' => e = .returned (.bool (sg t.op wLogic)) ∧ Below W.heap.size W w') from signs_calls W t.op wLogic ht (by decide) (ascii_of (by decide +kernel)) (by decide +kernel))
  unfold RP
  clear hgo hr hd hk hWV hb8 N8 NP hRV
  have HE := Lib.hid (show (okM false) s = (false, s) from rfl)
  have D1 := Lib.hid (fun W ht => C1.out W ht)
  rw [hsg] at D1
  rw [HE.out]
  clear C1
  clear hkind hkids hlen hsg hwf
  go_enter Tryd.func36, Tryd.ntmps36
  go_wp2_with (first | (go_at_call 56; (with_reducible refine (D1.out _ R0.out.1.tab.here).mono ?_); rintro e v1 ⟨rfl, bm⟩; have R1 := Lib.hid (And.intro (R0.out.1.fr bm) (R0.out.2.tr (Fr.of_below bm))); obtain ⟨x1_0, x1_1, x1_2, x1_3, x1_4, x1_5, x1_6, x1_7, x1_8, x1_9, x1_10, x1_11, x1_12, x1_13, x1_14, x1_15, x1_16, x1_17, x1_18, x1_19⟩ := KX.out _ R1.out.2; clear bm))
  go_ret
  exact ⟨rfl, R1.out.1, HFV.out.tr R1.out.2⟩
set_option maxRecDepth 100000 in
set_option maxHeartbeats 8000000 in
theorem ex19 {F : RF} {n : Nat} (G : GoodR F n) (w : World) (B pt mu mv : Nat) (nv : Value) (s : Pl) (t : Tr) (kv : Value) (gen : Bool) (hr : RW w B pt mu mv nv s) (hd : t.fitsD (n + 1) = true) (hwf : t.wf1) (hk : KidsAt w B kv t.kids) {ka : Tr} {kb : Tr} (hkind : t.kind = 19) (hkids : t.kids = [ka, kb]) (hsg : sg t.op wLogic = true) :
    Calls Tryd.prog 36 #[.pointer (some ⟨pt, 0, none⟩), .agg #[.int .i64 t.kind, .int .i64 t.at_, .string t.name, .int .u64 t.num, .string t.op, kv], .bool gen] w (RP w B pt mu mv nv (exP F t gen s)) := by
  have hgo : exP F t gen s = (exsM F t.kids gen) s := by unfold exP; rw [hkind, hkids]; simp [hsg]
  rw [hgo]
  have hlen : t.kids.length = 2 := by rw [hkids]; rfl
  obtain ⟨A, cap, rfl, hcl, hcm, hA⟩ := hk.slice
  obtain ⟨b, off, rfl, hbB⟩ := hA (by omega)
  rw [hlen] at hk hcl ⊢
  clear hA
  rw [hkind]
  have hWV : Below w.heap.size w (w.alloc (.cells #[.int .i64 19, .int .i64 t.at_, .string t.name, .int .u64 t.num, .string t.op, .slice (some ⟨b, off, none⟩) 2 cap] 31)) := below_alloc (Below.refl _ _)
  have hRV : RW (w.alloc (.cells #[.int .i64 19, .int .i64 t.at_, .string t.name, .int .u64 t.num, .string t.op, .slice (some ⟨b, off, none⟩) 2 cap] 31)) B pt mu mv nv s := hr.fr hWV
  have HFV := Lib.hid (show Fr (SR mu mv) w (w.alloc (.cells #[.int .i64 19, .int .i64 t.at_, .string t.name, .int .u64 t.num, .string t.op, .slice (some ⟨b, off, none⟩) 2 cap] 31)) from Fr.of_below hWV)
  have hb8 : Blk (w.alloc (.cells #[.int .i64 19, .int .i64 t.at_, .string t.name, .int .u64 t.num, .string t.op, .slice (some ⟨b, off, none⟩) 2 cap] 31)) w.heap.size 31 #[.int .i64 19, .int .i64 t.at_, .string t.name, .int .u64 t.num, .string t.op, .slice (some ⟨b, off, none⟩) 2 cap] := Blk.new _ _ _
  have hpl := hr.blk.lt
  have hbw : b < w.heap.size := Nat.lt_of_lt_of_le hbB hr.size
  have hn1 : w.heap.size ≠ b := by omega
  have hn2 : w.heap.size ≠ pt := by omega
  have N8 := Fr.not_sr hRV hb8
  have NP := Fr.not_sr hRV hRV.blk
  obtain ⟨cpu, cpv⟩ := hr.cells
  have hi0 : t.kids[0]? = some ka := by rw [hkids]; rfl
  have hd0 := Tr.fitsD_kid hd (List.mem_of_getElem? hi0)
  obtain ⟨_, hw0, kv0, hn0, hs0⟩ := hk.kid hi0
  obtain ⟨Aka, capka, rfl, _, _, _⟩ := hs0.slice
  obtain ⟨d00, d01, d02, d03, d04, d05⟩ := kid_cells hn0 (off) (by omega)
  have hi1 : t.kids[1]? = some kb := by rw [hkids]; rfl
  have hd1 := Tr.fitsD_kid hd (List.mem_of_getElem? hi1)
  obtain ⟨_, hw1, kv1, hn1, hs1⟩ := hk.kid hi1
  obtain ⟨Akb, capkb, rfl, _, _, _⟩ := hs1.slice
  obtain ⟨d10, d11, d12, d13, d14, d15⟩ := kid_cells hn1 (off + 6) (by omega)
  have KX := Lib.hid (fun w' (f : Fr (SR mu mv) (w.alloc (.cells #[.int .i64 19, .int .i64 t.at_, .string t.name, .int .u64 t.num, .string t.op, .slice (some ⟨b, off, none⟩) 2 cap] 31)) w') => show w'.cell? ⟨w.heap.size, 0, none⟩ = some (.int .i64 19) ∧ w'.cell? ⟨w.heap.size, 1, none⟩ = some (.int .i64 t.at_) ∧ w'.cell? ⟨w.heap.size, 2, none⟩ = some (.string t.name) ∧ w'.cell? ⟨w.heap.size, 3, none⟩ = some (.int .u64 t.num) ∧ w'.cell? ⟨w.heap.size, 4, none⟩ = some (.string t.op) ∧ w'.cell? ⟨w.heap.size, 5, none⟩ = some (.slice (some ⟨b, off, none⟩) 2 cap) ∧ w'.cell? ⟨pt, 0, none⟩ = some (.map (some mu)) ∧ w'.cell? ⟨pt, 1, none⟩ = some (.map (some mv)) ∧ w'.cell? ⟨b, off, none⟩ = some (.int .i64 ka.kind) ∧ w'.cell? ⟨b, off + 1, none⟩ = some (.int .i64 ka.at_) ∧ w'.cell? ⟨b, off + 2, none⟩ = some (.string ka.name) ∧ w'.cell? ⟨b, off + 3, none⟩ = some (.int .u64 ka.num) ∧ w'.cell? ⟨b, off + 4, none⟩ = some (.string ka.op) ∧ w'.cell? ⟨b, off + 5, none⟩ = some (.slice Aka ka.kids.length capka) ∧ w'.cell? ⟨b, off + 6, none⟩ = some (.int .i64 kb.kind) ∧ w'.cell? ⟨b, off + 7, none⟩ = some (.int .i64 kb.at_) ∧ w'.cell? ⟨b, off + 8, none⟩ = some (.string kb.name) ∧ w'.cell? ⟨b, off + 9, none⟩ = some (.int .u64 kb.num) ∧ w'.cell? ⟨b, off + 10, none⟩ = some (.string kb.op) ∧ w'.cell? ⟨b, off + 11, none⟩ = some (.slice Akb kb.kids.length capkb) from ⟨f.cell hb8 N8 0 rfl, f.cell hb8 N8 1 rfl, f.cell hb8 N8 2 rfl, f.cell hb8 N8 3 rfl, f.cell hb8 N8 4 rfl, f.cell hb8 N8 5 rfl, f.cell hRV.blk NP 0 rfl, f.cell hRV.blk NP 1 rfl, ((Fr.root hRV f).cell (p := ⟨b, off, none⟩) hbB).trans (((hWV.mono hr.size).cell (p := ⟨b, off, none⟩) hbB).trans d00), ((Fr.root hRV f).cell (p := ⟨b, off + 1, none⟩) hbB).trans (((hWV.mono hr.size).cell (p := ⟨b, off + 1, none⟩) hbB).trans d01), ((Fr.root hRV f).cell (p := ⟨b, off + 2, none⟩) hbB).trans (((hWV.mono hr.size).cell (p := ⟨b, off + 2, none⟩) hbB).trans d02), ((Fr.root hRV f).cell (p := ⟨b, off + 3, none⟩) hbB).trans (((hWV.mono hr.size).cell (p := ⟨b, off + 3, none⟩) hbB).trans d03), ((Fr.root hRV f).cell (p := ⟨b, off + 4, none⟩) hbB).trans (((hWV.mono hr.size).cell (p := ⟨b, off + 4, none⟩) hbB).trans d04), ((Fr.root hRV f).cell (p := ⟨b, off + 5, none⟩) hbB).trans (((hWV.mono hr.size).cell (p := ⟨b, off + 5, none⟩) hbB).trans d05), ((Fr.root hRV f).cell (p := ⟨b, off + 6, none⟩) hbB).trans (((hWV.mono hr.size).cell (p := ⟨b, off + 6, none⟩) hbB).trans d10), ((Fr.root hRV f).cell (p := ⟨b, off + 7, none⟩) hbB).trans (((hWV.mono hr.size).cell (p := ⟨b, off + 7, none⟩) hbB).trans d11), ((Fr.root hRV f).cell (p := ⟨b, off + 8, none⟩) hbB).trans (((hWV.mono hr.size).cell (p := ⟨b, off + 8, none⟩) hbB).trans d12), ((Fr.root hRV f).cell (p := ⟨b, off + 9, none⟩) hbB).trans (((hWV.mono hr.size).cell (p := ⟨b, off + 9, none⟩) hbB).trans d13), ((Fr.root hRV f).cell (p := ⟨b, off + 10, none⟩) hbB).trans (((hWV.mono hr.size).cell (p := ⟨b, off + 10, none⟩) hbB).trans d14), ((Fr.root hRV f).cell (p := ⟨b, off + 11, none⟩) hbB).trans (((hWV.mono hr.size).cell (p := ⟨b, off + 11, none⟩) hbB).trans d15)⟩)
  have R0 := Lib.hid (And.intro hRV (Fr.refl (SR mu mv) (w.alloc (.cells #[.int .i64 19, .int .i64 t.at_, .string t.name, .int .u64 t.num, .string t.op, .slice (some ⟨b, off, none⟩) 2 cap] 31))))
  have C1 := Lib.hid (fun (W : World) (ht : Lib.TabIs Tryd.prog W "strings.asciiSpace" .u8 Lib.asciiSpaceTab) => show Calls Tryd.prog 56 #[.string t.op, .string ⟨#[38, 38, 32, 124, 124]⟩] W (fun e w' => e = .returned (.bool (sg t.op wLogic)) ∧ Below W.heap.size W w') from signs_calls W t.op wLogic ht (by decide) (ascii_of (by decide +kernel)) (by decide +kernel))
  have C2 := Lib.hid (fun W s1 (f : Fr (SR mu mv) (w.alloc (.cells #[.int .i64 19, .int .i64 t.at_, .string t.name, .int .u64 t.num, .string t.op, .slice (some ⟨b, off, none⟩) 2 cap] 31)) W) (r : RW W B pt mu mv nv s1) => show Calls Tryd.prog 55 #[.pointer (some ⟨pt, 0, none⟩), .slice (some ⟨b, off, none⟩) 2 cap, .bool gen] W (fun e w' => e = .returned (.bool ((exsM F t.kids gen) s1).1) ∧ RW w' B pt mu mv nv ((exsM F t.kids gen) s1).2 ∧ Fr (SR mu mv) (w.alloc (.cells #[.int .i64 19, .int .i64 t.at_, .string t.name, .int .u64 t.num, .string t.op, .slice (some ⟨b, off, none⟩) 2 cap] 31)) w') from (all_calls' G W B pt mu mv nv s1 t.kids _ cap gen 2 hlen r (fun k hk => Tr.fitsD_kid hd hk) (f.to hRV (hk.under (hWV.mono hr.size)))).mono fun e w' ⟨h1, h2, h3⟩ => ⟨h1, h2, f.tr h3⟩)
  unfold RP
  clear hgo hr hd hk hWV hb8 N8 NP hRV
  cases h1 : ((exsM F t.kids gen) s).1
  · have HE := Lib.hid (show (exsM F t.kids gen) s = (false, ((exsM F t.kids gen) s).2) from by exact Prod.ext h1 rfl)
    have D1 := Lib.hid (fun W ht => C1.out W ht)
    rw [hsg] at D1
    have D2 := Lib.hid (fun W f r => C2.out W s f r)
    rw [h1] at D2
    rw [HE.out]
    clear C1 C2
    clear hkind hkids hlen hsg hwf h1
    go_enter Tryd.func36, Tryd.ntmps36
    go_wp2_with (first | (go_at_call 56; (with_reducible refine (D1.out _ R0.out.1.tab.here).mono ?_); rintro e v1 ⟨rfl, bm⟩; have R1 := Lib.hid (And.intro (R0.out.1.fr bm) (R0.out.2.tr (Fr.of_below bm))); obtain ⟨x1_0, x1_1, x1_2, x1_3, x1_4, x1_5, x1_6, x1_7, x1_8, x1_9, x1_10, x1_11, x1_12, x1_13, x1_14, x1_15, x1_16, x1_17, x1_18, x1_19⟩ := KX.out _ R1.out.2; clear bm) | (go_at_call 55; (with_reducible refine (D2.out _ R1.out.2 R1.out.1).mono ?_); rintro e v2 ⟨rfl, g1, g2⟩; have R2 := Lib.hid (And.intro g1 g2); obtain ⟨x2_0, x2_1, x2_2, x2_3, x2_4, x2_5, x2_6, x2_7, x2_8, x2_9, x2_10, x2_11, x2_12, x2_13, x2_14, x2_15, x2_16, x2_17, x2_18, x2_19⟩ := KX.out _ g2; clear g1 g2))
    go_ret
    exact ⟨rfl, R2.out.1, HFV.out.tr R2.out.2⟩
  · have HE := Lib.hid (show (exsM F t.kids gen) s = (true, ((exsM F t.kids gen) s).2) from by exact Prod.ext h1 rfl)
    have D1 := Lib.hid (fun W ht => C1.out W ht)
    rw [hsg] at D1
    have D2 := Lib.hid (fun W f r => C2.out W s f r)
    rw [h1] at D2
    rw [HE.out]
    clear C1 C2
    clear hkind hkids hlen hsg hwf h1
    go_enter Tryd.func36, Tryd.ntmps36
    go_wp2_with (first | (go_at_call 56; (with_reducible refine (D1.out _ R0.out.1.tab.here).mono ?_); rintro e v1 ⟨rfl, bm⟩; have R1 := Lib.hid (And.intro (R0.out.1.fr bm) (R0.out.2.tr (Fr.of_below bm))); obtain ⟨x1_0, x1_1, x1_2, x1_3, x1_4, x1_5, x1_6, x1_7, x1_8, x1_9, x1_10, x1_11, x1_12, x1_13, x1_14, x1_15, x1_16, x1_17, x1_18, x1_19⟩ := KX.out _ R1.out.2; clear bm) | (go_at_call 55; (with_reducible refine (D2.out _ R1.out.2 R1.out.1).mono ?_); rintro e v2 ⟨rfl, g1, g2⟩; have R2 := Lib.hid (And.intro g1 g2); obtain ⟨x2_0, x2_1, x2_2, x2_3, x2_4, x2_5, x2_6, x2_7, x2_8, x2_9, x2_10, x2_11, x2_12, x2_13, x2_14, x2_15, x2_16, x2_17, x2_18, x2_19⟩ := KX.out _ g2; clear g1 g2))
    go_ret
    exact ⟨rfl, R2.out.1, HFV.out.tr R2.out.2⟩
set_option maxRecDepth 100000 in
set_option maxHeartbeats 8000000 in
theorem ex17a {F : RF} {n : Nat} (G : GoodR F n) (w : World) (B pt mu mv : Nat) (nv : Value) (s : Pl) (t : Tr) (kv : Value) (gen : Bool) (hr : RW w B pt mu mv nv s) (hd : t.fitsD (n + 1) = true) (hwf : t.wf1) (hk : KidsAt w B kv t.kids) {ka : Tr} (hkind : t.kind = 17) (hkids : t.kids = [ka]) (hsg : sg t.op wUpdate = false) :
    Calls Tryd.prog 36 #[.pointer (some ⟨pt, 0, none⟩), .agg #[.int .i64 t.kind, .int .i64 t.at_, .string t.name, .int .u64 t.num, .string t.op, kv], .bool gen] w (RP w B pt mu mv nv (exP F t gen s)) := by
  have hgo : exP F t gen s = (okM false) s := by unfold exP; rw [hkind, hkids]; simp [hsg]
  rw [hgo]
  have hlen : t.kids.length = 1 := by rw [hkids]; rfl
  obtain ⟨A, cap, rfl, hcl, hcm, hA⟩ := hk.slice
  obtain ⟨b, off, rfl, hbB⟩ := hA (by omega)
  rw [hlen] at hk hcl ⊢
  clear hA
  rw [hkind]
  have hWV : Below w.heap.size w (w.alloc (.cells #[.int .i64 17, .int .i64 t.at_, .string t.name, .int .u64 t.num, .string t.op, .slice (some ⟨b, off, none⟩) 1 cap] 31)) := below_alloc (Below.refl _ _)
  have hRV : RW (w.alloc (.cells #[.int .i64 17, .int .i64 t.at_, .string t.name, .int .u64 t.num, .string t.op, .slice (some ⟨b, off, none⟩) 1 cap] 31)) B pt mu mv nv s := hr.fr hWV
  have HFV := Lib.hid (show Fr (SR mu mv) w (w.alloc (.cells #[.int .i64 17, .int .i64 t.at_, .string t.name, .int .u64 t.num, .string t.op, .slice (some ⟨b, off, none⟩) 1 cap] 31)) from Fr.of_below hWV)
  have hb8 : Blk (w.alloc (.cells #[.int .i64 17, .int .i64 t.at_, .string t.name, .int .u64 t.num, .string t.op, .slice (some ⟨b, off, none⟩) 1 cap] 31)) w.heap.size 31 #[.int .i64 17, .int .i64 t.at_, .string t.name, .int .u64 t.num, .string t.op, .slice (some ⟨b, off, none⟩) 1 cap] := Blk.new _ _ _
  have hpl := hr.blk.lt
  have hbw : b < w.heap.size := Nat.lt_of_lt_of_le hbB hr.size
  have hn1 : w.heap.size ≠ b := by omega
  have hn2 : w.heap.size ≠ pt := by omega
  have N8 := Fr.not_sr hRV hb8
  have NP := Fr.not_sr hRV hRV.blk
  obtain ⟨cpu, cpv⟩ := hr.cells
  have hi0 : t.kids[0]? = some ka := by rw [hkids]; rfl
  have hd0 := Tr.fitsD_kid hd (List.mem_of_getElem? hi0)
  obtain ⟨_, hw0, kv0, hn0, hs0⟩ := hk.kid hi0
  obtain ⟨Aka, capka, rfl, _, _, _⟩ := hs0.slice
  obtain ⟨d00, d01, d02, d03, d04, d05⟩ := kid_cells hn0 (off) (by omega)
  have KX := Lib.hid (fun w' (f : Fr (SR mu mv) (w.alloc (.cells #[.int .i64 17, .int .i64 t.at_, .string t.name, .int .u64 t.num, .string t.op, .slice (some ⟨b, off, none⟩) 1 cap] 31)) w') => show w'.cell? ⟨w.heap.size, 0, none⟩ = some (.int .i64 17) ∧ w'.cell? ⟨w.heap.size, 1, none⟩ = some (.int .i64 t.at_) ∧ w'.cell? ⟨w.heap.size, 2, none⟩ = some (.string t.name) ∧ w'.cell? ⟨w.heap.size, 3, none⟩ = some (.int .u64 t.num) ∧ w'.cell? ⟨w.heap.size, 4, none⟩ = some (.string t.op) ∧ w'.cell? ⟨w.heap.size, 5, none⟩ = some (.slice (some ⟨b, off, none⟩) 1 cap) ∧ w'.cell? ⟨pt, 0, none⟩ = some (.map (some mu)) ∧ w'.cell? ⟨pt, 1, none⟩ = some (.map (some mv)) ∧ w'.cell? ⟨b, off, none⟩ = some (.int .i64 ka.kind) ∧ w'.cell? ⟨b, off + 1, none⟩ = some (.int .i64 ka.at_) ∧ w'.cell? ⟨b, off + 2, none⟩ = some (.string ka.name) ∧ w'.cell? ⟨b, off + 3, none⟩ = some (.int .u64 ka.num) ∧ w'.cell? ⟨b, off + 4, none⟩ = some (.string ka.op) ∧ w'.cell? ⟨b, off + 5, none⟩ = some (.slice Aka ka.kids.length capka) from ⟨f.cell hb8 N8 0 rfl, f.cell hb8 N8 1 rfl, f.cell hb8 N8 2 rfl, f.cell hb8 N8 3 rfl, f.cell hb8 N8 4 rfl, f.cell hb8 N8 5 rfl, f.cell hRV.blk NP 0 rfl, f.cell hRV.blk NP 1 rfl, ((Fr.root hRV f).cell (p := ⟨b, off, none⟩) hbB).trans (((hWV.mono hr.size).cell (p := ⟨b, off, none⟩) hbB).trans d00), ((Fr.root hRV f).cell (p := ⟨b, off + 1, none⟩) hbB).trans (((hWV.mono hr.size).cell (p := ⟨b, off + 1, none⟩) hbB).trans d01), ((Fr.root hRV f).cell (p := ⟨b, off + 2, none⟩) hbB).trans (((hWV.mono hr.size).cell (p := ⟨b, off + 2, none⟩) hbB).trans d02), ((Fr.root hRV f).cell (p := ⟨b, off + 3, none⟩) hbB).trans (((hWV.mono hr.size).cell (p := ⟨b, off + 3, none⟩) hbB).trans d03), ((Fr.root hRV f).cell (p := ⟨b, off + 4, none⟩) hbB).trans (((hWV.mono hr.size).cell (p := ⟨b, off + 4, none⟩) hbB).trans d04), ((Fr.root hRV f).cell (p := ⟨b, off + 5, none⟩) hbB).trans (((hWV.mono hr.size).cell (p := ⟨b, off + 5, none⟩) hbB).trans d05)⟩)
  have R0 := Lib.hid (And.intro hRV (Fr.refl (SR mu mv) (w.alloc (.cells #[.int .i64 17, .int .i64 t.at_, .string t.name, .int .u64 t.num, .string t.op, .slice (some ⟨b, off, none⟩) 1 cap] 31))))
  have C1 := Lib.hid (fun (W : World) (ht : Lib.TabIs Tryd.prog W "strings.asciiSpace" .u8 Lib.asciiSpaceTab) => show Calls Tryd.prog 56 #[.string t.op, .string ⟨#[43, 43, 32, 45, 45]⟩] W (fun e w' => e = .returned (.bool (sg t.op wUpdate)) ∧ Below W.heap.size W w') from signs_calls W t.op wUpdate ht (by decide) (ascii_of (by decide +kernel)) (by decide +kernel))
  unfold RP
  clear hgo hr hd hk hWV hb8 N8 NP hRV
  have HE := Lib.hid (show (okM false) s = (false, s) from rfl)
  have D1 := Lib.hid (fun W ht => C1.out W ht)
  rw [hsg] at D1
  rw [HE.out]
  clear C1
  clear hkind hkids hlen hsg hwf
  go_enter Tryd.func36, Tryd.ntmps36
  go_wp2_with (first | (go_at_call 56; (with_reducible refine (D1.out _ R0.out.1.tab.here).mono ?_); rintro e v1 ⟨rfl, bm⟩; have R1 := Lib.hid (And.intro (R0.out.1.fr bm) (R0.out.2.tr (Fr.of_below bm))); obtain ⟨x1_0, x1_1, x1_2, x1_3, x1_4, x1_5, x1_6, x1_7, x1_8, x1_9, x1_10, x1_11, x1_12, x1_13⟩ := KX.out _ R1.out.2; clear bm))
  go_ret
  exact ⟨rfl, R1.out.1, HFV.out.tr R1.out.2⟩
set_option maxRecDepth 100000 in
set_option maxHeartbeats 8000000 in
theorem ex17b {F : RF} {n : Nat} (G : GoodR F n) (w : World) (B pt mu mv : Nat) (nv : Value) (s : Pl) (t : Tr) (kv : Value) (gen : Bool) (hr : RW w B pt mu mv nv s) (hd : t.fitsD (n + 1) = true) (hwf : t.wf1) (hk : KidsAt w B kv t.kids) {ka : Tr} (hkind : t.kind = 17) (hkids : t.kids = [ka]) (hsg : sg t.op wUpdate = true) (hs2 : sg t.name wPrePost = false) :
    Calls Tryd.prog 36 #[.pointer (some ⟨pt, 0, none⟩), .agg #[.int .i64 t.kind, .int .i64 t.at_, .string t.name, .int .u64 t.num, .string t.op, kv], .bool gen] w (RP w B pt mu mv nv (exP F t gen s)) := by
  have hgo : exP F t gen s = (okM false) s := by unfold exP; rw [hkind, hkids]; simp [hsg, hs2]
  rw [hgo]
  have hlen : t.kids.length = 1 := by rw [hkids]; rfl
  obtain ⟨A, cap, rfl, hcl, hcm, hA⟩ := hk.slice
  obtain ⟨b, off, rfl, hbB⟩ := hA (by omega)
  rw [hlen] at hk hcl ⊢
  clear hA
  rw [hkind]
  have hWV : Below w.heap.size w (w.alloc (.cells #[.int .i64 17, .int .i64 t.at_, .string t.name, .int .u64 t.num, .string t.op, .slice (some ⟨b, off, none⟩) 1 cap] 31)) := below_alloc (Below.refl _ _)
  have hRV : RW (w.alloc (.cells #[.int .i64 17, .int .i64 t.at_, .string t.name, .int .u64 t.num, .string t.op, .slice (some ⟨b, off, none⟩) 1 cap] 31)) B pt mu mv nv s := hr.fr hWV
  have HFV := Lib.hid (show Fr (SR mu mv) w (w.alloc (.cells #[.int .i64 17, .int .i64 t.at_, .string t.name, .int .u64 t.num, .string t.op, .slice (some ⟨b, off, none⟩) 1 cap] 31)) from Fr.of_below hWV)
  have hb8 : Blk (w.alloc (.cells #[.int .i64 17, .int .i64 t.at_, .string t.name, .int .u64 t.num, .string t.op, .slice (some ⟨b, off, none⟩) 1 cap] 31)) w.heap.size 31 #[.int .i64 17, .int .i64 t.at_, .string t.name, .int .u64 t.num, .string t.op, .slice (some ⟨b, off, none⟩) 1 cap] := Blk.new _ _ _
  have hpl := hr.blk.lt
  have hbw : b < w.heap.size := Nat.lt_of_lt_of_le hbB hr.size
  have hn1 : w.heap.size ≠ b := by omega
  have hn2 : w.heap.size ≠ pt := by omega
  have N8 := Fr.not_sr hRV hb8
  have NP := Fr.not_sr hRV hRV.blk
  obtain ⟨cpu, cpv⟩ := hr.cells
  have hi0 : t.kids[0]? = some ka := by rw [hkids]; rfl
  have hd0 := Tr.fitsD_kid hd (List.mem_of_getElem? hi0)
  obtain ⟨_, hw0, kv0, hn0, hs0⟩ := hk.kid hi0
  obtain ⟨Aka, capka, rfl, _, _, _⟩ := hs0.slice
  obtain ⟨d00, d01, d02, d03, d04, d05⟩ := kid_cells hn0 (off) (by omega)
  have KX := Lib.hid (fun w' (f : Fr (SR mu mv) (w.alloc (.cells #[.int .i64 17, .int .i64 t.at_, .string t.name, .int .u64 t.num, .string t.op, .slice (some ⟨b, off, none⟩) 1 cap] 31)) w') => show w'.cell? ⟨w.heap.size, 0, none⟩ = some (.int .i64 17) ∧ w'.cell? ⟨w.heap.size, 1, none⟩ = some (.int .i64 t.at_) ∧ w'.cell? ⟨w.heap.size, 2, none⟩ = some (.string t.name) ∧ w'.cell? ⟨w.heap.size, 3, none⟩ = some (.int .u64 t.num) ∧ w'.cell? ⟨w.heap.size, 4, none⟩ = some (.string t.op) ∧ w'.cell? ⟨w.heap.size, 5, none⟩ = some (.slice (some ⟨b, off, none⟩) 1 cap) ∧ w'.cell? ⟨pt, 0, none⟩ = some (.map (some mu)) ∧ w'.cell? ⟨pt, 1, none⟩ = some (.map (some mv)) ∧ w'.cell? ⟨b, off, none⟩ = some (.int .i64 ka.kind) ∧ w'.cell? ⟨b, off + 1, none⟩ = some (.int .i64 ka.at_) ∧ w'.cell? ⟨b, off + 2, none⟩ = some (.string ka.name) ∧ w'.cell? ⟨b, off + 3, none⟩ = some (.int .u64 ka.num) ∧ w'.cell? ⟨b, off + 4, none⟩ = some (.string ka.op) ∧ w'.cell? ⟨b, off + 5, none⟩ = some (.slice Aka ka.kids.length capka) from ⟨f.cell hb8 N8 0 rfl, f.cell hb8 N8 1 rfl, f.cell hb8 N8 2 rfl, f.cell hb8 N8 3 rfl, f.cell hb8 N8 4 rfl, f.cell hb8 N8 5 rfl, f.cell hRV.blk NP 0 rfl, f.cell hRV.blk NP 1 rfl, ((Fr.root hRV f).cell (p := ⟨b, off, none⟩) hbB).trans (((hWV.mono hr.size).cell (p := ⟨b, off, none⟩) hbB).trans d00), ((Fr.root hRV f).cell (p := ⟨b, off + 1, none⟩) hbB).trans (((hWV.mono hr.size).cell (p := ⟨b, off + 1, none⟩) hbB).trans d01), ((Fr.root hRV f).cell (p := ⟨b, off + 2, none⟩) hbB).trans (((hWV.mono hr.size).cell (p := ⟨b, off + 2, none⟩) hbB).trans d02), ((Fr.root hRV f).cell (p := ⟨b, off + 3, none⟩) hbB).trans (((hWV.mono hr.size).cell (p := ⟨b, off + 3, none⟩) hbB).trans d03), ((Fr.root hRV f).cell (p := ⟨b, off + 4, none⟩) hbB).trans (((hWV.mono hr.size).cell (p := ⟨b, off + 4, none⟩) hbB).trans d04), ((Fr.root hRV f).cell (p := ⟨b, off + 5, none⟩) hbB).trans (((hWV.mono hr.size).cell (p := ⟨b, off + 5, none⟩) hbB).trans d05)⟩)
  have R0 := Lib.hid (And.intro hRV (Fr.refl (SR mu mv) (w.alloc (.cells #[.int .i64 17, .int .i64 t.at_, .string t.name, .int .u64 t.num, .string t.op, .slice (some ⟨b, off, none⟩) 1 cap] 31))))
  have C1 := Lib.hid (fun (W : World) (ht : Lib.TabIs Tryd.prog W "strings.asciiSpace" .u8 Lib.asciiSpaceTab) => show Calls Tryd.prog 56 #[.string t.op, .string ⟨#[43, 43, 32, 45, 45]⟩] W (fun e w' => e = .returned (.bool (sg t.op wUpdate)) ∧ Below W.heap.size W w') from signs_calls W t.op wUpdate ht (by decide) (ascii_of (by decide +kernel)) (by decide +kernel))
  have C2 := Lib.hid (fun (W : World) (ht : Lib.TabIs Tryd.prog W "strings.asciiSpace" .u8 Lib.asciiSpaceTab) => show Calls Tryd.prog 56 #[.string t.name, .string ⟨#[112, 114, 101, 32, 112, 111, 115, 116]⟩] W (fun e w' => e = .returned (.bool (sg t.name wPrePost)) ∧ Below W.heap.size W w') from signs_calls W t.name wPrePost ht (by decide) (ascii_of (by decide +kernel)) (by decide +kernel))
  unfold RP
  clear hgo hr hd hk hWV hb8 N8 NP hRV
  have HE := Lib.hid (show (okM false) s = (false, s) from rfl)
  have D1 := Lib.hid (fun W ht => C1.out W ht)
  rw [hsg] at D1
  have D2 := Lib.hid (fun W ht => C2.out W ht)
  rw [hs2] at D2
  rw [HE.out]
  clear C1 C2
  clear hkind hkids hlen hsg hs2 hwf
  go_enter Tryd.func36, Tryd.ntmps36
  go_wp2_with (first | (go_at_call 56; (with_reducible refine (D1.out _ R0.out.1.tab.here).mono ?_); rintro e v1 ⟨rfl, bm⟩; have R1 := Lib.hid (And.intro (R0.out.1.fr bm) (R0.out.2.tr (Fr.of_below bm))); obtain ⟨x1_0, x1_1, x1_2, x1_3, x1_4, x1_5, x1_6, x1_7, x1_8, x1_9, x1_10, x1_11, x1_12, x1_13⟩ := KX.out _ R1.out.2; clear bm) | (go_at_call 56; (with_reducible refine (D2.out _ R1.out.1.tab.here).mono ?_); rintro e v2 ⟨rfl, bm⟩; have R2 := Lib.hid (And.intro (R1.out.1.fr bm) (R1.out.2.tr (Fr.of_below bm))); obtain ⟨x2_0, x2_1, x2_2, x2_3, x2_4, x2_5, x2_6, x2_7, x2_8, x2_9, x2_10, x2_11, x2_12, x2_13⟩ := KX.out _ R2.out.2; clear bm))
  go_ret
  exact ⟨rfl, R2.out.1, HFV.out.tr R2.out.2⟩
set_option maxRecDepth 100000 in
set_option maxHeartbeats 8000000 in
theorem ex17c {F : RF} {n : Nat} (G : GoodR F n) (w : World) (B pt mu mv : Nat) (nv : Value) (s : Pl) (t : Tr) (kv : Value) (gen : Bool) (hr : RW w B pt mu mv nv s) (hd : t.fitsD (n + 1) = true) (hwf : t.wf1) (hk : KidsAt w B kv t.kids) {ka : Tr} (hkind : t.kind = 17) (hkids : t.kids = [ka]) (hsg : sg t.op wUpdate = true) (hs2 : sg t.name wPrePost = true) (htg : target ka = false) :
    Calls Tryd.prog 36 #[.pointer (some ⟨pt, 0, none⟩), .agg #[.int .i64 t.kind, .int .i64 t.at_, .string t.name, .int .u64 t.num, .string t.op, kv], .bool gen] w (RP w B pt mu mv nv (exP F t gen s)) := by
  have hgo : exP F t gen s = (okM false) s := by unfold exP; rw [hkind, hkids]; simp [hsg, hs2, htg]
  rw [hgo]
  have hlen : t.kids.length = 1 := by rw [hkids]; rfl
  obtain ⟨A, cap, rfl, hcl, hcm, hA⟩ := hk.slice
  obtain ⟨b, off, rfl, hbB⟩ := hA (by omega)
  rw [hlen] at hk hcl ⊢
  clear hA
  rw [hkind]
  have hWV : Below w.heap.size w (w.alloc (.cells #[.int .i64 17, .int .i64 t.at_, .string t.name, .int .u64 t.num, .string t.op, .slice (some ⟨b, off, none⟩) 1 cap] 31)) := below_alloc (Below.refl _ _)
  have hRV : RW (w.alloc (.cells #[.int .i64 17, .int .i64 t.at_, .string t.name, .int .u64 t.num, .string t.op, .slice (some ⟨b, off, none⟩) 1 cap] 31)) B pt mu mv nv s := hr.fr hWV
  have HFV := Lib.hid (show Fr (SR mu mv) w (w.alloc (.cells #[.int .i64 17, .int .i64 t.at_, .string t.name, .int .u64 t.num, .string t.op, .slice (some ⟨b, off, none⟩) 1 cap] 31)) from Fr.of_below hWV)
  have hb8 : Blk (w.alloc (.cells #[.int .i64 17, .int .i64 t.at_, .string t.name, .int .u64 t.num, .string t.op, .slice (some ⟨b, off, none⟩) 1 cap] 31)) w.heap.size 31 #[.int .i64 17, .int .i64 t.at_, .string t.name, .int .u64 t.num, .string t.op, .slice (some ⟨b, off, none⟩) 1 cap] := Blk.new _ _ _
  have hpl := hr.blk.lt
  have hbw : b < w.heap.size := Nat.lt_of_lt_of_le hbB hr.size
  have hn1 : w.heap.size ≠ b := by omega
  have hn2 : w.heap.size ≠ pt := by omega
  have N8 := Fr.not_sr hRV hb8
  have NP := Fr.not_sr hRV hRV.blk
  obtain ⟨cpu, cpv⟩ := hr.cells
  have hi0 : t.kids[0]? = some ka := by rw [hkids]; rfl
  have hd0 := Tr.fitsD_kid hd (List.mem_of_getElem? hi0)
  obtain ⟨_, hw0, kv0, hn0, hs0⟩ := hk.kid hi0
  obtain ⟨Aka, capka, rfl, _, _, _⟩ := hs0.slice
  obtain ⟨d00, d01, d02, d03, d04, d05⟩ := kid_cells hn0 (off) (by omega)
  have KX := Lib.hid (fun w' (f : Fr (SR mu mv) (w.alloc (.cells #[.int .i64 17, .int .i64 t.at_, .string t.name, .int .u64 t.num, .string t.op, .slice (some ⟨b, off, none⟩) 1 cap] 31)) w') => show w'.cell? ⟨w.heap.size, 0, none⟩ = some (.int .i64 17) ∧ w'.cell? ⟨w.heap.size, 1, none⟩ = some (.int .i64 t.at_) ∧ w'.cell? ⟨w.heap.size, 2, none⟩ = some (.string t.name) ∧ w'.cell? ⟨w.heap.size, 3, none⟩ = some (.int .u64 t.num) ∧ w'.cell? ⟨w.heap.size, 4, none⟩ = some (.string t.op) ∧ w'.cell? ⟨w.heap.size, 5, none⟩ = some (.slice (some ⟨b, off, none⟩) 1 cap) ∧ w'.cell? ⟨pt, 0, none⟩ = some (.map (some mu)) ∧ w'.cell? ⟨pt, 1, none⟩ = some (.map (some mv)) ∧ w'.cell? ⟨b, off, none⟩ = some (.int .i64 ka.kind) ∧ w'.cell? ⟨b, off + 1, none⟩ = some (.int .i64 ka.at_) ∧ w'.cell? ⟨b, off + 2, none⟩ = some (.string ka.name) ∧ w'.cell? ⟨b, off + 3, none⟩ = some (.int .u64 ka.num) ∧ w'.cell? ⟨b, off + 4, none⟩ = some (.string ka.op) ∧ w'.cell? ⟨b, off + 5, none⟩ = some (.slice Aka ka.kids.length capka) from ⟨f.cell hb8 N8 0 rfl, f.cell hb8 N8 1 rfl, f.cell hb8 N8 2 rfl, f.cell hb8 N8 3 rfl, f.cell hb8 N8 4 rfl, f.cell hb8 N8 5 rfl, f.cell hRV.blk NP 0 rfl, f.cell hRV.blk NP 1 rfl, ((Fr.root hRV f).cell (p := ⟨b, off, none⟩) hbB).trans (((hWV.mono hr.size).cell (p := ⟨b, off, none⟩) hbB).trans d00), ((Fr.root hRV f).cell (p := ⟨b, off + 1, none⟩) hbB).trans (((hWV.mono hr.size).cell (p := ⟨b, off + 1, none⟩) hbB).trans d01), ((Fr.root hRV f).cell (p := ⟨b, off + 2, none⟩) hbB).trans (((hWV.mono hr.size).cell (p := ⟨b, off + 2, none⟩) hbB).trans d02), ((Fr.root hRV f).cell (p := ⟨b, off + 3, none⟩) hbB).trans (((hWV.mono hr.size).cell (p := ⟨b, off + 3, none⟩) hbB).trans d03), ((Fr.root hRV f).cell (p := ⟨b, off + 4, none⟩) hbB).trans (((hWV.mono hr.size).cell (p := ⟨b, off + 4, none⟩) hbB).trans d04), ((Fr.root hRV f).cell (p := ⟨b, off + 5, none⟩) hbB).trans (((hWV.mono hr.size).cell (p := ⟨b, off + 5, none⟩) hbB).trans d05)⟩)
  have R0 := Lib.hid (And.intro hRV (Fr.refl (SR mu mv) (w.alloc (.cells #[.int .i64 17, .int .i64 t.at_, .string t.name, .int .u64 t.num, .string t.op, .slice (some ⟨b, off, none⟩) 1 cap] 31))))
  have C1 := Lib.hid (fun (W : World) (ht : Lib.TabIs Tryd.prog W "strings.asciiSpace" .u8 Lib.asciiSpaceTab) => show Calls Tryd.prog 56 #[.string t.op, .string ⟨#[43, 43, 32, 45, 45]⟩] W (fun e w' => e = .returned (.bool (sg t.op wUpdate)) ∧ Below W.heap.size W w') from signs_calls W t.op wUpdate ht (by decide) (ascii_of (by decide +kernel)) (by decide +kernel))
  have C2 := Lib.hid (fun (W : World) (ht : Lib.TabIs Tryd.prog W "strings.asciiSpace" .u8 Lib.asciiSpaceTab) => show Calls Tryd.prog 56 #[.string t.name, .string ⟨#[112, 114, 101, 32, 112, 111, 115, 116]⟩] W (fun e w' => e = .returned (.bool (sg t.name wPrePost)) ∧ Below W.heap.size W w') from signs_calls W t.name wPrePost ht (by decide) (ascii_of (by decide +kernel)) (by decide +kernel))
  have C3 := Lib.hid (fun (W : World) (ht : Lib.TabIs Tryd.prog W "strings.asciiSpace" .u8 Lib.asciiSpaceTab) => show Calls Tryd.prog 57 #[.agg #[.int .i64 ka.kind, .int .i64 ka.at_, .string ka.name, .int .u64 ka.num, .string ka.op, .slice Aka ka.kids.length capka]] W (fun e w' => e = .returned (.bool (target ka)) ∧ Below W.heap.size W w') from target_calls W ka.kind (.int .i64 ka.at_) (.string ka.name) (.int .u64 ka.num) (.string ka.op) (.slice Aka ka.kids.length capka) rfl rfl rfl rfl rfl)
  unfold RP
  clear hgo hr hd hk hWV hb8 N8 NP hRV
  have HE := Lib.hid (show (okM false) s = (false, s) from rfl)
  have D1 := Lib.hid (fun W ht => C1.out W ht)
  rw [hsg] at D1
  have D2 := Lib.hid (fun W ht => C2.out W ht)
  rw [hs2] at D2
  have D3 := Lib.hid (fun W ht => C3.out W ht)
  rw [htg] at D3
  rw [HE.out]
  clear C1 C2 C3
  clear hkind hkids hlen hsg hs2 htg hwf
  go_enter Tryd.func36, Tryd.ntmps36
  go_wp2_with (first | (go_at_call 56; (with_reducible refine (D1.out _ R0.out.1.tab.here).mono ?_); rintro e v1 ⟨rfl, bm⟩; have R1 := Lib.hid (And.intro (R0.out.1.fr bm) (R0.out.2.tr (Fr.of_below bm))); obtain ⟨x1_0, x1_1, x1_2, x1_3, x1_4, x1_5, x1_6, x1_7, x1_8, x1_9, x1_10, x1_11, x1_12, x1_13⟩ := KX.out _ R1.out.2; clear bm) | (go_at_call 56; (with_reducible refine (D2.out _ R1.out.1.tab.here).mono ?_); rintro e v2 ⟨rfl, bm⟩; have R2 := Lib.hid (And.intro (R1.out.1.fr bm) (R1.out.2.tr (Fr.of_below bm))); obtain ⟨x2_0, x2_1, x2_2, x2_3, x2_4, x2_5, x2_6, x2_7, x2_8, x2_9, x2_10, x2_11, x2_12, x2_13⟩ := KX.out _ R2.out.2; clear bm) | (go_at_call 57; (with_reducible refine (D3.out _ R2.out.1.tab.here).mono ?_); rintro e v3 ⟨rfl, bm⟩; have R3 := Lib.hid (And.intro (R2.out.1.fr bm) (R2.out.2.tr (Fr.of_below bm))); obtain ⟨x3_0, x3_1, x3_2, x3_3, x3_4, x3_5, x3_6, x3_7, x3_8, x3_9, x3_10, x3_11, x3_12, x3_13⟩ := KX.out _ R3.out.2; clear bm))
  go_ret
  exact ⟨rfl, R3.out.1, HFV.out.tr R3.out.2⟩
set_option maxRecDepth 100000 in
set_option maxHeartbeats 8000000 in
theorem ex17 {F : RF} {n : Nat} (G : GoodR F n) (w : World) (B pt mu mv : Nat) (nv : Value) (s : Pl) (t : Tr) (kv : Value) (gen : Bool) (hr : RW w B pt mu mv nv s) (hd : t.fitsD (n + 1) = true) (hwf : t.wf1) (hk : KidsAt w B kv t.kids) {ka : Tr} (hkind : t.kind = 17) (hkids : t.kids = [ka]) (hsg : sg t.op wUpdate = true) (hs2 : sg t.name wPrePost = true) (htg : target ka = true) :
    Calls Tryd.prog 36 #[.pointer (some ⟨pt, 0, none⟩), .agg #[.int .i64 t.kind, .int .i64 t.at_, .string t.name, .int .u64 t.num, .string t.op, kv], .bool gen] w (RP w B pt mu mv nv (exP F t gen s)) := by
  have hgo : exP F t gen s = (exsM F t.kids gen) s := by unfold exP; rw [hkind, hkids]; simp [hsg, hs2, htg]
  rw [hgo]
  have hlen : t.kids.length = 1 := by rw [hkids]; rfl
  obtain ⟨A, cap, rfl, hcl, hcm, hA⟩ := hk.slice
  obtain ⟨b, off, rfl, hbB⟩ := hA (by omega)
  rw [hlen] at hk hcl ⊢
  clear hA
  rw [hkind]
  have hWV : Below w.heap.size w (w.alloc (.cells #[.int .i64 17, .int .i64 t.at_, .string t.name, .int .u64 t.num, .string t.op, .slice (some ⟨b, off, none⟩) 1 cap] 31)) := below_alloc (Below.refl _ _)
  have hRV : RW (w.alloc (.cells #[.int .i64 17, .int .i64 t.at_, .string t.name, .int .u64 t.num, .string t.op, .slice (some ⟨b, off, none⟩) 1 cap] 31)) B pt mu mv nv s := hr.fr hWV
  have HFV := Lib.hid (show Fr (SR mu mv) w (w.alloc (.cells #[.int .i64 17, .int .i64 t.at_, .string t.name, .int .u64 t.num, .string t.op, .slice (some ⟨b, off, none⟩) 1 cap] 31)) from Fr.of_below hWV)
  have hb8 : Blk (w.alloc (.cells #[.int .i64 17, .int .i64 t.at_, .string t.name, .int .u64 t.num, .string t.op, .slice (some ⟨b, off, none⟩) 1 cap] 31)) w.heap.size 31 #[.int .i64 17, .int .i64 t.at_, .string t.name, .int .u64 t.num, .string t.op, .slice (some ⟨b, off, none⟩) 1 cap] := Blk.new _ _ _
  have hpl := hr.blk.lt
  have hbw : b < w.heap.size := Nat.lt_of_lt_of_le hbB hr.size
  have hn1 : w.heap.size ≠ b := by omega
  have hn2 : w.heap.size ≠ pt := by omega
  have N8 := Fr.not_sr hRV hb8
  have NP := Fr.not_sr hRV hRV.blk
  obtain ⟨cpu, cpv⟩ := hr.cells
  have hi0 : t.kids[0]? = some ka := by rw [hkids]; rfl
  have hd0 := Tr.fitsD_kid hd (List.mem_of_getElem? hi0)
  obtain ⟨_, hw0, kv0, hn0, hs0⟩ := hk.kid hi0
  obtain ⟨Aka, capka, rfl, _, _, _⟩ := hs0.slice
  obtain ⟨d00, d01, d02, d03, d04, d05⟩ := kid_cells hn0 (off) (by omega)
  have KX := Lib.hid (fun w' (f : Fr (SR mu mv) (w.alloc (.cells #[.int .i64 17, .int .i64 t.at_, .string t.name, .int .u64 t.num, .string t.op, .slice (some ⟨b, off, none⟩) 1 cap] 31)) w') => show w'.cell? ⟨w.heap.size, 0, none⟩ = some (.int .i64 17) ∧ w'.cell? ⟨w.heap.size, 1, none⟩ = some (.int .i64 t.at_) ∧ w'.cell? ⟨w.heap.size, 2, none⟩ = some (.string t.name) ∧ w'.cell? ⟨w.heap.size, 3, none⟩ = some (.int .u64 t.num) ∧ w'.cell? ⟨w.heap.size, 4, none⟩ = some (.string t.op) ∧ w'.cell? ⟨w.heap.size, 5, none⟩ = some (.slice (some ⟨b, off, none⟩) 1 cap) ∧ w'.cell? ⟨pt, 0, none⟩ = some (.map (some mu)) ∧ w'.cell? ⟨pt, 1, none⟩ = some (.map (some mv)) ∧ w'.cell? ⟨b, off, none⟩ = some (.int .i64 ka.kind) ∧ w'.cell? ⟨b, off + 1, none⟩ = some (.int .i64 ka.at_) ∧ w'.cell? ⟨b, off + 2, none⟩ = some (.string ka.name) ∧ w'.cell? ⟨b, off + 3, none⟩ = some (.int .u64 ka.num) ∧ w'.cell? ⟨b, off + 4, none⟩ = some (.string ka.op) ∧ w'.cell? ⟨b, off + 5, none⟩ = some (.slice Aka ka.kids.length capka) from ⟨f.cell hb8 N8 0 rfl, f.cell hb8 N8 1 rfl, f.cell hb8 N8 2 rfl, f.cell hb8 N8 3 rfl, f.cell hb8 N8 4 rfl, f.cell hb8 N8 5 rfl, f.cell hRV.blk NP 0 rfl, f.cell hRV.blk NP 1 rfl, ((Fr.root hRV f).cell (p := ⟨b, off, none⟩) hbB).trans (((hWV.mono hr.size).cell (p := ⟨b, off, none⟩) hbB).trans d00), ((Fr.root hRV f).cell (p := ⟨b, off + 1, none⟩) hbB).trans (((hWV.mono hr.size).cell (p := ⟨b, off + 1, none⟩) hbB).trans d01), ((Fr.root hRV f).cell (p := ⟨b, off + 2, none⟩) hbB).trans (((hWV.mono hr.size).cell (p := ⟨b, off + 2, none⟩) hbB).trans d02), ((Fr.root hRV f).cell (p := ⟨b, off + 3, none⟩) hbB).trans (((hWV.mono hr.size).cell (p := ⟨b, off + 3, none⟩) hbB).trans d03), ((Fr.root hRV f).cell (p := ⟨b, off + 4, none⟩) hbB).trans (((hWV.mono hr.size).cell (p := ⟨b, off + 4, none⟩) hbB).trans d04), ((Fr.root hRV f).cell (p := ⟨b, off + 5, none⟩) hbB).trans (((hWV.mono hr.size).cell (p := ⟨b, off + 5, none⟩) hbB).trans d05)⟩)
  have R0 := Lib.hid (And.intro hRV (Fr.refl (SR mu mv) (w.alloc (.cells #[.int .i64 17, .int .i64 t.at_, .string t.name, .int .u64 t.num, .string t.op, .slice (some ⟨b, off, none⟩) 1 cap] 31))))
  have C1 := Lib.hid (fun (W : World) (ht : Lib.TabIs Tryd.prog W "strings.asciiSpace" .u8 Lib.asciiSpaceTab) => show Calls Tryd.prog 56 #[.string t.op, .string ⟨#[43, 43, 32, 45, 45]⟩] W (fun e w' => e = .returned (.bool (sg t.op wUpdate)) ∧ Below W.heap.size W w') from signs_calls W t.op wUpdate ht (by decide) (ascii_of (by decide +kernel)) (by decide +kernel))
  have C2 := Lib.hid (fun (W : World) (ht : Lib.TabIs Tryd.prog W "strings.asciiSpace" .u8 Lib.asciiSpaceTab) => show Calls Tryd.prog 56 #[.string t.name, .string ⟨#[112, 114, 101, 32, 112, 111, 115, 116]⟩] W (fun e w' => e = .returned (.bool (sg t.name wPrePost)) ∧ Below W.heap.size W w') from signs_calls W t.name wPrePost ht (by decide) (ascii_of (by decide +kernel)) (by decide +kernel))
  have C3 := Lib.hid (fun (W : World) (ht : Lib.TabIs Tryd.prog W "strings.asciiSpace" .u8 Lib.asciiSpaceTab) => show Calls Tryd.prog 57 #[.agg #[.int .i64 ka.kind, .int .i64 ka.at_, .string ka.name, .int .u64 ka.num, .string ka.op, .slice Aka ka.kids.length capka]] W (fun e w' => e = .returned (.bool (target ka)) ∧ Below W.heap.size W w') from target_calls W ka.kind (.int .i64 ka.at_) (.string ka.name) (.int .u64 ka.num) (.string ka.op) (.slice Aka ka.kids.length capka) rfl rfl rfl rfl rfl)
  have C4 := Lib.hid (fun W s1 (f : Fr (SR mu mv) (w.alloc (.cells #[.int .i64 17, .int .i64 t.at_, .string t.name, .int .u64 t.num, .string t.op, .slice (some ⟨b, off, none⟩) 1 cap] 31)) W) (r : RW W B pt mu mv nv s1) => show Calls Tryd.prog 55 #[.pointer (some ⟨pt, 0, none⟩), .slice (some ⟨b, off, none⟩) 1 cap, .bool gen] W (fun e w' => e = .returned (.bool ((exsM F t.kids gen) s1).1) ∧ RW w' B pt mu mv nv ((exsM F t.kids gen) s1).2 ∧ Fr (SR mu mv) (w.alloc (.cells #[.int .i64 17, .int .i64 t.at_, .string t.name, .int .u64 t.num, .string t.op, .slice (some ⟨b, off, none⟩) 1 cap] 31)) w') from (all_calls' G W B pt mu mv nv s1 t.kids _ cap gen 1 hlen r (fun k hk => Tr.fitsD_kid hd hk) (f.to hRV (hk.under (hWV.mono hr.size)))).mono fun e w' ⟨h1, h2, h3⟩ => ⟨h1, h2, f.tr h3⟩)
  unfold RP
  clear hgo hr hd hk hWV hb8 N8 NP hRV
  cases h1 : ((exsM F t.kids gen) s).1
  · have HE := Lib.hid (show (exsM F t.kids gen) s = (false, ((exsM F t.kids gen) s).2) from by exact Prod.ext h1 rfl)
    have D1 := Lib.hid (fun W ht => C1.out W ht)
    rw [hsg] at D1
    have D2 := Lib.hid (fun W ht => C2.out W ht)
    rw [hs2] at D2
    have D3 := Lib.hid (fun W ht => C3.out W ht)
    rw [htg] at D3
    have D4 := Lib.hid (fun W f r => C4.out W s f r)
    rw [h1] at D4
    rw [HE.out]
    clear C1 C2 C3 C4
    clear hkind hkids hlen hsg hs2 htg hwf h1
    go_enter Tryd.func36, Tryd.ntmps36
    go_wp2_with (first | (go_at_call 56; (with_reducible refine (D1.out _ R0.out.1.tab.here).mono ?_); rintro e v1 ⟨rfl, bm⟩; have R1 := Lib.hid (And.intro (R0.out.1.fr bm) (R0.out.2.tr (Fr.of_below bm))); obtain ⟨x1_0, x1_1, x1_2, x1_3, x1_4, x1_5, x1_6, x1_7, x1_8, x1_9, x1_10, x1_11, x1_12, x1_13⟩ := KX.out _ R1.out.2; clear bm) | (go_at_call 56; (with_reducible refine (D2.out _ R1.out.1.tab.here).mono ?_); rintro e v2 ⟨rfl, bm⟩; have R2 := Lib.hid (And.intro (R1.out.1.fr bm) (R1.out.2.tr (Fr.of_below bm))); obtain ⟨x2_0, x2_1, x2_2, x2_3, x2_4, x2_5, x2_6, x2_7, x2_8, x2_9, x2_10, x2_11, x2_12, x2_13⟩ := KX.out _ R2.out.2; clear bm) | (go_at_call 57; (with_reducible refine (D3.out _ R2.out.1.tab.here).mono ?_); rintro e v3 ⟨rfl, bm⟩; have R3 := Lib.hid (And.intro (R2.out.1.fr bm) (R2.out.2.tr (Fr.of_below bm))); obtain ⟨x3_0, x3_1, x3_2, x3_3, x3_4, x3_5, x3_6, x3_7, x3_8, x3_9, x3_10, x3_11, x3_12, x3_13⟩ := KX.out _ R3.out.2; clear bm) | (go_at_call 55; (with_reducible refine (D4.out _ R3.out.2 R3.out.1).mono ?_); rintro e v4 ⟨rfl, g1, g2⟩; have R4 := Lib.hid (And.intro g1 g2); obtain ⟨x4_0, x4_1, x4_2, x4_3, x4_4, x4_5, x4_6, x4_7, x4_8, x4_9, x4_10, x4_11, x4_12, x4_13⟩ := KX.out _ g2; clear g1 g2))
    go_ret
    exact ⟨rfl, R4.out.1, HFV.out.tr R4.out.2⟩
  · have HE := Lib.hid (show (exsM F t.kids gen) s = (true, ((exsM F t.kids gen) s).2) from by exact Prod.ext h1 rfl)
    have D1 := Lib.hid (fun W ht => C1.out W ht)
    rw [hsg] at D1
    have D2 := Lib.hid (fun W ht => C2.out W ht)
    rw [hs2] at D2
    have D3 := Lib.hid (fun W ht => C3.out W ht)
    rw [htg] at D3
    have D4 := Lib.hid (fun W f r => C4.out W s f r)
    rw [h1] at D4
    rw [HE.out]
    clear C1 C2 C3 C4
    clear hkind hkids hlen hsg hs2 htg hwf h1
    go_enter Tryd.func36, Tryd.ntmps36
    go_wp2_with (first | (go_at_call 56; (with_reducible refine (D1.out _ R0.out.1.tab.here).mono ?_); rintro e v1 ⟨rfl, bm⟩; have R1 := Lib.hid (And.intro (R0.out.1.fr bm) (R0.out.2.tr (Fr.of_below bm))); obtain ⟨x1_0, x1_1, x1_2, x1_3, x1_4, x1_5, x1_6, x1_7, x1_8, x1_9, x1_10, x1_11, x1_12, x1_13⟩ := KX.out _ R1.out.2; clear bm) | (go_at_call 56; (with_reducible refine (D2.out _ R1.out.1.tab.here).mono ?_); rintro e v2 ⟨rfl, bm⟩; have R2 := Lib.hid (And.intro (R1.out.1.fr bm) (R1.out.2.tr (Fr.of_below bm))); obtain ⟨x2_0, x2_1, x2_2, x2_3, x2_4, x2_5, x2_6, x2_7, x2_8, x2_9, x2_10, x2_11, x2_12, x2_13⟩ := KX.out _ R2.out.2; clear bm) | (go_at_call 57; (with_reducible refine (D3.out _ R2.out.1.tab.here).mono ?_); rintro e v3 ⟨rfl, bm⟩; have R3 := Lib.hid (And.intro (R2.out.1.fr bm) (R2.out.2.tr (Fr.of_below bm))); obtain ⟨x3_0, x3_1, x3_2, x3_3, x3_4, x3_5, x3_6, x3_7, x3_8, x3_9, x3_10, x3_11, x3_12, x3_13⟩ := KX.out _ R3.out.2; clear bm) | (go_at_call 55; (with_reducible refine (D4.out _ R3.out.2 R3.out.1).mono ?_); rintro e v4 ⟨rfl, g1, g2⟩; have R4 := Lib.hid (And.intro g1 g2); obtain ⟨x4_0, x4_1, x4_2, x4_3, x4_4, x4_5, x4_6, x4_7, x4_8, x4_9, x4_10, x4_11, x4_12, x4_13⟩ := KX.out _ g2; clear g1 g2))
    go_ret
    exact ⟨rfl, R4.out.1, HFV.out.tr R4.out.2⟩
set_option maxRecDepth 100000 in
set_option maxHeartbeats 8000000 in
theorem ex21a {F : RF} {n : Nat} (G : GoodR F n) (w : World) (B pt mu mv : Nat) (nv : Value) (s : Pl) (t : Tr) (kv : Value) (gen : Bool) (hr : RW w B pt mu mv nv s) (hd : t.fitsD (n + 1) = true) (hwf : t.wf1) (hk : KidsAt w B kv t.kids) {ka : Tr} {kb : Tr} (hkind : t.kind = 21) (hkids : t.kids = [ka, kb]) (hsg : sg t.op wAssign = false) :
    Calls Tryd.prog 36 #[.pointer (some ⟨pt, 0, none⟩), .agg #[.int .i64 t.kind, .int .i64 t.at_, .string t.name, .int .u64 t.num, .string t.op, kv], .bool gen] w (RP w B pt mu mv nv (exP F t gen s)) := by
  have hgo : exP F t gen s = (okM false) s := by unfold exP; rw [hkind, hkids]; simp [hsg]
  rw [hgo]
  have hlen : t.kids.length = 2 := by rw [hkids]; rfl
  obtain ⟨A, cap, rfl, hcl, hcm, hA⟩ := hk.slice
  obtain ⟨b, off, rfl, hbB⟩ := hA (by omega)
  rw [hlen] at hk hcl ⊢
  clear hA
  rw [hkind]
  have hWV : Below w.heap.size w (w.alloc (.cells #[.int .i64 21, .int .i64 t.at_, .string t.name, .int .u64 t.num, .string t.op, .slice (some ⟨b, off, none⟩) 2 cap] 31)) := below_alloc (Below.refl _ _)
  have hRV : RW (w.alloc (.cells #[.int .i64 21, .int .i64 t.at_, .string t.name, .int .u64 t.num, .string t.op, .slice (some ⟨b, off, none⟩) 2 cap] 31)) B pt mu mv nv s := hr.fr hWV
  have HFV := Lib.hid (show Fr (SR mu mv) w (w.alloc (.cells #[.int .i64 21, .int .i64 t.at_, .string t.name, .int .u64 t.num, .string t.op, .slice (some ⟨b, off, none⟩) 2 cap] 31)) from Fr.of_below hWV)
  have hb8 : Blk (w.alloc (.cells #[.int .i64 21, .int .i64 t.at_, .string t.name, .int .u64 t.num, .string t.op, .slice (some ⟨b, off, none⟩) 2 cap] 31)) w.heap.size 31 #[.int .i64 21, .int .i64 t.at_, .string t.name, .int .u64 t.num, .string t.op, .slice (some ⟨b, off, none⟩) 2 cap] := Blk.new _ _ _
  have hpl := hr.blk.lt
  have hbw : b < w.heap.size := Nat.lt_of_lt_of_le hbB hr.size
  have hn1 : w.heap.size ≠ b := by omega
  have hn2 : w.heap.size ≠ pt := by omega
  have N8 := Fr.not_sr hRV hb8
  have NP := Fr.not_sr hRV hRV.blk
  obtain ⟨cpu, cpv⟩ := hr.cells
  have hi0 : t.kids[0]? = some ka := by rw [hkids]; rfl
  have hd0 := Tr.fitsD_kid hd (List.mem_of_getElem? hi0)
  obtain ⟨_, hw0, kv0, hn0, hs0⟩ := hk.kid hi0
  obtain ⟨Aka, capka, rfl, _, _, _⟩ := hs0.slice
  obtain ⟨d00, d01, d02, d03, d04, d05⟩ := kid_cells hn0 (off) (by omega)
  have hi1 : t.kids[1]? = some kb := by rw [hkids]; rfl
  have hd1 := Tr.fitsD_kid hd (List.mem_of_getElem? hi1)
  obtain ⟨_, hw1, kv1, hn1, hs1⟩ := hk.kid hi1
  obtain ⟨Akb, capkb, rfl, _, _, _⟩ := hs1.slice
  obtain ⟨d10, d11, d12, d13, d14, d15⟩ := kid_cells hn1 (off + 6) (by omega)
  have KX := Lib.hid (fun w' (f : Fr (SR mu mv) (w.alloc (.cells #[.int .i64 21, .int .i64 t.at_, .string t.name, .int .u64 t.num, .string t.op, .slice (some ⟨b, off, none⟩) 2 cap] 31)) w') => show w'.cell? ⟨w.heap.size, 0, none⟩ = some (.int .i64 21) ∧ w'.cell? ⟨w.heap.size, 1, none⟩ = some (.int .i64 t.at_) ∧ w'.cell? ⟨w.heap.size, 2, none⟩ = some (.string t.name) ∧ w'.cell? ⟨w.heap.size, 3, none⟩ = some (.int .u64 t.num) ∧ w'.cell? ⟨w.heap.size, 4, none⟩ = some (.string t.op) ∧ w'.cell? ⟨w.heap.size, 5, none⟩ = some (.slice (some ⟨b, off, none⟩) 2 cap) ∧ w'.cell? ⟨pt, 0, none⟩ = some (.map (some mu)) ∧ w'.cell? ⟨pt, 1, none⟩ = some (.map (some mv)) ∧ w'.cell? ⟨b, off, none⟩ = some (.int .i64 ka.kind) ∧ w'.cell? ⟨b, off + 1, none⟩ = some (.int .i64 ka.at_) ∧ w'.cell? ⟨b, off + 2, none⟩ = some (.string ka.name) ∧ w'.cell? ⟨b, off + 3, none⟩ = some (.int .u64 ka.num) ∧ w'.cell? ⟨b, off + 4, none⟩ = some (.string ka.op) ∧ w'.cell? ⟨b, off + 5, none⟩ = some (.slice Aka ka.kids.length capka) ∧ w'.cell? ⟨b, off + 6, none⟩ = some (.int .i64 kb.kind) ∧ w'.cell? ⟨b, off + 7, none⟩ = some (.int .i64 kb.at_) ∧ w'.cell? ⟨b, off + 8, none⟩ = some (.string kb.name) ∧ w'.cell? ⟨b, off + 9, none⟩ = some (.int .u64 kb.num) ∧ w'.cell? ⟨b, off + 10, none⟩ = some (.string kb.op) ∧ w'.cell? ⟨b, off + 11, none⟩ = some (.slice Akb kb.kids.length capkb) from ⟨f.cell hb8 N8 0 rfl, f.cell hb8 N8 1 rfl, f.cell hb8 N8 2 rfl, f.cell hb8 N8 3 rfl, f.cell hb8 N8 4 rfl, f.cell hb8 N8 5 rfl, f.cell hRV.blk NP 0 rfl, f.cell hRV.blk NP 1 rfl, ((Fr.root hRV f).cell (p := ⟨b, off, none⟩) hbB).trans (((hWV.mono hr.size).cell (p := ⟨b, off, none⟩) hbB).trans d00), ((Fr.root hRV f).cell (p := ⟨b, off + 1, none⟩) hbB).trans (((hWV.mono hr.size).cell (p := ⟨b, off + 1, none⟩) hbB).trans d01), ((Fr.root hRV f).cell (p := ⟨b, off + 2, none⟩) hbB).trans (((hWV.mono hr.size).cell (p := ⟨b, off + 2, none⟩) hbB).trans d02), ((Fr.root hRV f).cell (p := ⟨b, off + 3, none⟩) hbB).trans (((hWV.mono hr.size).cell (p := ⟨b, off + 3, none⟩) hbB).trans d03), ((Fr.root hRV f).cell (p := ⟨b, off + 4, none⟩) hbB).trans (((hWV.mono hr.size).cell (p := ⟨b, off + 4, none⟩) hbB).trans d04), ((Fr.root hRV f).cell (p := ⟨b, off + 5, none⟩) hbB).trans (((hWV.mono hr.size).cell (p := ⟨b, off + 5, none⟩) hbB).trans d05), ((Fr.root hRV f).cell (p := ⟨b, off + 6, none⟩) hbB).trans (((hWV.mono hr.size).cell (p := ⟨b, off + 6, none⟩) hbB).trans d10), ((Fr.root hRV f).cell (p := ⟨b, off + 7, none⟩) hbB).trans (((hWV.mono hr.size).cell (p := ⟨b, off + 7, none⟩) hbB).trans d11), ((Fr.root hRV f).cell (p := ⟨b, off + 8, none⟩) hbB).trans (((hWV.mono hr.size).cell (p := ⟨b, off + 8, none⟩) hbB).trans d12), ((Fr.root hRV f).cell (p := ⟨b, off + 9, none⟩) hbB).trans (((hWV.mono hr.size).cell (p := ⟨b, off + 9, none⟩) hbB).trans d13), ((Fr.root hRV f).cell (p := ⟨b, off + 10, none⟩) hbB).trans (((hWV.mono hr.size).cell (p := ⟨b, off + 10, none⟩) hbB).trans d14), ((Fr.root hRV f).cell (p := ⟨b, off + 11, none⟩) hbB).trans (((hWV.mono hr.size).cell (p := ⟨b, off + 11, none⟩) hbB).trans d15)⟩)
  have R0 := Lib.hid (And.intro hRV (Fr.refl (SR mu mv) (w.alloc (.cells #[.int .i64 21, .int .i64 t.at_, .string t.name, .int .u64 t.num, .string t.op, .slice (some ⟨b, off, none⟩) 2 cap] 31))))
  have C1 := Lib.hid (fun (W : World) (ht : Lib.TabIs Tryd.prog W "strings.asciiSpace" .u8 Lib.asciiSpaceTab) => show Calls Tryd.prog 56 #[.string t.op, .string ⟨#[61, 32, 43, 61, 32, 45, 61, 32, 42, 61, 32, 47, 61, 32, 37, 61, 32, 60, 60, 61, 32, 62, 62, 61, 32, 62, 62, 62, 61, 32, 38, 61, 32, 124, 61, 32, 94, 61]⟩] W (fun e w' => e = .returned (.bool (sg t.op wAssign)) ∧ Below W.heap.size W w') from signs_calls W t.op wAssign ht (by decide) (ascii_of (by decide +kernel)) (by decide +kernel))
  unfold RP
  clear hgo hr hd hk hWV hb8 N8 NP hRV
  have HE := Lib.hid (show (okM false) s = (false, s) from rfl)
  have D1 := Lib.hid (fun W ht => C1.out W ht)
  rw [hsg] at D1
  rw [HE.out]
  clear C1
  clear hkind hkids hlen hsg hwf
  go_enter Tryd.func36, Tryd.ntmps36
  go_wp2_with (first | (go_at_call 56; (with_reducible refine (D1.out _ R0.out.1.tab.here).mono ?_); rintro e v1 ⟨rfl, bm⟩; have R1 := Lib.hid (And.intro (R0.out.1.fr bm) (R0.out.2.tr (Fr.of_below bm))); obtain ⟨x1_0, x1_1, x1_2, x1_3, x1_4, x1_5, x1_6, x1_7, x1_8, x1_9, x1_10, x1_11, x1_12, x1_13, x1_14, x1_15, x1_16, x1_17, x1_18, x1_19⟩ := KX.out _ R1.out.2; clear bm))
  go_ret
  exact ⟨rfl, R1.out.1, HFV.out.tr R1.out.2⟩
set_option maxRecDepth 100000 in
set_option maxHeartbeats 8000000 in
theorem ex21b {F : RF} {n : Nat} (G : GoodR F n) (w : World) (B pt mu mv : Nat) (nv : Value) (s : Pl) (t : Tr) (kv : Value) (gen : Bool) (hr : RW w B pt mu mv nv s) (hd : t.fitsD (n + 1) = true) (hwf : t.wf1) (hk : KidsAt w B kv t.kids) {ka : Tr} {kb : Tr} (hkind : t.kind = 21) (hkids : t.kids = [ka, kb]) (hsg : sg t.op wAssign = true) (htg : target ka = false) :
    Calls Tryd.prog 36 #[.pointer (some ⟨pt, 0, none⟩), .agg #[.int .i64 t.kind, .int .i64 t.at_, .string t.name, .int .u64 t.num, .string t.op, kv], .bool gen] w (RP w B pt mu mv nv (exP F t gen s)) := by
  have hgo : exP F t gen s = (okM false) s := by unfold exP; rw [hkind, hkids]; simp [hsg, htg]
  rw [hgo]
  have hlen : t.kids.length = 2 := by rw [hkids]; rfl
  obtain ⟨A, cap, rfl, hcl, hcm, hA⟩ := hk.slice
  obtain ⟨b, off, rfl, hbB⟩ := hA (by omega)
  rw [hlen] at hk hcl ⊢
  clear hA
  rw [hkind]
  have hWV : Below w.heap.size w (w.alloc (.cells #[.int .i64 21, .int .i64 t.at_, .string t.name, .int .u64 t.num, .string t.op, .slice (some ⟨b, off, none⟩) 2 cap] 31)) := below_alloc (Below.refl _ _)
  have hRV : RW (w.alloc (.cells #[.int .i64 21, .int .i64 t.at_, .string t.name, .int .u64 t.num, .string t.op, .slice (some ⟨b, off, none⟩) 2 cap] 31)) B pt mu mv nv s := hr.fr hWV
  have HFV := Lib.hid (show Fr (SR mu mv) w (w.alloc (.cells #[.int .i64 21, .int .i64 t.at_, .string t.name, .int .u64 t.num, .string t.op, .slice (some ⟨b, off, none⟩) 2 cap] 31)) from Fr.of_below hWV)
  have hb8 : Blk (w.alloc (.cells #[.int .i64 21, .int .i64 t.at_, .string t.name, .int .u64 t.num, .string t.op, .slice (some ⟨b, off, none⟩) 2 cap] 31)) w.heap.size 31 #[.int .i64 21, .int .i64 t.at_, .string t.name, .int .u64 t.num, .string t.op, .slice (some ⟨b, off, none⟩) 2 cap] := Blk.new _ _ _
  have hpl := hr.blk.lt
  have hbw : b < w.heap.size := Nat.lt_of_lt_of_le hbB hr.size
  have hn1 : w.heap.size ≠ b := by omega
  have hn2 : w.heap.size ≠ pt := by omega
  have N8 := Fr.not_sr hRV hb8
  have NP := Fr.not_sr hRV hRV.blk
  obtain ⟨cpu, cpv⟩ := hr.cells
  have hi0 : t.kids[0]? = some ka := by rw [hkids]; rfl
  have hd0 := Tr.fitsD_kid hd (List.mem_of_getElem? hi0)
  obtain ⟨_, hw0, kv0, hn0, hs0⟩ := hk.kid hi0
  obtain ⟨Aka, capka, rfl, _, _, _⟩ := hs0.slice
  obtain ⟨d00, d01, d02, d03, d04, d05⟩ := kid_cells hn0 (off) (by omega)
  have hi1 : t.kids[1]? = some kb := by rw [hkids]; rfl
  have hd1 := Tr.fitsD_kid hd (List.mem_of_getElem? hi1)
  obtain ⟨_, hw1, kv1, hn1, hs1⟩ := hk.kid hi1
  obtain ⟨Akb, capkb, rfl, _, _, _⟩ := hs1.slice
  obtain ⟨d10, d11, d12, d13, d14, d15⟩ := kid_cells hn1 (off + 6) (by omega)
  have KX := Lib.hid (fun w' (f : Fr (SR mu mv) (w.alloc (.cells #[.int .i64 21, .int .i64 t.at_, .string t.name, .int .u64 t.num, .string t.op, .slice (some ⟨b, off, none⟩) 2 cap] 31)) w') => show w'.cell? ⟨w.heap.size, 0, none⟩ = some (.int .i64 21) ∧ w'.cell? ⟨w.heap.size, 1, none⟩ = some (.int .i64 t.at_) ∧ w'.cell? ⟨w.heap.size, 2, none⟩ = some (.string t.name) ∧ w'.cell? ⟨w.heap.size, 3, none⟩ = some (.int .u64 t.num) ∧ w'.cell? ⟨w.heap.size, 4, none⟩ = some (.string t.op) ∧ w'.cell? ⟨w.heap.size, 5, none⟩ = some (.slice (some ⟨b, off, none⟩) 2 cap) ∧ w'.cell? ⟨pt, 0, none⟩ = some (.map (some mu)) ∧ w'.cell? ⟨pt, 1, none⟩ = some (.map (some mv)) ∧ w'.cell? ⟨b, off, none⟩ = some (.int .i64 ka.kind) ∧ w'.cell? ⟨b, off + 1, none⟩ = some (.int .i64 ka.at_) ∧ w'.cell? ⟨b, off + 2, none⟩ = some (.string ka.name) ∧ w'.cell? ⟨b, off + 3, none⟩ = some (.int .u64 ka.num) ∧ w'.cell? ⟨b, off + 4, none⟩ = some (.string ka.op) ∧ w'.cell? ⟨b, off + 5, none⟩ = some (.slice Aka ka.kids.length capka) ∧ w'.cell? ⟨b, off + 6, none⟩ = some (.int .i64 kb.kind) ∧ w'.cell? ⟨b, off + 7, none⟩ = some (.int .i64 kb.at_) ∧ w'.cell? ⟨b, off + 8, none⟩ = some (.string kb.name) ∧ w'.cell? ⟨b, off + 9, none⟩ = some (.int .u64 kb.num) ∧ w'.cell? ⟨b, off + 10, none⟩ = some (.string kb.op) ∧ w'.cell? ⟨b, off + 11, none⟩ = some (.slice Akb kb.kids.length capkb) from ⟨f.cell hb8 N8 0 rfl, f.cell hb8 N8 1 rfl, f.cell hb8 N8 2 rfl, f.cell hb8 N8 3 rfl, f.cell hb8 N8 4 rfl, f.cell hb8 N8 5 rfl, f.cell hRV.blk NP 0 rfl, f.cell hRV.blk NP 1 rfl, ((Fr.root hRV f).cell (p := ⟨b, off, none⟩) hbB).trans (((hWV.mono hr.size).cell (p := ⟨b, off, none⟩) hbB).trans d00), ((Fr.root hRV f).cell (p := ⟨b, off + 1, none⟩) hbB).trans (((hWV.mono hr.size).cell (p := ⟨b, off + 1, none⟩) hbB).trans d01), ((Fr.root hRV f).cell (p := ⟨b, off + 2, none⟩) hbB).trans (((hWV.mono hr.size).cell (p := ⟨b, off + 2, none⟩) hbB).trans d02), ((Fr.root hRV f).cell (p := ⟨b, off + 3, none⟩) hbB).trans (((hWV.mono hr.size).cell (p := ⟨b, off + 3, none⟩) hbB).trans d03), ((Fr.root hRV f).cell (p := ⟨b, off + 4, none⟩) hbB).trans (((hWV.mono hr.size).cell (p := ⟨b, off + 4, none⟩) hbB).trans d04), ((Fr.root hRV f).cell (p := ⟨b, off + 5, none⟩) hbB).trans (((hWV.mono hr.size).cell (p := ⟨b, off + 5, none⟩) hbB).trans d05), ((Fr.root hRV f).cell (p := ⟨b, off + 6, none⟩) hbB).trans (((hWV.mono hr.size).cell (p := ⟨b, off + 6, none⟩) hbB).trans d10), ((Fr.root hRV f).cell (p := ⟨b, off + 7, none⟩) hbB).trans (((hWV.mono hr.size).cell (p := ⟨b, off + 7, none⟩) hbB).trans d11), ((Fr.root hRV f).cell (p := ⟨b, off + 8, none⟩) hbB).trans (((hWV.mono hr.size).cell (p := ⟨b, off + 8, none⟩) hbB).trans d12), ((Fr.root hRV f).cell (p := ⟨b, off + 9, none⟩) hbB).trans (((hWV.mono hr.size).cell (p := ⟨b, off + 9, none⟩) hbB).trans d13), ((Fr.root hRV f).cell (p := ⟨b, off + 10, none⟩) hbB).trans (((hWV.mono hr.size).cell (p := ⟨b, off + 10, none⟩) hbB).trans d14), ((Fr.root hRV f).cell (p := ⟨b, off + 11, none⟩) hbB).trans (((hWV.mono hr.size).cell (p := ⟨b, off + 11, none⟩) hbB).trans d15)⟩)
  have R0 := Lib.hid (And.intro hRV (Fr.refl (SR mu mv) (w.alloc (.cells #[.int .i64 21, .int .i64 t.at_, .string t.name, .int .u64 t.num, .string t.op, .slice (some ⟨b, off, none⟩) 2 cap] 31))))
  have C1 := Lib.hid (fun (W : World) (ht : Lib.TabIs Tryd.prog W "strings.asciiSpace" .u8 Lib.asciiSpaceTab) => show Calls Tryd.prog 56 #[.string t.op, .string ⟨#[61, 32, 43, 61, 32, 45, 61, 32, 42, 61, 32, 47, 61, 32, 37, 61, 32, 60, 60, 61, 32, 62, 62, 61, 32, 62, 62, 62, 61, 32, 38, 61, 32, 124, 61, 32, 94, 61]⟩] W (fun e w' => e = .returned (.bool (sg t.op wAssign)) ∧ Below W.heap.size W w') from signs_calls W t.op wAssign ht (by decide) (ascii_of (by decide +kernel)) (by decide +kernel))
  have C2 := Lib.hid (fun (W : World) (ht : Lib.TabIs Tryd.prog W "strings.asciiSpace" .u8 Lib.asciiSpaceTab) => show Calls Tryd.prog 57 #[.agg #[.int .i64 ka.kind, .int .i64 ka.at_, .string ka.name, .int .u64 ka.num, .string ka.op, .slice Aka ka.kids.length capka]] W (fun e w' => e = .returned (.bool (target ka)) ∧ Below W.heap.size W w') from target_calls W ka.kind (.int .i64 ka.at_) (.string ka.name) (.int .u64 ka.num) (.string ka.op) (.slice Aka ka.kids.length capka) rfl rfl rfl rfl rfl)
  unfold RP
  clear hgo hr hd hk hWV hb8 N8 NP hRV
  have HE := Lib.hid (show (okM false) s = (false, s) from rfl)
  have D1 := Lib.hid (fun W ht => C1.out W ht)
  rw [hsg] at D1
  have D2 := Lib.hid (fun W ht => C2.out W ht)
  rw [htg] at D2
  rw [HE.out]
  clear C1 C2
  clear hkind hkids hlen hsg htg hwf
  go_enter Tryd.func36, Tryd.ntmps36
  go_wp2_with (first | (go_at_call 56; (with_reducible refine (D1.out _ R0.out.1.tab.here).mono ?_); rintro e v1 ⟨rfl, bm⟩; have R1 := Lib.hid (And.intro (R0.out.1.fr bm) (R0.out.2.tr (Fr.of_below bm))); obtain ⟨x1_0, x1_1, x1_2, x1_3, x1_4, x1_5, x1_6, x1_7, x1_8, x1_9, x1_10, x1_11, x1_12, x1_13, x1_14, x1_15, x1_16, x1_17, x1_18, x1_19⟩ := KX.out _ R1.out.2; clear bm) | (go_at_call 57; (with_reducible refine (D2.out _ R1.out.1.tab.here).mono ?_); rintro e v2 ⟨rfl, bm⟩; have R2 := Lib.hid (And.intro (R1.out.1.fr bm) (R1.out.2.tr (Fr.of_below bm))); obtain ⟨x2_0, x2_1, x2_2, x2_3, x2_4, x2_5, x2_6, x2_7, x2_8, x2_9, x2_10, x2_11, x2_12, x2_13, x2_14, x2_15, x2_16, x2_17, x2_18, x2_19⟩ := KX.out _ R2.out.2; clear bm))
  go_ret
  exact ⟨rfl, R2.out.1, HFV.out.tr R2.out.2⟩
set_option maxRecDepth 100000 in
set_option maxHeartbeats 8000000 in
theorem ex21 {F : RF} {n : Nat} (G : GoodR F n) (w : World) (B pt mu mv : Nat) (nv : Value) (s : Pl) (t : Tr) (kv : Value) (gen : Bool) (hr : RW w B pt mu mv nv s) (hd : t.fitsD (n + 1) = true) (hwf : t.wf1) (hk : KidsAt w B kv t.kids) {ka : Tr} {kb : Tr} (hkind : t.kind = 21) (hkids : t.kids = [ka, kb]) (hsg : sg t.op wAssign = true) (htg : target ka = true) :
    Calls Tryd.prog 36 #[.pointer (some ⟨pt, 0, none⟩), .agg #[.int .i64 t.kind, .int .i64 t.at_, .string t.name, .int .u64 t.num, .string t.op, kv], .bool gen] w (RP w B pt mu mv nv (exP F t gen s)) := by
  have hgo : exP F t gen s = (exsM F t.kids gen) s := by unfold exP; rw [hkind, hkids]; simp [hsg, htg]
  rw [hgo]
  have hlen : t.kids.length = 2 := by rw [hkids]; rfl
  obtain ⟨A, cap, rfl, hcl, hcm, hA⟩ := hk.slice
  obtain ⟨b, off, rfl, hbB⟩ := hA (by omega)
  rw [hlen] at hk hcl ⊢
  clear hA
  rw [hkind]
  have hWV : Below w.heap.size w (w.alloc (.cells #[.int .i64 21, .int .i64 t.at_, .string t.name, .int .u64 t.num, .string t.op, .slice (some ⟨b, off, none⟩) 2 cap] 31)) := below_alloc (Below.refl _ _)
  have hRV : RW (w.alloc (.cells #[.int .i64 21, .int .i64 t.at_, .string t.name, .int .u64 t.num, .string t.op, .slice (some ⟨b, off, none⟩) 2 cap] 31)) B pt mu mv nv s := hr.fr hWV
  have HFV := Lib.hid (show Fr (SR mu mv) w (w.alloc (.cells #[.int .i64 21, .int .i64 t.at_, .string t.name, .int .u64 t.num, .string t.op, .slice (some ⟨b, off, none⟩) 2 cap] 31)) from Fr.of_below hWV)
  have hb8 : Blk (w.alloc (.cells #[.int .i64 21, .int .i64 t.at_, .string t.name, .int .u64 t.num, .string t.op, .slice (some ⟨b, off, none⟩) 2 cap] 31)) w.heap.size 31 #[.int .i64 21, .int .i64 t.at_, .string t.name, .int .u64 t.num, .string t.op, .slice (some ⟨b, off, none⟩) 2 cap] := Blk.new _ _ _
  have hpl := hr.blk.lt
  have hbw : b < w.heap.size := Nat.lt_of_lt_of_le hbB hr.size
  have hn1 : w.heap.size ≠ b := by omega
  have hn2 : w.heap.size ≠ pt := by omega
  have N8 := Fr.not_sr hRV hb8
  have NP := Fr.not_sr hRV hRV.blk
  obtain ⟨cpu, cpv⟩ := hr.cells
  have hi0 : t.kids[0]? = some ka := by rw [hkids]; rfl
  have hd0 := Tr.fitsD_kid hd (List.mem_of_getElem? hi0)
  obtain ⟨_, hw0, kv0, hn0, hs0⟩ := hk.kid hi0
  obtain ⟨Aka, capka, rfl, _, _, _⟩ := hs0.slice
  obtain ⟨d00, d01, d02, d03, d04, d05⟩ := kid_cells hn0 (off) (by omega)
  have hi1 : t.kids[1]? = some kb := by rw [hkids]; rfl
  have hd1 := Tr.fitsD_kid hd (List.mem_of_getElem? hi1)
  obtain ⟨_, hw1, kv1, hn1, hs1⟩ := hk.kid hi1
  obtain ⟨Akb, capkb, rfl, _, _, _⟩ := hs1.slice
  obtain ⟨d10, d11, d12, d13, d14, d15⟩ := kid_cells hn1 (off + 6) (by omega)
  have KX := Lib.hid (fun w' (f : Fr (SR mu mv) (w.alloc (.cells #[.int .i64 21, .int .i64 t.at_, .string t.name, .int .u64 t.num, .string t.op, .slice (some ⟨b, off, none⟩) 2 cap] 31)) w') => show w'.cell? ⟨w.heap.size, 0, none⟩ = some (.int .i64 21) ∧ w'.cell? ⟨w.heap.size, 1, none⟩ = some (.int .i64 t.at_) ∧ w'.cell? ⟨w.heap.size, 2, none⟩ = some (.string t.name) ∧ w'.cell? ⟨w.heap.size, 3, none⟩ = some (.int .u64 t.num) ∧ w'.cell? ⟨w.heap.size, 4, none⟩ = some (.string t.op) ∧ w'.cell? ⟨w.heap.size, 5, none⟩ = some (.slice (some ⟨b, off, none⟩) 2 cap) ∧ w'.cell? ⟨pt, 0, none⟩ = some (.map (some mu)) ∧ w'.cell? ⟨pt, 1, none⟩ = some (.map (some mv)) ∧ w'.cell? ⟨b, off, none⟩ = some (.int .i64 ka.kind) ∧ w'.cell? ⟨b, off + 1, none⟩ = some (.int .i64 ka.at_) ∧ w'.cell? ⟨b, off + 2, none⟩ = some (.string ka.name) ∧ w'.cell? ⟨b, off + 3, none⟩ = some (.int .u64 ka.num) ∧ w'.cell? ⟨b, off + 4, none⟩ = some (.string ka.op) ∧ w'.cell? ⟨b, off + 5, none⟩ = some (.slice Aka ka.kids.length capka) ∧ w'.cell? ⟨b, off + 6, none⟩ = some (.int .i64 kb.kind) ∧ w'.cell? ⟨b, off + 7, none⟩ = some (.int .i64 kb.at_) ∧ w'.cell? ⟨b, off + 8, none⟩ = some (.string kb.name) ∧ w'.cell? ⟨b, off + 9, none⟩ = some (.int .u64 kb.num) ∧ w'.cell? ⟨b, off + 10, none⟩ = some (.string kb.op) ∧ w'.cell? ⟨b, off + 11, none⟩ = some (.slice Akb kb.kids.length capkb) from ⟨f.cell hb8 N8 0 rfl, f.cell hb8 N8 1 rfl, f.cell hb8 N8 2 rfl, f.cell hb8 N8 3 rfl, f.cell hb8 N8 4 rfl, f.cell hb8 N8 5 rfl, f.cell hRV.blk NP 0 rfl, f.cell hRV.blk NP 1 rfl, ((Fr.root hRV f).cell (p := ⟨b, off, none⟩) hbB).trans (((hWV.mono hr.size).cell (p := ⟨b, off, none⟩) hbB).trans d00), ((Fr.root hRV f).cell (p := ⟨b, off + 1, none⟩) hbB).trans (((hWV.mono hr.size).cell (p := ⟨b, off + 1, none⟩) hbB).trans d01), ((Fr.root hRV f).cell (p := ⟨b, off + 2, none⟩) hbB).trans (((hWV.mono hr.size).cell (p := ⟨b, off + 2, none⟩) hbB).trans d02), ((Fr.root hRV f).cell (p := ⟨b, off + 3, none⟩) hbB).trans (((hWV.mono hr.size).cell (p := ⟨b, off + 3, none⟩) hbB).trans d03), ((Fr.root hRV f).cell (p := ⟨b, off + 4, none⟩) hbB).trans (((hWV.mono hr.size).cell (p := ⟨b, off + 4, none⟩) hbB).trans d04), ((Fr.root hRV f).cell (p := ⟨b, off + 5, none⟩) hbB).trans (((hWV.mono hr.size).cell (p := ⟨b, off + 5, none⟩) hbB).trans d05), ((Fr.root hRV f).cell (p := ⟨b, off + 6, none⟩) hbB).trans (((hWV.mono hr.size).cell (p := ⟨b, off + 6, none⟩) hbB).trans d10), ((Fr.root hRV f).cell (p := ⟨b, off + 7, none⟩) hbB).trans (((hWV.mono hr.size).cell (p := ⟨b, off + 7, none⟩) hbB).trans d11), ((Fr.root hRV f).cell (p := ⟨b, off + 8, none⟩) hbB).trans (((hWV.mono hr.size).cell (p := ⟨b, off + 8, none⟩) hbB).trans d12), ((Fr.root hRV f).cell (p := ⟨b, off + 9, none⟩) hbB).trans (((hWV.mono hr.size).cell (p := ⟨b, off + 9, none⟩) hbB).trans d13), ((Fr.root hRV f).cell (p := ⟨b, off + 10, none⟩) hbB).trans (((hWV.mono hr.size).cell (p := ⟨b, off + 10, none⟩) hbB).trans d14), ((Fr.root hRV f).cell (p := ⟨b, off + 11, none⟩) hbB).trans (((hWV.mono hr.size).cell (p := ⟨b, off + 11, none⟩) hbB).trans d15)⟩)
  have R0 := Lib.hid (And.intro hRV (Fr.refl (SR mu mv) (w.alloc (.cells #[.int .i64 21, .int .i64 t.at_, .string t.name, .int .u64 t.num, .string t.op, .slice (some ⟨b, off, none⟩) 2 cap] 31))))
  have C1 := Lib.hid (fun (W : World) (ht : Lib.TabIs Tryd.prog W "strings.asciiSpace" .u8 Lib.asciiSpaceTab) => show Calls Tryd.prog 56 #[.string t.op, .string ⟨#[61, 32, 43, 61, 32, 45, 61, 32, 42, 61, 32, 47, 61, 32, 37, 61, 32, 60, 60, 61, 32, 62, 62, 61, 32, 62, 62, 62, 61, 32, 38, 61, 32, 124, 61, 32, 94, 61]⟩] W (fun e w' => e = .returned (.bool (sg t.op wAssign)) ∧ Below W.heap.size W w') from signs_calls W t.op wAssign ht (by decide) (ascii_of (by decide +kernel)) (by decide +kernel))
  have C2 := Lib.hid (fun (W : World) (ht : Lib.TabIs Tryd.prog W "strings.asciiSpace" .u8 Lib.asciiSpaceTab) => show Calls Tryd.prog 57 #[.agg #[.int .i64 ka.kind, .int .i64 ka.at_, .string ka.name, .int .u64 ka.num, .string ka.op, .slice Aka ka.kids.length capka]] W (fun e w' => e = .returned (.bool (target ka)) ∧ Below W.heap.size W w') from target_calls W ka.kind (.int .i64 ka.at_) (.string ka.name) (.int .u64 ka.num) (.string ka.op) (.slice Aka ka.kids.length capka) rfl rfl rfl rfl rfl)
  have C3 := Lib.hid (fun W s1 (f : Fr (SR mu mv) (w.alloc (.cells #[.int .i64 21, .int .i64 t.at_, .string t.name, .int .u64 t.num, .string t.op, .slice (some ⟨b, off, none⟩) 2 cap] 31)) W) (r : RW W B pt mu mv nv s1) => show Calls Tryd.prog 55 #[.pointer (some ⟨pt, 0, none⟩), .slice (some ⟨b, off, none⟩) 2 cap, .bool gen] W (fun e w' => e = .returned (.bool ((exsM F t.kids gen) s1).1) ∧ RW w' B pt mu mv nv ((exsM F t.kids gen) s1).2 ∧ Fr (SR mu mv) (w.alloc (.cells #[.int .i64 21, .int .i64 t.at_, .string t.name, .int .u64 t.num, .string t.op, .slice (some ⟨b, off, none⟩) 2 cap] 31)) w') from (all_calls' G W B pt mu mv nv s1 t.kids _ cap gen 2 hlen r (fun k hk => Tr.fitsD_kid hd hk) (f.to hRV (hk.under (hWV.mono hr.size)))).mono fun e w' ⟨h1, h2, h3⟩ => ⟨h1, h2, f.tr h3⟩)
  unfold RP
  clear hgo hr hd hk hWV hb8 N8 NP hRV
  cases h1 : ((exsM F t.kids gen) s).1
  · have HE := Lib.hid (show (exsM F t.kids gen) s = (false, ((exsM F t.kids gen) s).2) from by exact Prod.ext h1 rfl)
    have D1 := Lib.hid (fun W ht => C1.out W ht)
    rw [hsg] at D1
    have D2 := Lib.hid (fun W ht => C2.out W ht)
    rw [htg] at D2
    have D3 := Lib.hid (fun W f r => C3.out W s f r)
    rw [h1] at D3
    rw [HE.out]
    clear C1 C2 C3
    clear hkind hkids hlen hsg htg hwf h1
    go_enter Tryd.func36, Tryd.ntmps36
    go_wp2_with (first | (go_at_call 56; (with_reducible refine (D1.out _ R0.out.1.tab.here).mono ?_); rintro e v1 ⟨rfl, bm⟩; have R1 := Lib.hid (And.intro (R0.out.1.fr bm) (R0.out.2.tr (Fr.of_below bm))); obtain ⟨x1_0, x1_1, x1_2, x1_3, x1_4, x1_5, x1_6, x1_7, x1_8, x1_9, x1_10, x1_11, x1_12, x1_13, x1_14, x1_15, x1_16, x1_17, x1_18, x1_19⟩ := KX.out _ R1.out.2; clear bm) | (go_at_call 57; (with_reducible refine (D2.out _ R1.out.1.tab.here).mono ?_); rintro e v2 ⟨rfl, bm⟩; have R2 := Lib.hid (And.intro (R1.out.1.fr bm) (R1.out.2.tr (Fr.of_below bm))); obtain ⟨x2_0, x2_1, x2_2, x2_3, x2_4, x2_5, x2_6, x2_7, x2_8, x2_9, x2_10, x2_11, x2_12, x2_13, x2_14, x2_15, x2_16, x2_17, x2_18, x2_19⟩ := KX.out _ R2.out.2; clear bm) | (go_at_call 55; (with_reducible refine (D3.out _ R2.out.2 R2.out.1).mono ?_); rintro e v3 ⟨rfl, g1, g2⟩; have R3 := Lib.hid (And.intro g1 g2); obtain ⟨x3_0, x3_1, x3_2, x3_3, x3_4, x3_5, x3_6, x3_7, x3_8, x3_9, x3_10, x3_11, x3_12, x3_13, x3_14, x3_15, x3_16, x3_17, x3_18, x3_19⟩ := KX.out _ g2; clear g1 g2))
    go_ret
    exact ⟨rfl, R3.out.1, HFV.out.tr R3.out.2⟩
  · have HE := Lib.hid (show (exsM F t.kids gen) s = (true, ((exsM F t.kids gen) s).2) from by exact Prod.ext h1 rfl)
    have D1 := Lib.hid (fun W ht => C1.out W ht)
    rw [hsg] at D1
    have D2 := Lib.hid (fun W ht => C2.out W ht)
    rw [htg] at D2
    have D3 := Lib.hid (fun W f r => C3.out W s f r)
    rw [h1] at D3
    rw [HE.out]
    clear C1 C2 C3
    clear hkind hkids hlen hsg htg hwf h1
    go_enter Tryd.func36, Tryd.ntmps36
    go_wp2_with (first | (go_at_call 56; (with_reducible refine (D1.out _ R0.out.1.tab.here).mono ?_); rintro e v1 ⟨rfl, bm⟩; have R1 := Lib.hid (And.intro (R0.out.1.fr bm) (R0.out.2.tr (Fr.of_below bm))); obtain ⟨x1_0, x1_1, x1_2, x1_3, x1_4, x1_5, x1_6, x1_7, x1_8, x1_9, x1_10, x1_11, x1_12, x1_13, x1_14, x1_15, x1_16, x1_17, x1_18, x1_19⟩ := KX.out _ R1.out.2; clear bm) | (go_at_call 57; (with_reducible refine (D2.out _ R1.out.1.tab.here).mono ?_); rintro e v2 ⟨rfl, bm⟩; have R2 := Lib.hid (And.intro (R1.out.1.fr bm) (R1.out.2.tr (Fr.of_below bm))); obtain ⟨x2_0, x2_1, x2_2, x2_3, x2_4, x2_5, x2_6, x2_7, x2_8, x2_9, x2_10, x2_11, x2_12, x2_13, x2_14, x2_15, x2_16, x2_17, x2_18, x2_19⟩ := KX.out _ R2.out.2; clear bm) | (go_at_call 55; (with_reducible refine (D3.out _ R2.out.2 R2.out.1).mono ?_); rintro e v3 ⟨rfl, g1, g2⟩; have R3 := Lib.hid (And.intro g1 g2); obtain ⟨x3_0, x3_1, x3_2, x3_3, x3_4, x3_5, x3_6, x3_7, x3_8, x3_9, x3_10, x3_11, x3_12, x3_13, x3_14, x3_15, x3_16, x3_17, x3_18, x3_19⟩ := KX.out _ g2; clear g1 g2))
    go_ret
    exact ⟨rfl, R3.out.1, HFV.out.tr R3.out.2⟩
set_option maxRecDepth 100000 in
set_option maxHeartbeats 8000000 in
theorem ex22 {F : RF} {n : Nat} (G : GoodR F n) (w : World) (B pt mu mv : Nat) (nv : Value) (s : Pl) (t : Tr) (kv : Value) (hr : RW w B pt mu mv nv s) (hd : t.fitsD (n + 1) = true) (hwf : t.wf1) (hk : KidsAt w B kv t.kids) {ka : Tr} (hkind : t.kind = 22) (hkids : t.kids = [ka]) :
    Calls Tryd.prog 36 #[.pointer (some ⟨pt, 0, none⟩), .agg #[.int .i64 t.kind, .int .i64 t.at_, .string t.name, .int .u64 t.num, .string t.op, kv], .bool true] w (RP w B pt mu mv nv (exP F t true s)) := by
  have hgo : exP F t true s = (maybeM F ka true) s := by unfold exP; rw [hkind, hkids]; simp
  rw [hgo]
  have hlen : t.kids.length = 1 := by rw [hkids]; rfl
  obtain ⟨A, cap, rfl, hcl, hcm, hA⟩ := hk.slice
  obtain ⟨b, off, rfl, hbB⟩ := hA (by omega)
  rw [hlen] at hk hcl ⊢
  clear hA
  rw [hkind]
  have hWV : Below w.heap.size w (w.alloc (.cells #[.int .i64 22, .int .i64 t.at_, .string t.name, .int .u64 t.num, .string t.op, .slice (some ⟨b, off, none⟩) 1 cap] 31)) := below_alloc (Below.refl _ _)
  have hRV : RW (w.alloc (.cells #[.int .i64 22, .int .i64 t.at_, .string t.name, .int .u64 t.num, .string t.op, .slice (some ⟨b, off, none⟩) 1 cap] 31)) B pt mu mv nv s := hr.fr hWV
  have HFV := Lib.hid (show Fr (SR mu mv) w (w.alloc (.cells #[.int .i64 22, .int .i64 t.at_, .string t.name, .int .u64 t.num, .string t.op, .slice (some ⟨b, off, none⟩) 1 cap] 31)) from Fr.of_below hWV)
  have hb8 : Blk (w.alloc (.cells #[.int .i64 22, .int .i64 t.at_, .string t.name, .int .u64 t.num, .string t.op, .slice (some ⟨b, off, none⟩) 1 cap] 31)) w.heap.size 31 #[.int .i64 22, .int .i64 t.at_, .string t.name, .int .u64 t.num, .string t.op, .slice (some ⟨b, off, none⟩) 1 cap] := Blk.new _ _ _
  have hpl := hr.blk.lt
  have hbw : b < w.heap.size := Nat.lt_of_lt_of_le hbB hr.size
  have hn1 : w.heap.size ≠ b := by omega
  have hn2 : w.heap.size ≠ pt := by omega
  have N8 := Fr.not_sr hRV hb8
  have NP := Fr.not_sr hRV hRV.blk
  obtain ⟨cpu, cpv⟩ := hr.cells
  have hi0 : t.kids[0]? = some ka := by rw [hkids]; rfl
  have hd0 := Tr.fitsD_kid hd (List.mem_of_getElem? hi0)
  obtain ⟨_, hw0, kv0, hn0, hs0⟩ := hk.kid hi0
  obtain ⟨Aka, capka, rfl, _, _, _⟩ := hs0.slice
  obtain ⟨d00, d01, d02, d03, d04, d05⟩ := kid_cells hn0 (off) (by omega)
  have KX := Lib.hid (fun w' (f : Fr (SR mu mv) (w.alloc (.cells #[.int .i64 22, .int .i64 t.at_, .string t.name, .int .u64 t.num, .string t.op, .slice (some ⟨b, off, none⟩) 1 cap] 31)) w') => show w'.cell? ⟨w.heap.size, 0, none⟩ = some (.int .i64 22) ∧ w'.cell? ⟨w.heap.size, 1, none⟩ = some (.int .i64 t.at_) ∧ w'.cell? ⟨w.heap.size, 2, none⟩ = some (.string t.name) ∧ w'.cell? ⟨w.heap.size, 3, none⟩ = some (.int .u64 t.num) ∧ w'.cell? ⟨w.heap.size, 4, none⟩ = some (.string t.op) ∧ w'.cell? ⟨w.heap.size, 5, none⟩ = some (.slice (some ⟨b, off, none⟩) 1 cap) ∧ w'.cell? ⟨pt, 0, none⟩ = some (.map (some mu)) ∧ w'.cell? ⟨pt, 1, none⟩ = some (.map (some mv)) ∧ w'.cell? ⟨b, off, none⟩ = some (.int .i64 ka.kind) ∧ w'.cell? ⟨b, off + 1, none⟩ = some (.int .i64 ka.at_) ∧ w'.cell? ⟨b, off + 2, none⟩ = some (.string ka.name) ∧ w'.cell? ⟨b, off + 3, none⟩ = some (.int .u64 ka.num) ∧ w'.cell? ⟨b, off + 4, none⟩ = some (.string ka.op) ∧ w'.cell? ⟨b, off + 5, none⟩ = some (.slice Aka ka.kids.length capka) from ⟨f.cell hb8 N8 0 rfl, f.cell hb8 N8 1 rfl, f.cell hb8 N8 2 rfl, f.cell hb8 N8 3 rfl, f.cell hb8 N8 4 rfl, f.cell hb8 N8 5 rfl, f.cell hRV.blk NP 0 rfl, f.cell hRV.blk NP 1 rfl, ((Fr.root hRV f).cell (p := ⟨b, off, none⟩) hbB).trans (((hWV.mono hr.size).cell (p := ⟨b, off, none⟩) hbB).trans d00), ((Fr.root hRV f).cell (p := ⟨b, off + 1, none⟩) hbB).trans (((hWV.mono hr.size).cell (p := ⟨b, off + 1, none⟩) hbB).trans d01), ((Fr.root hRV f).cell (p := ⟨b, off + 2, none⟩) hbB).trans (((hWV.mono hr.size).cell (p := ⟨b, off + 2, none⟩) hbB).trans d02), ((Fr.root hRV f).cell (p := ⟨b, off + 3, none⟩) hbB).trans (((hWV.mono hr.size).cell (p := ⟨b, off + 3, none⟩) hbB).trans d03), ((Fr.root hRV f).cell (p := ⟨b, off + 4, none⟩) hbB).trans (((hWV.mono hr.size).cell (p := ⟨b, off + 4, none⟩) hbB).trans d04), ((Fr.root hRV f).cell (p := ⟨b, off + 5, none⟩) hbB).trans (((hWV.mono hr.size).cell (p := ⟨b, off + 5, none⟩) hbB).trans d05)⟩)
  have R0 := Lib.hid (And.intro hRV (Fr.refl (SR mu mv) (w.alloc (.cells #[.int .i64 22, .int .i64 t.at_, .string t.name, .int .u64 t.num, .string t.op, .slice (some ⟨b, off, none⟩) 1 cap] 31))))
  have C1 := Lib.hid (fun W s1 (f : Fr (SR mu mv) (w.alloc (.cells #[.int .i64 22, .int .i64 t.at_, .string t.name, .int .u64 t.num, .string t.op, .slice (some ⟨b, off, none⟩) 1 cap] 31)) W) (r : RW W B pt mu mv nv s1) => show Calls Tryd.prog 35 #[.pointer (some ⟨pt, 0, none⟩), .agg #[.int .i64 ka.kind, .int .i64 ka.at_, .string ka.name, .int .u64 ka.num, .string ka.op, .slice Aka ka.kids.length capka], .bool true] W (fun e w' => e = .returned (.bool ((maybeM F ka true) s1).1) ∧ RW w' B pt mu mv nv ((maybeM F ka true) s1).2 ∧ Fr (SR mu mv) (w.alloc (.cells #[.int .i64 22, .int .i64 t.at_, .string t.name, .int .u64 t.num, .string t.op, .slice (some ⟨b, off, none⟩) 1 cap] 31)) w') from (maybe_calls G W B pt mu mv nv s1 ka _ true r hd0 hw0 (f.to hRV (hs0.under (hWV.mono hr.size)))).mono fun e w' ⟨h1, h2, h3⟩ => ⟨h1, h2, f.tr h3⟩)
  unfold RP
  clear hgo hr hd hk hWV hb8 N8 NP hRV
  cases h1 : ((maybeM F ka true) s).1
  · have HE := Lib.hid (show (maybeM F ka true) s = (false, ((maybeM F ka true) s).2) from by exact Prod.ext h1 rfl)
    have D1 := Lib.hid (fun W f r => C1.out W s f r)
    rw [h1] at D1
    rw [HE.out]
    clear C1
    clear hkind hkids hlen  hwf h1
    go_enter Tryd.func36, Tryd.ntmps36
    go_wp2_with (first | (go_at_call 35; (with_reducible refine (D1.out _ R0.out.2 R0.out.1).mono ?_); rintro e v1 ⟨rfl, g1, g2⟩; have R1 := Lib.hid (And.intro g1 g2); obtain ⟨x1_0, x1_1, x1_2, x1_3, x1_4, x1_5, x1_6, x1_7, x1_8, x1_9, x1_10, x1_11, x1_12, x1_13⟩ := KX.out _ g2; clear g1 g2))
    go_ret
    exact ⟨rfl, R1.out.1, HFV.out.tr R1.out.2⟩
  · have HE := Lib.hid (show (maybeM F ka true) s = (true, ((maybeM F ka true) s).2) from by exact Prod.ext h1 rfl)
    have D1 := Lib.hid (fun W f r => C1.out W s f r)
    rw [h1] at D1
    rw [HE.out]
    clear C1
    clear hkind hkids hlen  hwf h1
    go_enter Tryd.func36, Tryd.ntmps36
    go_wp2_with (first | (go_at_call 35; (with_reducible refine (D1.out _ R0.out.2 R0.out.1).mono ?_); rintro e v1 ⟨rfl, g1, g2⟩; have R1 := Lib.hid (And.intro g1 g2); obtain ⟨x1_0, x1_1, x1_2, x1_3, x1_4, x1_5, x1_6, x1_7, x1_8, x1_9, x1_10, x1_11, x1_12, x1_13⟩ := KX.out _ g2; clear g1 g2))
    go_ret
    exact ⟨rfl, R1.out.1, HFV.out.tr R1.out.2⟩
end Go.Proofs.YtlenhcmgcgccmaaDoor
