/- Scope: Right: expr, a name, a function. -/
import Derived.Test.YtlenhcmgcgccmaaDoorTp
namespace Go.Proofs.YtlenhcmgcgccmaaDoor
open Go.RowKit Go
set_option linter.unusedVariables false
set_option linter.unusedSimpArgs false
set_option maxRecDepth 100000 in
set_option maxHeartbeats 8000000 in
theorem ex3bad {F : RF} {n : Nat} (G : GoodR F n) (w : World) (B pt mu mv : Nat) (nv : Value) (s : Pl) (t : Tr) (kv : Value) (gen : Bool) (hr : RW w B pt mu mv nv s) (hd : t.fitsD (n + 1) = true) (hwf : t.wf1) (hk : KidsAt w B kv t.kids) (hkind : t.kind = 3) (hlen : ¬ t.kids.length = 0) :
    Calls Tryd.prog 36 #[.pointer (some ⟨pt, 0, none⟩), .agg #[.int .i64 t.kind, .int .i64 t.at_, .string t.name, .int .u64 t.num, .string t.op, kv], .bool gen] w (RP w B pt mu mv nv (exP F t gen s)) := by
  have hgo : exP F t gen s = (false, s) := by unfold exP; rw [hkind]; simp [hlen, okM]
  rw [hgo]
  obtain ⟨A, cap, rfl, hcl, hcm, hA⟩ := hk.slice
  have hWV : Below w.heap.size w (w.alloc (.cells #[.int .i64 t.kind, .int .i64 t.at_, .string t.name, .int .u64 t.num, .string t.op, .slice A t.kids.length cap] 31)) := below_alloc (Below.refl _ _)
  have hRV : RW (w.alloc (.cells #[.int .i64 t.kind, .int .i64 t.at_, .string t.name, .int .u64 t.num, .string t.op, .slice A t.kids.length cap] 31)) B pt mu mv nv s := hr.fr hWV
  have HFV := Lib.hid (show Fr (SR mu mv) w (w.alloc (.cells #[.int .i64 t.kind, .int .i64 t.at_, .string t.name, .int .u64 t.num, .string t.op, .slice A t.kids.length cap] 31)) from Fr.of_below hWV)
  have RV := Lib.hid hRV
  have hpl := hr.blk.lt
  have hn2 : w.heap.size ≠ pt := by omega
  obtain ⟨cpu, cpv⟩ := hr.cells
  have hb8 : Blk (w.alloc (.cells #[.int .i64 t.kind, .int .i64 t.at_, .string t.name, .int .u64 t.num, .string t.op, .slice A t.kids.length cap] 31)) w.heap.size 31 #[.int .i64 t.kind, .int .i64 t.at_, .string t.name, .int .u64 t.num, .string t.op, .slice A t.kids.length cap] := Blk.new _ _ _
  have N8 := Fr.not_sr hRV hb8
  have NP := Fr.not_sr hRV hRV.blk
  have SX := Lib.hid (fun w' (f : Fr (SR mu mv) (w.alloc (.cells #[.int .i64 t.kind, .int .i64 t.at_, .string t.name, .int .u64 t.num, .string t.op, .slice A t.kids.length cap] 31)) w') => show (fun w' => w'.cell? ⟨pt, 0, none⟩ = some (.map (some mu)) ∧ w'.cell? ⟨w.heap.size, 1, none⟩ = some (.int .i64 t.at_)) w' from ⟨f.cell hRV.blk NP 0 rfl, f.cell hb8 N8 1 rfl⟩)
  have R0d := Lib.hid (And.intro hRV.drew (Fr.refl (SR mu mv) (w.alloc (.cells #[.int .i64 t.kind, .int .i64 t.at_, .string t.name, .int .u64 t.num, .string t.op, .slice A t.kids.length cap] 31))).drew)
  have q : ((t.kids.length : Int) == 0) = false := by simpa using hlen
  unfold RP
  rw [hkind] at SX R0d HFV ⊢
  clear hgo hr hd hk hWV hRV G hcl hcm hA hkind hwf hb8 N8 NP RV hlen
  go_enter Tryd.func36, Tryd.ntmps36
  go_wp2
  refine wp_region_held_drew (S := (fun w' => w'.cell? ⟨pt, 0, none⟩ = some (.map (some mu)) ∧ w'.cell? ⟨w.heap.size, 1, none⟩ = some (.int .i64 t.at_))) (by kernel_rfl) ?_ (fun hHeld => ?_)
  · exact SX.out _ R0d.out.2
  refine tk 0 ?_
  try simp only [Act.put, z1, z2, z3]
  refine tk 1 ?_
  try simp only [Act.put, z1, z2, z3]
  refine tk 2 ?_
  try simp only [Act.put, z1, z2, z3]
  refine tk 3 ?_
  try simp only [Act.put, z1, z2, z3]
  refine tn 4 ?_
  try simp only [Act.put, z1, z2, z3]
  refine tn 5 ?_
  try simp only [Act.put, z1, z2, z3]
  refine tn 6 ?_
  try simp only [Act.put, z1, z2, z3]
  refine tn 7 ?_
  try simp only [Act.put, z1, z2, z3]
  refine tn 8 ?_
  try simp only [Act.put, z1, z2, z3]
  refine tn 9 ?_
  try simp only [Act.put, z1, z2, z3]
  refine tn 10 ?_
  try simp only [Act.put, z1, z2, z3]
  refine tk 11 ?_
  try simp only [Act.put, z1, z2, z3]
  refine tk 12 ?_
  try simp only [Act.put, z1, z2, z3]
  refine wpAnyH_done (by kernel_rfl) ?_ _
  go_wp2
  go_ret
  exact ⟨rfl, R0d.out.1, HFV.out.tr R0d.out.2⟩
set_option maxRecDepth 100000 in
set_option maxHeartbeats 8000000 in
theorem ex3 {F : RF} {n : Nat} (G : GoodR F n) (w : World) (B pt mu mv : Nat) (nv : Value) (s : Pl) (t : Tr) (kv : Value) (gen : Bool) (hr : RW w B pt mu mv nv s) (hd : t.fitsD (n + 1) = true) (hwf : t.wf1) (hk : KidsAt w B kv t.kids) (hkind : t.kind = 3) (hlen : t.kids.length = 0) :
    Calls Tryd.prog 36 #[.pointer (some ⟨pt, 0, none⟩), .agg #[.int .i64 t.kind, .int .i64 t.at_, .string t.name, .int .u64 t.num, .string t.op, kv], .bool gen] w (RP w B pt mu mv nv (exP F t gen s)) := by
  have hgo : exP F t gen s = useM t.at_ s := by unfold exP; rw [hkind]; simp [hlen]
  rw [hgo]
  obtain ⟨A, cap, rfl, hcl, hcm, hA⟩ := hk.slice
  have hWV : Below w.heap.size w (w.alloc (.cells #[.int .i64 t.kind, .int .i64 t.at_, .string t.name, .int .u64 t.num, .string t.op, .slice A t.kids.length cap] 31)) := below_alloc (Below.refl _ _)
  have hRV : RW (w.alloc (.cells #[.int .i64 t.kind, .int .i64 t.at_, .string t.name, .int .u64 t.num, .string t.op, .slice A t.kids.length cap] 31)) B pt mu mv nv s := hr.fr hWV
  have HFV := Lib.hid (show Fr (SR mu mv) w (w.alloc (.cells #[.int .i64 t.kind, .int .i64 t.at_, .string t.name, .int .u64 t.num, .string t.op, .slice A t.kids.length cap] 31)) from Fr.of_below hWV)
  have RV := Lib.hid hRV
  have hpl := hr.blk.lt
  have hn2 : w.heap.size ≠ pt := by omega
  obtain ⟨cpu, cpv⟩ := hr.cells
  have hb8 : Blk (w.alloc (.cells #[.int .i64 t.kind, .int .i64 t.at_, .string t.name, .int .u64 t.num, .string t.op, .slice A t.kids.length cap] 31)) w.heap.size 31 #[.int .i64 t.kind, .int .i64 t.at_, .string t.name, .int .u64 t.num, .string t.op, .slice A t.kids.length cap] := Blk.new _ _ _
  have N8 := Fr.not_sr hRV hb8
  have NP := Fr.not_sr hRV hRV.blk
  have SX := Lib.hid (fun w' (f : Fr (SR mu mv) (w.alloc (.cells #[.int .i64 t.kind, .int .i64 t.at_, .string t.name, .int .u64 t.num, .string t.op, .slice A t.kids.length cap] 31)) w') => show (fun w' => w'.cell? ⟨pt, 0, none⟩ = some (.map (some mu)) ∧ w'.cell? ⟨w.heap.size, 1, none⟩ = some (.int .i64 t.at_)) w' from ⟨f.cell hRV.blk NP 0 rfl, f.cell hb8 N8 1 rfl⟩)
  have OC := use_calls hRV.drew (a := t.at_) hwf.1
  have F0 := Lib.hid (Fr.refl (SR mu mv) (w.alloc (.cells #[.int .i64 t.kind, .int .i64 t.at_, .string t.name, .int .u64 t.num, .string t.op, .slice A t.kids.length cap] 31))).drew
  unfold RP at OC ⊢
  have OC := Lib.hid OC
  rw [hkind, hlen] at SX OC HFV F0 ⊢
  generalize useM t.at_ s = r at *
  clear hgo hr hd hk hWV hRV G hcl hcm hA hkind hwf hb8 N8 NP RV hlen
  go_enter Tryd.func36, Tryd.ntmps36
  go_wp2
  refine wp_region_held_drew (S := (fun w' => w'.cell? ⟨pt, 0, none⟩ = some (.map (some mu)) ∧ w'.cell? ⟨w.heap.size, 1, none⟩ = some (.int .i64 t.at_))) (by kernel_rfl) ?_ (fun hHeld => ?_)
  · exact SX.out _ F0.out
  refine tk 0 ?_
  try simp only [Act.put, z1, z2, z3]
  refine tk 1 ?_
  try simp only [Act.put, z1, z2, z3]
  refine tk 2 ?_
  try simp only [Act.put, z1, z2, z3]
  refine tk 3 ?_
  try simp only [Act.put, z1, z2, z3]
  refine tk 4 ?_
  try simp only [Act.put, z1, z2, z3]
  refine tk 5 ?_
  try simp only [Act.put, z1, z2, z3]
  refine tk 6 ?_
  try simp only [Act.put, z1, z2, z3]
  refine tk 7 ?_
  try simp only [Act.put, z1, z2, z3]
  refine tk 8 ?_
  try simp only [Act.put, z1, z2, z3]
  refine tk 9 ?_
  try simp only [Act.put, z1, z2, z3]
  refine wpAnyH_ready (rs := [10]) (by kernel_rfl) (by simp) ?_
  refine (AllReadyH.cons (i := 10) (o := ?o24) ?h24 (fun K hK => ?k24) AllReadyH.nil)
  case h24 => (simp only [List.getElem?_toArray, List.getElem?_cons_succ, List.getElem?_cons_zero]; try rfl)
  case k24 =>
    go_simp
    go_at_call 34; (with_reducible refine OC.out.mono ?_); rintro e v1 ⟨rfl, g1, g2⟩; have R1 := Lib.hid (And.intro g1 (F0.out.tr g2)); clear g1 g2
    try go_wp2_with fail
    refine hK.out _ _ ?_ (fun hHeld => ?_)
    · exact SX.out _ R1.out.2
    clear hK K
    try simp only [Act.put, z1, z2, z3]
    refine tk 11 ?_
    try simp only [Act.put, z1, z2, z3]
    refine tk 12 ?_
    try simp only [Act.put, z1, z2, z3]
    refine wpAnyH_done (by kernel_rfl) ?_ _
    go_wp2
    go_ret
    exact ⟨rfl, R1.out.1, HFV.out.tr R1.out.2⟩
set_option maxRecDepth 100000 in
set_option maxHeartbeats 8000000 in
theorem ex12a {F : RF} {n : Nat} (G : GoodR F n) (w : World) (B pt mu mv : Nat) (nv : Value) (s : Pl) (t : Tr) (kv : Value) (gen : Bool) (hr : RW w B pt mu mv nv s) (hd : t.fitsD (n + 1) = true) (hwf : t.wf1) (hk : KidsAt w B kv t.kids) (hkind : t.kind = 12) (hnm : t.name = ⟨#[]⟩) :
    Calls Tryd.prog 36 #[.pointer (some ⟨pt, 0, none⟩), .agg #[.int .i64 t.kind, .int .i64 t.at_, .string t.name, .int .u64 t.num, .string t.op, kv], .bool gen] w (RP w B pt mu mv nv (exP F t gen s)) := by
  have hgo : exP F t gen s = functionM F t s := by unfold exP; rw [hkind, if_neg (by decide), if_neg (by decide), if_neg (by decide), if_neg (by decide), if_pos rfl, if_pos hnm]; rfl
  obtain ⟨A, cap, rfl, hcl, hcm, hA⟩ := hk.slice
  have hWV : Below w.heap.size w (w.alloc (.cells #[.int .i64 t.kind, .int .i64 t.at_, .string t.name, .int .u64 t.num, .string t.op, .slice A t.kids.length cap] 31)) := below_alloc (Below.refl _ _)
  have hRV : RW (w.alloc (.cells #[.int .i64 t.kind, .int .i64 t.at_, .string t.name, .int .u64 t.num, .string t.op, .slice A t.kids.length cap] 31)) B pt mu mv nv s := hr.fr hWV
  have HFV := Lib.hid (show Fr (SR mu mv) w (w.alloc (.cells #[.int .i64 t.kind, .int .i64 t.at_, .string t.name, .int .u64 t.num, .string t.op, .slice A t.kids.length cap] 31)) from Fr.of_below hWV)
  have hpl := hr.blk.lt
  have hn2 : w.heap.size ≠ pt := by omega
  obtain ⟨cpu, cpv⟩ := hr.cells
  have hb8 : Blk (w.alloc (.cells #[.int .i64 t.kind, .int .i64 t.at_, .string t.name, .int .u64 t.num, .string t.op, .slice A t.kids.length cap] 31)) w.heap.size 31 #[.int .i64 t.kind, .int .i64 t.at_, .string t.name, .int .u64 t.num, .string t.op, .slice A t.kids.length cap] := Blk.new _ _ _
  have N8 := Fr.not_sr hRV hb8
  have NP := Fr.not_sr hRV hRV.blk
  have SX := Lib.hid (fun w' (f : Fr (SR mu mv) (w.alloc (.cells #[.int .i64 t.kind, .int .i64 t.at_, .string t.name, .int .u64 t.num, .string t.op, .slice A t.kids.length cap] 31)) w') => show (fun w' => w'.cell? ⟨pt, 1, none⟩ = some (.map (some mv)) ∧ w'.cell? ⟨w.heap.size, 0, none⟩ = some (.int .i64 t.kind) ∧ w'.cell? ⟨w.heap.size, 1, none⟩ = some (.int .i64 t.at_) ∧ w'.cell? ⟨w.heap.size, 2, none⟩ = some (.string t.name) ∧ w'.cell? ⟨w.heap.size, 3, none⟩ = some (.int .u64 t.num) ∧ w'.cell? ⟨w.heap.size, 4, none⟩ = some (.string t.op) ∧ w'.cell? ⟨w.heap.size, 5, none⟩ = some (.slice A t.kids.length cap)) w' from ⟨f.cell hRV.blk NP 1 rfl, f.cell hb8 N8 0 rfl, f.cell hb8 N8 1 rfl, f.cell hb8 N8 2 rfl, f.cell hb8 N8 3 rfl, f.cell hb8 N8 4 rfl, f.cell hb8 N8 5 rfl⟩)
  have R0d := Lib.hid (And.intro hRV.drew (Fr.refl (SR mu mv) (w.alloc (.cells #[.int .i64 t.kind, .int .i64 t.at_, .string t.name, .int .u64 t.num, .string t.op, .slice A t.kids.length cap] 31))).drew)
  have OC := var_calls hRV.drew (a := t.at_) hwf.1
  unfold RP at OC
  have MC := Lib.hid (fun w' s1 (f : Fr (SR mu mv) (w.alloc (.cells #[.int .i64 t.kind, .int .i64 t.at_, .string t.name, .int .u64 t.num, .string t.op, .slice A t.kids.length cap] 31)) w') (r : RW w' B pt mu mv nv s1) => show Calls Tryd.prog 37 #[.pointer (some ⟨pt, 0, none⟩), .agg #[.int .i64 t.kind, .int .i64 t.at_, .string t.name, .int .u64 t.num, .string t.op, .slice A t.kids.length cap]] w' (fun e w'' => e = .returned (.bool (functionM F t s1).1) ∧ RW w'' B pt mu mv nv (functionM F t s1).2 ∧ Fr (SR mu mv) (w.alloc (.cells #[.int .i64 t.kind, .int .i64 t.at_, .string t.name, .int .u64 t.num, .string t.op, .slice A t.kids.length cap] 31)) w'') from (fn_step G w' B pt mu mv nv s1 t _ r hd hwf (f.to hRV (hk.under (hWV.mono hr.size)))).mono fun e w'' ⟨h1, h2, h3⟩ => ⟨h1, h2, f.tr h3⟩)
  unfold RP
  rw [hkind] at SX R0d OC MC HFV ⊢
  clear hr hd hk hWV hRV G hcl hcm hA hkind hwf hb8 N8 NP
  rw [hnm] at SX MC R0d HFV ⊢
  clear OC hnm
  cases hm : (functionM F t s).1
  · have M2 := Lib.hid (fun W f r => MC.out W s f r)
    rw [hm] at M2
    clear MC
    rw [show exP F t gen s = (false, (functionM F t s).2) from hgo.trans (Prod.ext hm rfl)]
    clear hm hgo
    go_enter Tryd.func36, Tryd.ntmps36
    go_wp2
    refine wp_region_held_drew (S := (fun w' => w'.cell? ⟨pt, 1, none⟩ = some (.map (some mv)) ∧ w'.cell? ⟨w.heap.size, 0, none⟩ = some (.int .i64 12) ∧ w'.cell? ⟨w.heap.size, 1, none⟩ = some (.int .i64 t.at_) ∧ w'.cell? ⟨w.heap.size, 2, none⟩ = some (.string ⟨#[]⟩) ∧ w'.cell? ⟨w.heap.size, 3, none⟩ = some (.int .u64 t.num) ∧ w'.cell? ⟨w.heap.size, 4, none⟩ = some (.string t.op) ∧ w'.cell? ⟨w.heap.size, 5, none⟩ = some (.slice A t.kids.length cap))) (by kernel_rfl) ?_ (fun hHeld => ?_)
    · exact SX.out _ R0d.out.2
    refine tk 0 ?_
    try simp only [Act.put, z1, z2, z3]
    refine tk 1 ?_
    try simp only [Act.put, z1, z2, z3]
    refine tk 2 ?_
    try simp only [Act.put, z1, z2, z3]
    refine tk 3 ?_
    try simp only [Act.put, z1, z2, z3]
    refine tn 4 ?_
    try simp only [Act.put, z1, z2, z3]
    refine tn 5 ?_
    try simp only [Act.put, z1, z2, z3]
    refine tn 6 ?_
    try simp only [Act.put, z1, z2, z3]
    refine tn 7 ?_
    try simp only [Act.put, z1, z2, z3]
    refine tn 8 ?_
    try simp only [Act.put, z1, z2, z3]
    refine tn 9 ?_
    try simp only [Act.put, z1, z2, z3]
    refine tn 10 ?_
    try simp only [Act.put, z1, z2, z3]
    refine tk 11 ?_
    try simp only [Act.put, z1, z2, z3]
    refine tk 12 ?_
    try simp only [Act.put, z1, z2, z3]
    refine tk 13 ?_
    try simp only [Act.put, z1, z2, z3]
    refine tk 14 ?_
    try simp only [Act.put, z1, z2, z3]
    refine wpAnyH_ready (rs := [15]) (by kernel_rfl) (by simp) ?_
    refine (AllReadyH.cons (i := 15) (o := ?o42) ?h42 (fun K hK => ?k42) AllReadyH.nil)
    case h42 => (simp only [List.getElem?_toArray, List.getElem?_cons_succ, List.getElem?_cons_zero]; try rfl)
    case k42 =>
      go_simp
      go_at_call 37; (with_reducible refine (M2.out _ R0d.out.2 R0d.out.1).mono ?_); rintro e v2 ⟨rfl, g1, g2⟩; have R2 := Lib.hid (And.intro g1 g2); clear g1 g2
      try go_wp2_with fail
      refine hK.out _ _ ?_ (fun hHeld => ?_)
      · exact SX.out _ R2.out.2
      clear hK K
      try simp only [Act.put, z1, z2, z3]
      refine tk 16 ?_
      try simp only [Act.put, z1, z2, z3]
      refine tk 17 ?_
      try simp only [Act.put, z1, z2, z3]
      refine wpAnyH_done (by kernel_rfl) ?_ _
      go_wp2
      go_ret
      exact ⟨rfl, R2.out.1, HFV.out.tr R2.out.2⟩
  · have M2 := Lib.hid (fun W f r => MC.out W s f r)
    rw [hm] at M2
    clear MC
    rw [show exP F t gen s = (true, (functionM F t s).2) from hgo.trans (Prod.ext hm rfl)]
    clear hm hgo
    go_enter Tryd.func36, Tryd.ntmps36
    go_wp2
    refine wp_region_held_drew (S := (fun w' => w'.cell? ⟨pt, 1, none⟩ = some (.map (some mv)) ∧ w'.cell? ⟨w.heap.size, 0, none⟩ = some (.int .i64 12) ∧ w'.cell? ⟨w.heap.size, 1, none⟩ = some (.int .i64 t.at_) ∧ w'.cell? ⟨w.heap.size, 2, none⟩ = some (.string ⟨#[]⟩) ∧ w'.cell? ⟨w.heap.size, 3, none⟩ = some (.int .u64 t.num) ∧ w'.cell? ⟨w.heap.size, 4, none⟩ = some (.string t.op) ∧ w'.cell? ⟨w.heap.size, 5, none⟩ = some (.slice A t.kids.length cap))) (by kernel_rfl) ?_ (fun hHeld => ?_)
    · exact SX.out _ R0d.out.2
    refine tk 0 ?_
    try simp only [Act.put, z1, z2, z3]
    refine tk 1 ?_
    try simp only [Act.put, z1, z2, z3]
    refine tk 2 ?_
    try simp only [Act.put, z1, z2, z3]
    refine tk 3 ?_
    try simp only [Act.put, z1, z2, z3]
    refine tn 4 ?_
    try simp only [Act.put, z1, z2, z3]
    refine tn 5 ?_
    try simp only [Act.put, z1, z2, z3]
    refine tn 6 ?_
    try simp only [Act.put, z1, z2, z3]
    refine tn 7 ?_
    try simp only [Act.put, z1, z2, z3]
    refine tn 8 ?_
    try simp only [Act.put, z1, z2, z3]
    refine tn 9 ?_
    try simp only [Act.put, z1, z2, z3]
    refine tn 10 ?_
    try simp only [Act.put, z1, z2, z3]
    refine tk 11 ?_
    try simp only [Act.put, z1, z2, z3]
    refine tk 12 ?_
    try simp only [Act.put, z1, z2, z3]
    refine tk 13 ?_
    try simp only [Act.put, z1, z2, z3]
    refine tk 14 ?_
    try simp only [Act.put, z1, z2, z3]
    refine wpAnyH_ready (rs := [15]) (by kernel_rfl) (by simp) ?_
    refine (AllReadyH.cons (i := 15) (o := ?o60) ?h60 (fun K hK => ?k60) AllReadyH.nil)
    case h60 => (simp only [List.getElem?_toArray, List.getElem?_cons_succ, List.getElem?_cons_zero]; try rfl)
    case k60 =>
      go_simp
      go_at_call 37; (with_reducible refine (M2.out _ R0d.out.2 R0d.out.1).mono ?_); rintro e v2 ⟨rfl, g1, g2⟩; have R2 := Lib.hid (And.intro g1 g2); clear g1 g2
      try go_wp2_with fail
      refine hK.out _ _ ?_ (fun hHeld => ?_)
      · exact SX.out _ R2.out.2
      clear hK K
      try simp only [Act.put, z1, z2, z3]
      refine tk 16 ?_
      try simp only [Act.put, z1, z2, z3]
      refine tk 17 ?_
      try simp only [Act.put, z1, z2, z3]
      refine wpAnyH_done (by kernel_rfl) ?_ _
      go_wp2
      go_ret
      exact ⟨rfl, R2.out.1, HFV.out.tr R2.out.2⟩
set_option maxRecDepth 100000 in
set_option maxHeartbeats 8000000 in
theorem ex12b {F : RF} {n : Nat} (G : GoodR F n) (w : World) (B pt mu mv : Nat) (nv : Value) (s : Pl) (t : Tr) (kv : Value) (gen : Bool) (hr : RW w B pt mu mv nv s) (hd : t.fitsD (n + 1) = true) (hwf : t.wf1) (hk : KidsAt w B kv t.kids) (hkind : t.kind = 12) (hnm : ¬ t.name = ⟨#[]⟩) :
    Calls Tryd.prog 36 #[.pointer (some ⟨pt, 0, none⟩), .agg #[.int .i64 t.kind, .int .i64 t.at_, .string t.name, .int .u64 t.num, .string t.op, kv], .bool gen] w (RP w B pt mu mv nv (exP F t gen s)) := by
  have hgo : exP F t gen s = andM (varM t.at_) (functionM F t) s := by unfold exP; rw [hkind, if_neg (by decide), if_neg (by decide), if_neg (by decide), if_neg (by decide), if_pos rfl, if_neg hnm]
  obtain ⟨A, cap, rfl, hcl, hcm, hA⟩ := hk.slice
  have hWV : Below w.heap.size w (w.alloc (.cells #[.int .i64 t.kind, .int .i64 t.at_, .string t.name, .int .u64 t.num, .string t.op, .slice A t.kids.length cap] 31)) := below_alloc (Below.refl _ _)
  have hRV : RW (w.alloc (.cells #[.int .i64 t.kind, .int .i64 t.at_, .string t.name, .int .u64 t.num, .string t.op, .slice A t.kids.length cap] 31)) B pt mu mv nv s := hr.fr hWV
  have HFV := Lib.hid (show Fr (SR mu mv) w (w.alloc (.cells #[.int .i64 t.kind, .int .i64 t.at_, .string t.name, .int .u64 t.num, .string t.op, .slice A t.kids.length cap] 31)) from Fr.of_below hWV)
  have hpl := hr.blk.lt
  have hn2 : w.heap.size ≠ pt := by omega
  obtain ⟨cpu, cpv⟩ := hr.cells
  have hb8 : Blk (w.alloc (.cells #[.int .i64 t.kind, .int .i64 t.at_, .string t.name, .int .u64 t.num, .string t.op, .slice A t.kids.length cap] 31)) w.heap.size 31 #[.int .i64 t.kind, .int .i64 t.at_, .string t.name, .int .u64 t.num, .string t.op, .slice A t.kids.length cap] := Blk.new _ _ _
  have N8 := Fr.not_sr hRV hb8
  have NP := Fr.not_sr hRV hRV.blk
  have SX := Lib.hid (fun w' (f : Fr (SR mu mv) (w.alloc (.cells #[.int .i64 t.kind, .int .i64 t.at_, .string t.name, .int .u64 t.num, .string t.op, .slice A t.kids.length cap] 31)) w') => show (fun w' => w'.cell? ⟨pt, 1, none⟩ = some (.map (some mv)) ∧ w'.cell? ⟨w.heap.size, 0, none⟩ = some (.int .i64 t.kind) ∧ w'.cell? ⟨w.heap.size, 1, none⟩ = some (.int .i64 t.at_) ∧ w'.cell? ⟨w.heap.size, 2, none⟩ = some (.string t.name) ∧ w'.cell? ⟨w.heap.size, 3, none⟩ = some (.int .u64 t.num) ∧ w'.cell? ⟨w.heap.size, 4, none⟩ = some (.string t.op) ∧ w'.cell? ⟨w.heap.size, 5, none⟩ = some (.slice A t.kids.length cap)) w' from ⟨f.cell hRV.blk NP 1 rfl, f.cell hb8 N8 0 rfl, f.cell hb8 N8 1 rfl, f.cell hb8 N8 2 rfl, f.cell hb8 N8 3 rfl, f.cell hb8 N8 4 rfl, f.cell hb8 N8 5 rfl⟩)
  have R0d := Lib.hid (And.intro hRV.drew (Fr.refl (SR mu mv) (w.alloc (.cells #[.int .i64 t.kind, .int .i64 t.at_, .string t.name, .int .u64 t.num, .string t.op, .slice A t.kids.length cap] 31))).drew)
  have OC := var_calls hRV.drew (a := t.at_) hwf.1
  unfold RP at OC
  have MC := Lib.hid (fun w' s1 (f : Fr (SR mu mv) (w.alloc (.cells #[.int .i64 t.kind, .int .i64 t.at_, .string t.name, .int .u64 t.num, .string t.op, .slice A t.kids.length cap] 31)) w') (r : RW w' B pt mu mv nv s1) => show Calls Tryd.prog 37 #[.pointer (some ⟨pt, 0, none⟩), .agg #[.int .i64 t.kind, .int .i64 t.at_, .string t.name, .int .u64 t.num, .string t.op, .slice A t.kids.length cap]] w' (fun e w'' => e = .returned (.bool (functionM F t s1).1) ∧ RW w'' B pt mu mv nv (functionM F t s1).2 ∧ Fr (SR mu mv) (w.alloc (.cells #[.int .i64 t.kind, .int .i64 t.at_, .string t.name, .int .u64 t.num, .string t.op, .slice A t.kids.length cap] 31)) w'') from (fn_step G w' B pt mu mv nv s1 t _ r hd hwf (f.to hRV (hk.under (hWV.mono hr.size)))).mono fun e w'' ⟨h1, h2, h3⟩ => ⟨h1, h2, f.tr h3⟩)
  unfold RP
  rw [hkind] at SX R0d OC MC HFV ⊢
  clear hr hd hk hWV hRV G hcl hcm hA hkind hwf hb8 N8 NP
  have q1 := toList_ne hnm
  have q2 : t.name.toList.isEmpty = false := by simpa using q1
  have q3 : (t.name.toList == []) = false := by simpa using q1
  clear hnm
  cases ho : (varM t.at_ s).1
  · rw [ho] at OC
    have OC := Lib.hid OC
    rw [show exP F t gen s = (false, (varM t.at_ s).2) from hgo.trans (andM_false ho)]
    clear ho hgo MC
    go_enter Tryd.func36, Tryd.ntmps36
    go_wp2
    refine wp_region_held_drew (S := (fun w' => w'.cell? ⟨pt, 1, none⟩ = some (.map (some mv)) ∧ w'.cell? ⟨w.heap.size, 0, none⟩ = some (.int .i64 12) ∧ w'.cell? ⟨w.heap.size, 1, none⟩ = some (.int .i64 t.at_) ∧ w'.cell? ⟨w.heap.size, 2, none⟩ = some (.string t.name) ∧ w'.cell? ⟨w.heap.size, 3, none⟩ = some (.int .u64 t.num) ∧ w'.cell? ⟨w.heap.size, 4, none⟩ = some (.string t.op) ∧ w'.cell? ⟨w.heap.size, 5, none⟩ = some (.slice A t.kids.length cap))) (by kernel_rfl) ?_ (fun hHeld => ?_)
    · exact SX.out _ R0d.out.2
    refine tk 0 ?_
    try simp only [Act.put, z1, z2, z3]
    refine tk 1 ?_
    try simp only [Act.put, z1, z2, z3]
    refine tk 2 ?_
    try simp only [Act.put, z1, z2, z3]
    refine tk 3 ?_
    try simp only [Act.put, z1, z2, z3]
    refine tk 4 ?_
    try simp only [Act.put, z1, z2, z3]
    refine tk 5 ?_
    try simp only [Act.put, z1, z2, z3]
    refine tk 6 ?_
    try simp only [Act.put, z1, z2, z3]
    refine tk 7 ?_
    try simp only [Act.put, z1, z2, z3]
    refine tk 8 ?_
    try simp only [Act.put, z1, z2, z3]
    refine tk 9 ?_
    try simp only [Act.put, z1, z2, z3]
    refine wpAnyH_ready (rs := [10]) (by kernel_rfl) (by simp) ?_
    refine (AllReadyH.cons (i := 10) (o := ?o73) ?h73 (fun K hK => ?k73) AllReadyH.nil)
    case h73 => (simp only [List.getElem?_toArray, List.getElem?_cons_succ, List.getElem?_cons_zero]; try rfl)
    case k73 =>
      go_simp
      go_at_call 34; (with_reducible refine OC.out.mono ?_); rintro e v1 ⟨rfl, g1, g2⟩; have R1 := Lib.hid (And.intro g1 (R0d.out.2.tr g2)); clear g1 g2
      try go_wp2_with fail
      refine hK.out _ _ ?_ (fun hHeld => ?_)
      · exact SX.out _ R1.out.2
      clear hK K
      try simp only [Act.put, z1, z2, z3]
      refine tk 11 ?_
      try simp only [Act.put, z1, z2, z3]
      refine tk 12 ?_
      try simp only [Act.put, z1, z2, z3]
      refine tn 13 ?_
      try simp only [Act.put, z1, z2, z3]
      refine tn 14 ?_
      try simp only [Act.put, z1, z2, z3]
      refine tn 15 ?_
      try simp only [Act.put, z1, z2, z3]
      refine tk 16 ?_
      try simp only [Act.put, z1, z2, z3]
      refine tk 17 ?_
      try simp only [Act.put, z1, z2, z3]
      refine wpAnyH_done (by kernel_rfl) ?_ _
      go_wp2
      go_ret
      exact ⟨rfl, R1.out.1, HFV.out.tr R1.out.2⟩
  · rw [ho] at OC
    have OC := Lib.hid OC
    have hgo := hgo.trans (andM_true ho)
    have M2 := Lib.hid (fun W f r => MC.out W (varM t.at_ s).2 f r)
    clear ho MC
    cases hm : (functionM F t (varM t.at_ s).2).1
    · rw [hm] at M2
      rw [show exP F t gen s = (false, (functionM F t (varM t.at_ s).2).2) from hgo.trans (Prod.ext hm rfl)]
      clear hm hgo
      go_enter Tryd.func36, Tryd.ntmps36
      go_wp2
      refine wp_region_held_drew (S := (fun w' => w'.cell? ⟨pt, 1, none⟩ = some (.map (some mv)) ∧ w'.cell? ⟨w.heap.size, 0, none⟩ = some (.int .i64 12) ∧ w'.cell? ⟨w.heap.size, 1, none⟩ = some (.int .i64 t.at_) ∧ w'.cell? ⟨w.heap.size, 2, none⟩ = some (.string t.name) ∧ w'.cell? ⟨w.heap.size, 3, none⟩ = some (.int .u64 t.num) ∧ w'.cell? ⟨w.heap.size, 4, none⟩ = some (.string t.op) ∧ w'.cell? ⟨w.heap.size, 5, none⟩ = some (.slice A t.kids.length cap))) (by kernel_rfl) ?_ (fun hHeld => ?_)
      · exact SX.out _ R0d.out.2
      refine tk 0 ?_
      try simp only [Act.put, z1, z2, z3]
      refine tk 1 ?_
      try simp only [Act.put, z1, z2, z3]
      refine tk 2 ?_
      try simp only [Act.put, z1, z2, z3]
      refine tk 3 ?_
      try simp only [Act.put, z1, z2, z3]
      refine tk 4 ?_
      try simp only [Act.put, z1, z2, z3]
      refine tk 5 ?_
      try simp only [Act.put, z1, z2, z3]
      refine tk 6 ?_
      try simp only [Act.put, z1, z2, z3]
      refine tk 7 ?_
      try simp only [Act.put, z1, z2, z3]
      refine tk 8 ?_
      try simp only [Act.put, z1, z2, z3]
      refine tk 9 ?_
      try simp only [Act.put, z1, z2, z3]
      refine wpAnyH_ready (rs := [10]) (by kernel_rfl) (by simp) ?_
      refine (AllReadyH.cons (i := 10) (o := ?o91) ?h91 (fun K hK => ?k91) AllReadyH.nil)
      case h91 => (simp only [List.getElem?_toArray, List.getElem?_cons_succ, List.getElem?_cons_zero]; try rfl)
      case k91 =>
        go_simp
        go_at_call 34; (with_reducible refine OC.out.mono ?_); rintro e v1 ⟨rfl, g1, g2⟩; have R1 := Lib.hid (And.intro g1 (R0d.out.2.tr g2)); clear g1 g2
        try go_wp2_with fail
        refine hK.out _ _ ?_ (fun hHeld => ?_)
        · exact SX.out _ R1.out.2
        clear hK K
        try simp only [Act.put, z1, z2, z3]
        refine tk 11 ?_
        try simp only [Act.put, z1, z2, z3]
        refine tk 12 ?_
        try simp only [Act.put, z1, z2, z3]
        refine tk 13 ?_
        try simp only [Act.put, z1, z2, z3]
        refine tk 14 ?_
        try simp only [Act.put, z1, z2, z3]
        refine wpAnyH_ready (rs := [15]) (by kernel_rfl) (by simp) ?_
        refine (AllReadyH.cons (i := 15) (o := ?o96) ?h96 (fun K hK => ?k96) AllReadyH.nil)
        case h96 => (simp only [List.getElem?_toArray, List.getElem?_cons_succ, List.getElem?_cons_zero]; try rfl)
        case k96 =>
          go_simp
          go_at_call 37; (with_reducible refine (M2.out _ R1.out.2 R1.out.1).mono ?_); rintro e v2 ⟨rfl, g1, g2⟩; have R2 := Lib.hid (And.intro g1 g2); clear g1 g2
          try go_wp2_with fail
          refine hK.out _ _ ?_ (fun hHeld => ?_)
          · exact SX.out _ R2.out.2
          clear hK K
          try simp only [Act.put, z1, z2, z3]
          refine tk 16 ?_
          try simp only [Act.put, z1, z2, z3]
          refine tk 17 ?_
          try simp only [Act.put, z1, z2, z3]
          refine wpAnyH_done (by kernel_rfl) ?_ _
          go_wp2
          go_ret
          exact ⟨rfl, R2.out.1, HFV.out.tr R2.out.2⟩
    · rw [hm] at M2
      rw [show exP F t gen s = (true, (functionM F t (varM t.at_ s).2).2) from hgo.trans (Prod.ext hm rfl)]
      clear hm hgo
      go_enter Tryd.func36, Tryd.ntmps36
      go_wp2
      refine wp_region_held_drew (S := (fun w' => w'.cell? ⟨pt, 1, none⟩ = some (.map (some mv)) ∧ w'.cell? ⟨w.heap.size, 0, none⟩ = some (.int .i64 12) ∧ w'.cell? ⟨w.heap.size, 1, none⟩ = some (.int .i64 t.at_) ∧ w'.cell? ⟨w.heap.size, 2, none⟩ = some (.string t.name) ∧ w'.cell? ⟨w.heap.size, 3, none⟩ = some (.int .u64 t.num) ∧ w'.cell? ⟨w.heap.size, 4, none⟩ = some (.string t.op) ∧ w'.cell? ⟨w.heap.size, 5, none⟩ = some (.slice A t.kids.length cap))) (by kernel_rfl) ?_ (fun hHeld => ?_)
      · exact SX.out _ R0d.out.2
      refine tk 0 ?_
      try simp only [Act.put, z1, z2, z3]
      refine tk 1 ?_
      try simp only [Act.put, z1, z2, z3]
      refine tk 2 ?_
      try simp only [Act.put, z1, z2, z3]
      refine tk 3 ?_
      try simp only [Act.put, z1, z2, z3]
      refine tk 4 ?_
      try simp only [Act.put, z1, z2, z3]
      refine tk 5 ?_
      try simp only [Act.put, z1, z2, z3]
      refine tk 6 ?_
      try simp only [Act.put, z1, z2, z3]
      refine tk 7 ?_
      try simp only [Act.put, z1, z2, z3]
      refine tk 8 ?_
      try simp only [Act.put, z1, z2, z3]
      refine tk 9 ?_
      try simp only [Act.put, z1, z2, z3]
      refine wpAnyH_ready (rs := [10]) (by kernel_rfl) (by simp) ?_
      refine (AllReadyH.cons (i := 10) (o := ?o109) ?h109 (fun K hK => ?k109) AllReadyH.nil)
      case h109 => (simp only [List.getElem?_toArray, List.getElem?_cons_succ, List.getElem?_cons_zero]; try rfl)
      case k109 =>
        go_simp
        go_at_call 34; (with_reducible refine OC.out.mono ?_); rintro e v1 ⟨rfl, g1, g2⟩; have R1 := Lib.hid (And.intro g1 (R0d.out.2.tr g2)); clear g1 g2
        try go_wp2_with fail
        refine hK.out _ _ ?_ (fun hHeld => ?_)
        · exact SX.out _ R1.out.2
        clear hK K
        try simp only [Act.put, z1, z2, z3]
        refine tk 11 ?_
        try simp only [Act.put, z1, z2, z3]
        refine tk 12 ?_
        try simp only [Act.put, z1, z2, z3]
        refine tk 13 ?_
        try simp only [Act.put, z1, z2, z3]
        refine tk 14 ?_
        try simp only [Act.put, z1, z2, z3]
        refine wpAnyH_ready (rs := [15]) (by kernel_rfl) (by simp) ?_
        refine (AllReadyH.cons (i := 15) (o := ?o114) ?h114 (fun K hK => ?k114) AllReadyH.nil)
        case h114 => (simp only [List.getElem?_toArray, List.getElem?_cons_succ, List.getElem?_cons_zero]; try rfl)
        case k114 =>
          go_simp
          go_at_call 37; (with_reducible refine (M2.out _ R1.out.2 R1.out.1).mono ?_); rintro e v2 ⟨rfl, g1, g2⟩; have R2 := Lib.hid (And.intro g1 g2); clear g1 g2
          try go_wp2_with fail
          refine hK.out _ _ ?_ (fun hHeld => ?_)
          · exact SX.out _ R2.out.2
          clear hK K
          try simp only [Act.put, z1, z2, z3]
          refine tk 16 ?_
          try simp only [Act.put, z1, z2, z3]
          refine tk 17 ?_
          try simp only [Act.put, z1, z2, z3]
          refine wpAnyH_done (by kernel_rfl) ?_ _
          go_wp2
          go_ret
          exact ⟨rfl, R2.out.1, HFV.out.tr R2.out.2⟩
end Go.Proofs.YtlenhcmgcgccmaaDoor
