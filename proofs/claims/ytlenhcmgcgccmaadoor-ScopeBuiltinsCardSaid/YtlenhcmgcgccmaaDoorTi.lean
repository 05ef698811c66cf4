/- Scope: Right: function. -/
import Derived.Test.YtlenhcmgcgccmaaDoorTh
namespace Go.Proofs.YtlenhcmgcgccmaaDoor
open Go.RowKit Go
set_option linter.unusedVariables false
set_option linter.unusedSimpArgs false
theorem op_ne {s : ByteArray} (h : ¬ s = star) : ¬ s.toList = [42] := fun e => h (by
  have := str_eq s star
  rw [e] at this
  exact of_decide_eq_true (by rw [← this, ByteArray.toList_eq]; rfl))
set_option maxRecDepth 100000 in
set_option maxHeartbeats 8000000 in
theorem fn_step {F : RF} {n : Nat} (G : GoodR F n) (w : World) (B pt mu mv : Nat) (nv : Value) (s : Pl) (t : Tr) (kv : Value) (hr : RW w B pt mu mv nv s) (hd : t.fitsD (n + 1) = true) (hwf : t.wf1) (hk : KidsAt w B kv t.kids) :
    Calls Tryd.prog 37 #[.pointer (some ⟨pt, 0, none⟩), .agg #[.int .i64 t.kind, .int .i64 t.at_, .string t.name, .int .u64 t.num, .string t.op, kv]] w (RP w B pt mu mv nv (functionM F t s)) := by
  obtain ⟨A, cap, rfl, hcl, hcm, hA⟩ := hk.slice
  obtain ⟨V, hV⟩ : ∃ V, w.alloc (.cells #[.int .i64 t.kind, .int .i64 t.at_, .string t.name, .int .u64 t.num, .string t.op, .slice A t.kids.length cap] 31) = V := ⟨_, rfl⟩
  have hWV : Below w.heap.size w V := by rw [← hV]; exact below_alloc (Below.refl _ _)
  have hRV : RW V B pt mu mv nv s := hr.fr hWV
  have HFV := Lib.hid (show Fr (SR mu mv) w V from Fr.of_below hWV)
  have hb8 : Blk V w.heap.size 31 #[.int .i64 t.kind, .int .i64 t.at_, .string t.name, .int .u64 t.num, .string t.op, .slice A t.kids.length cap] := by rw [← hV]; exact Blk.new _ _ _
  have hKV := hk.under (hWV.mono hr.size)
  have HV := Lib.hid hV
  have hpl := hr.blk.lt
  have hdk : ∀ k ∈ t.kids, k.fitsD n = true := fun k hk => Tr.fitsD_kid hd hk
  have N8 := Fr.not_sr hRV hb8
  unfold RP
  clear hr hd hwf hk hWV hV
  rcases Nat.eq_zero_or_pos t.kids.length with h0 | hpos
  · have hP : functionM F t = okM false := by unfold functionM; rw [List.eq_nil_of_length_eq_zero h0]; rfl
    rw [hP]
    have RV0 := hRV
    rw [← HV.out] at RV0
    rw [h0] at HV hb8 RV0 ⊢
    have RV := Lib.hid RV0
    clear RV0
    rw [← HV.out] at HFV
    have hw1 : IntKind.i64.wrap (((0 : Nat) : Int) - 1) = -1 := by decide
    clear hP h0 hRV hb8 hKV hdk N8 G hA hcl hcm
    go_enter Tryd.func37, Tryd.ntmps37
    go_wp2
    go_ret
    exact ⟨rfl, RV.out, HFV.out⟩
  · obtain ⟨m, hm⟩ : ∃ m, t.kids.length = m + 1 := ⟨t.kids.length - 1, by omega⟩
    obtain ⟨body, hbody⟩ : ∃ x, t.kids[m]? = some x := ⟨_, List.getElem?_eq_getElem (by omega)⟩
    obtain ⟨b, off, rfl, hbB⟩ := hA hpos
    have hP : functionM F t = if (t.op = ⟨#[]⟩ ∨ t.op = star) ∧ body.kind = 44 then andM (allM parM (t.kids.take m)) (blockM F body.kids (decide (t.op = star))) else okM false := by
      unfold functionM; rw [List.getLast?_eq_getElem?, hm, Nat.add_sub_cancel, hbody, List.dropLast_eq_take, hm, Nat.add_sub_cancel]
    rw [hP]
    clear hP
    have hfront : KidsAt V B (.slice (some ⟨b, off, none⟩) m cap) (t.kids.take m) := hKV.front m (by omega)
    have hfl : (t.kids.take m).length = m := by rw [List.length_take]; omega
    obtain ⟨_, hwfb, kvb, hNb, hKb⟩ := hKV.kid hbody
    obtain ⟨Ab, capb, rfl, _, _, _⟩ := hKb.slice
    have hcm' : (m : Int) + 1 ≤ (cap : Int) ∧ (cap : Int) ≤ 9223372036854775807 := by simp [maxLen] at hcm; omega
    have hw1 : IntKind.i64.wrap (((m + 1 : Nat) : Int) - 1) = (m : Int) := by rw [IntKind.wrap_i64]; omega
    have hbk := hdk body (List.mem_of_getElem? hbody)
    have hpk : ∀ k ∈ t.kids.take m, k.fitsD n = true := fun k hk => hdk k (List.mem_of_mem_take hk)
    rw [hm] at HV hb8 ⊢
    have hcl1 : m + 1 ≤ cap := by omega
    obtain ⟨e0, e1, e2, e3, e4, e5⟩ := hNb.get
    generalize t.kids.take m = ps at *
    generalize t.op = op at *
    clear hdk hKV hbody hcl hA hpos hm
    have hRV0 := hRV
    by_cases hop : op = ⟨#[]⟩ ∨ op = star
    · by_cases hb44 : body.kind = 44
      · rw [if_pos ⟨hop, hb44⟩]
        rw [hb44] at e0
        have FX := Lib.hid (fun w' (f : Fr (SR mu mv) V w') => show w'.cell? ⟨w.heap.size, 5, none⟩ = some (.slice (some ⟨b, off, none⟩) (m + 1) cap) ∧ w'.cell? ⟨w.heap.size, 4, none⟩ = some (.string op) ∧ w'.cell? ⟨pt, 1, none⟩ = some (.map (some mv)) ∧ w'.cell? ⟨b, off + m * 6 + 5, none⟩ = some (.slice Ab body.kids.length capb) from
          ⟨f.cell hb8 N8 5 rfl, f.cell hb8 N8 4 rfl, f.cell hRV.blk (Fr.not_sr hRV hRV.blk) 1 rfl, ((Fr.root hRV f).cell (p := ⟨b, off + m * 6 + 5, none⟩) hbB).trans e5⟩)
        have BC := Lib.hid (fun W s1 (f : Fr (SR mu mv) V W) (r : RW W B pt mu mv nv s1) => show Calls Tryd.prog 26 #[.pointer (some ⟨pt, 0, none⟩), .slice Ab body.kids.length capb, .bool (decide (op = star))] W (fun e w' => e = .returned (.bool (blockM F body.kids (decide (op = star)) s1).1) ∧ RW w' B pt mu mv nv (blockM F body.kids (decide (op = star)) s1).2 ∧ Fr (SR mu mv) V w') from
          (block_calls G W B pt mu mv nv s1 body.kids Ab capb (decide (op = star)) r (fun k hk => fitsD_sub hbk hk) (f.to hRV hKb)).mono fun e w' ⟨h1, h2, h3⟩ => ⟨h1, h2, f.tr h3⟩)
        have HPS := Lib.hid (fun W (f : Fr (SR mu mv) V W) => f.to hRV hfront)
        have HRV := Lib.hid hRV
        have HFL := Lib.hid hfl
        have hcol := hcl1
        have eV0 := e0
        rw [← HV.out] at eV0
        have hnot : ∀ (b : Bool) w1, (Op.unary .not (.bool b)).run Tryd.prog w1 = .ok (.bool (!b)) w1 := fun _ _ => rfl
        clear hRV0 e0 e1 e2 e3 e4 e5 hNb hKb hbk hpk hfront hb8 N8 G hb44 hfl
        have hop2 : op = ⟨#[]⟩ ∨ op = ⟨#[42]⟩ := hop
        clear hop
        rcases hop2 with rfl | rfl
        · go_enter Tryd.func37, Tryd.ntmps37
          go_wp2
          rw [HV.out]
          go_loopg [38] m (fun fu ix wr => ∃ (j : Nat) (s' : Pl), ix = .int .i64 j ∧ j + fu = m ∧ RW wr B pt mu mv nv s' ∧ Fr (SR mu mv) V wr ∧ allM parM ps s = allM parM (ps.drop j) s')
          case atStart => exact ⟨0, s, rfl, by omega, HRV.out, Fr.refl _ _, rfl⟩
          case round =>
            obtain ⟨j, s', rfl, hf, h1, h2, h3⟩ := hrel
            have H1 := Lib.hid h1
            have H2 := Lib.hid h2
            have H3 := Lib.hid h3
            clear h1 h2 h3
            rcases Nat.lt_or_ge j m with hj | hj
            · obtain ⟨k, hkj⟩ : ∃ k, ps[j]? = some k := ⟨_, List.getElem?_eq_getElem (by rw [HFL.out]; exact hj)⟩
              obtain ⟨_, hwf, kv', hN, hKk⟩ := (HPS.out _ H2.out).kid hkj
              obtain ⟨d0, d1, d2, d3, d4, d5⟩ := hN.get
              obtain ⟨A', cap', rfl, hcl', hcm'', hA'⟩ := hKk.slice
              have hj' : (j : Int) < (m : Int) := by omega
              obtain ⟨f', hf'⟩ : ∃ f', gk = f' + 1 := ⟨gk - 1, by omega⟩
              have HF := Lib.hid (And.intro hf hf')
              obtain ⟨U, hU⟩ : ∃ U, wr.alloc (.cells #[.int .i64 k.kind, .int .i64 k.at_, .string k.name, .int .u64 k.num, .string k.op, .slice A' k.kids.length cap'] 31) = U := ⟨_, rfl⟩
              have hWU : Below wr.heap.size wr U := by rw [← hU]; exact below_alloc (Below.refl _ _)
              have hRU : RW U B pt mu mv nv s' := H1.out.fr hWU
              have HFU := Lib.hid (show Fr (SR mu mv) V U from H2.out.tr (Fr.of_below hWU))
              have hb7 : Blk U wr.heap.size 31 #[.int .i64 k.kind, .int .i64 k.at_, .string k.name, .int .u64 k.num, .string k.op, .slice A' k.kids.length cap'] := by rw [← hU]; exact Blk.new _ _ _
              have HU := Lib.hid hU
              have N7 := Fr.not_sr hRU hb7
              have NP := Fr.not_sr hRU hRU.blk
              have hptl := H1.out.blk.lt
              have HSt := Lib.hid (show allM parM ps s = andM (parM k) (allM parM (ps.drop (j + 1))) s' from by rw [H3.out, drop_at' hkj]; rfl)
              have FD := Lib.hid (Fr.refl (SR mu mv) U).drew
              clear hf hf' hkj hKk hN hWU hU
              by_cases hk3 : k.kind = 3
              · rw [hk3] at d0 HU hb7
                by_cases hk0 : k.kids.length = 0
                · rw [hk0] at d5 HU hb7
                  have hE0 : parM k s' = varM k.at_ s' := by unfold parM; rw [if_pos ⟨hk3, List.eq_nil_of_length_eq_zero hk0⟩]
                  have SX := Lib.hid (fun w' (f : Fr (SR mu mv) U w') => show (fun w' => w'.cell? ⟨wr.heap.size, 0, none⟩ = some (.int .i64 3) ∧ w'.cell? ⟨wr.heap.size, 1, none⟩ = some (.int .i64 k.at_) ∧ w'.cell? ⟨wr.heap.size, 5, none⟩ = some (.slice A' 0 cap') ∧ w'.cell? ⟨pt, 1, none⟩ = some (.map (some mv))) w' from ⟨f.cell hb7 N7 0 rfl, f.cell hb7 N7 1 rfl, f.cell hb7 N7 5 rfl, f.cell hRU.blk NP 1 rfl⟩)
                  have OC := var_calls hRU.drew (a := k.at_) hwf.1
                  unfold RP at OC
                  clear hb7 hRU hwf N7 NP hk3 hk0
                  cases ho : (varM k.at_ s').1
                  · rw [ho] at OC
                    have OC := Lib.hid OC
                    have HE := Lib.hid (hE0.trans (show _ = (false, (varM k.at_ s').2) from by rw [← ho]))
                    clear ho hE0
                    go_wp2
                    rw [HU.out]
                    refine wp_region_held_drew (S := (fun w' => w'.cell? ⟨wr.heap.size, 0, none⟩ = some (.int .i64 3) ∧ w'.cell? ⟨wr.heap.size, 1, none⟩ = some (.int .i64 k.at_) ∧ w'.cell? ⟨wr.heap.size, 5, none⟩ = some (.slice A' 0 cap') ∧ w'.cell? ⟨pt, 1, none⟩ = some (.map (some mv)))) (by kernel_rfl) ?_ (fun hHeld => ?_)
                    · exact SX.out _ FD.out
                    refine tk 0 ?_
                    try simp only [Act.put, z1, z2, z3]
                    refine tk 1 ?_
                    try simp only [Act.put, z1, z2, z3]
                    refine tk 2 ?_
                    try simp only [Act.put, z1, z2, z3]
                    refine tk 3 ?_
                    try simp only [Act.put, z1, z2, z3]
                    refine tk 4 ?_
                    try simp only [Act.put, z1, z2, z3]
                    refine tk 5 ?_
                    try simp only [Act.put, z1, z2, z3]
                    refine tk 6 ?_
                    try simp only [Act.put, z1, z2, z3]
                    refine tk 7 ?_
                    try simp only [Act.put, z1, z2, z3]
                    refine tk 8 ?_
                    try simp only [Act.put, z1, z2, z3]
                    refine tk 9 ?_
                    try simp only [Act.put, z1, z2, z3]
                    refine tk 10 ?_
                    try simp only [Act.put, z1, z2, z3]
                    refine tk 11 ?_
                    try simp only [Act.put, z1, z2, z3]
                    refine tk 12 ?_
                    try simp only [Act.put, z1, z2, z3]
                    refine tk 13 ?_
                    try simp only [Act.put, z1, z2, z3]
                    refine tk 14 ?_
                    try simp only [Act.put, z1, z2, z3]
                    refine tk 15 ?_
                    try simp only [Act.put, z1, z2, z3]
                    refine wpAnyH_ready (rs := [16]) (by kernel_rfl) (by simp) ?_
                    refine (AllReadyH.cons (i := 16) (o := ?o17) ?h17 (fun K hK => ?k17) AllReadyH.nil)
                    case h17 => (simp only [List.getElem?_toArray, List.getElem?_cons_succ, List.getElem?_cons_zero]; try rfl)
                    case k17 =>
                      go_simp
                      go_at_call 34; (with_reducible refine OC.out.mono ?_); rintro e w5 ⟨rfl, g1, g2⟩; have G1 := Lib.hid g1; have G2 := Lib.hid (FD.out.tr g2); clear g1 g2
                      try go_wp2_with fail
                      refine hK.out _ _ ?_ (fun hHeld => ?_)
                      · exact SX.out _ G2.out
                      clear hK K
                      try simp only [Act.put, z1, z2, z3]
                      refine tk 17 ?_
                      try simp only [Act.put, z1, z2, z3]
                      refine tk 18 ?_
                      try simp only [Act.put, z1, z2, z3]
                      refine wpAnyH_done (by kernel_rfl) ?_ _
                      go_wp2
                      go_ret
                      rw [andM_false (by rw [HSt.out, andM_false (by rw [HE.out])]), HSt.out, andM_false (by rw [HE.out]), HE.out]
                      exact ⟨rfl, G1.out, (HFV.out.tr HFU.out).tr G2.out⟩
                  · rw [ho] at OC
                    have OC := Lib.hid OC
                    have HE := Lib.hid (hE0.trans (show _ = (true, (varM k.at_ s').2) from by rw [← ho]))
                    clear ho hE0
                    go_wp2
                    rw [HU.out]
                    refine wp_region_held_drew (S := (fun w' => w'.cell? ⟨wr.heap.size, 0, none⟩ = some (.int .i64 3) ∧ w'.cell? ⟨wr.heap.size, 1, none⟩ = some (.int .i64 k.at_) ∧ w'.cell? ⟨wr.heap.size, 5, none⟩ = some (.slice A' 0 cap') ∧ w'.cell? ⟨pt, 1, none⟩ = some (.map (some mv)))) (by kernel_rfl) ?_ (fun hHeld => ?_)
                    · exact SX.out _ FD.out
                    refine tk 0 ?_
                    try simp only [Act.put, z1, z2, z3]
                    refine tk 1 ?_
                    try simp only [Act.put, z1, z2, z3]
                    refine tk 2 ?_
                    try simp only [Act.put, z1, z2, z3]
                    refine tk 3 ?_
                    try simp only [Act.put, z1, z2, z3]
                    refine tk 4 ?_
                    try simp only [Act.put, z1, z2, z3]
                    refine tk 5 ?_
                    try simp only [Act.put, z1, z2, z3]
                    refine tk 6 ?_
                    try simp only [Act.put, z1, z2, z3]
                    refine tk 7 ?_
                    try simp only [Act.put, z1, z2, z3]
                    refine tk 8 ?_
                    try simp only [Act.put, z1, z2, z3]
                    refine tk 9 ?_
                    try simp only [Act.put, z1, z2, z3]
                    refine tk 10 ?_
                    try simp only [Act.put, z1, z2, z3]
                    refine tk 11 ?_
                    try simp only [Act.put, z1, z2, z3]
                    refine tk 12 ?_
                    try simp only [Act.put, z1, z2, z3]
                    refine tk 13 ?_
                    try simp only [Act.put, z1, z2, z3]
                    refine tk 14 ?_
                    try simp only [Act.put, z1, z2, z3]
                    refine tk 15 ?_
                    try simp only [Act.put, z1, z2, z3]
                    refine wpAnyH_ready (rs := [16]) (by kernel_rfl) (by simp) ?_
                    refine (AllReadyH.cons (i := 16) (o := ?o36) ?h36 (fun K hK => ?k36) AllReadyH.nil)
                    case h36 => (simp only [List.getElem?_toArray, List.getElem?_cons_succ, List.getElem?_cons_zero]; try rfl)
                    case k36 =>
                      go_simp
                      go_at_call 34; (with_reducible refine OC.out.mono ?_); rintro e w5 ⟨rfl, g1, g2⟩; have G1 := Lib.hid g1; have G2 := Lib.hid (FD.out.tr g2); clear g1 g2
                      try go_wp2_with fail
                      refine hK.out _ _ ?_ (fun hHeld => ?_)
                      · exact SX.out _ G2.out
                      clear hK K
                      try simp only [Act.put, z1, z2, z3]
                      refine tk 17 ?_
                      try simp only [Act.put, z1, z2, z3]
                      refine tk 18 ?_
                      try simp only [Act.put, z1, z2, z3]
                      refine wpAnyH_done (by kernel_rfl) ?_ _
                      go_wp2
                      go_roundg f'
                      case measure => have := HF.out; omega
                      case rel => exact ⟨j + 1, _, by simp, by have := HF.out; omega, G1.out, HFU.out.tr G2.out, by rw [HSt.out, andM_true (by rw [HE.out]), HE.out]⟩
                · obtain ⟨q, hq⟩ : ∃ q, k.kids.length = q := ⟨_, rfl⟩
                  have q0 : (0 : Int) < (q : Int) := by omega
                  have q0' : 0 < q := by omega
                  have hE0 : parM k s' = (false, s') := by unfold parM; rw [if_neg (fun h => hk0 (by rw [h.2]; rfl))]; rfl
                  rw [hq] at d5 HU hb7
                  have SX := Lib.hid (fun w' (f : Fr (SR mu mv) U w') => show (fun w' => w'.cell? ⟨wr.heap.size, 0, none⟩ = some (.int .i64 3) ∧ w'.cell? ⟨wr.heap.size, 1, none⟩ = some (.int .i64 k.at_) ∧ w'.cell? ⟨wr.heap.size, 5, none⟩ = some (.slice A' q cap') ∧ w'.cell? ⟨pt, 1, none⟩ = some (.map (some mv))) w' from ⟨f.cell hb7 N7 0 rfl, f.cell hb7 N7 1 rfl, f.cell hb7 N7 5 rfl, f.cell hRU.blk NP 1 rfl⟩)
                  have HE := Lib.hid hE0
                  have G1 := Lib.hid hRU.drew
                  have G2 := Lib.hid (Fr.refl (SR mu mv) U).drew
                  clear hb7 hRU hwf N7 NP hk3 hk0 hE0 hq
                  go_wp2
                  rw [HU.out]
                  refine wp_region_held_drew (S := (fun w' => w'.cell? ⟨wr.heap.size, 0, none⟩ = some (.int .i64 3) ∧ w'.cell? ⟨wr.heap.size, 1, none⟩ = some (.int .i64 k.at_) ∧ w'.cell? ⟨wr.heap.size, 5, none⟩ = some (.slice A' q cap') ∧ w'.cell? ⟨pt, 1, none⟩ = some (.map (some mv)))) (by kernel_rfl) ?_ (fun hHeld => ?_)
                  · exact SX.out _ FD.out
                  refine tk 0 ?_
                  try simp only [Act.put, z1, z2, z3]
                  refine tk 1 ?_
                  try simp only [Act.put, z1, z2, z3]
                  refine tk 2 ?_
                  try simp only [Act.put, z1, z2, z3]
                  refine tk 3 ?_
                  try simp only [Act.put, z1, z2, z3]
                  refine tk 4 ?_
                  try simp only [Act.put, z1, z2, z3]
                  refine tk 5 ?_
                  try simp only [Act.put, z1, z2, z3]
                  refine tk 6 ?_
                  try simp only [Act.put, z1, z2, z3]
                  refine tk 7 ?_
                  try simp only [Act.put, z1, z2, z3]
                  refine tk 8 ?_
                  try simp only [Act.put, z1, z2, z3]
                  refine tk 9 ?_
                  try simp only [Act.put, z1, z2, z3]
                  refine tn 10 ?_
                  try simp only [Act.put, z1, z2, z3]
                  refine tn 11 ?_
                  try simp only [Act.put, z1, z2, z3]
                  refine tn 12 ?_
                  try simp only [Act.put, z1, z2, z3]
                  refine tn 13 ?_
                  try simp only [Act.put, z1, z2, z3]
                  refine tn 14 ?_
                  try simp only [Act.put, z1, z2, z3]
                  refine tn 15 ?_
                  try simp only [Act.put, z1, z2, z3]
                  refine tn 16 ?_
                  try simp only [Act.put, z1, z2, z3]
                  refine tn 17 ?_
                  try simp only [Act.put, z1, z2, z3]
                  refine tk 18 ?_
                  try simp only [Act.put, z1, z2, z3]
                  refine wpAnyH_done (by kernel_rfl) ?_ _
                  go_wp2
                  go_ret
                  rw [andM_false (by rw [HSt.out, andM_false (by rw [HE.out])]), HSt.out, andM_false (by rw [HE.out]), HE.out]
                  exact ⟨rfl, G1.out, (HFV.out.tr HFU.out).tr G2.out⟩
              · have q3 : (k.kind == 3) = false := by simp [hk3]
                have q3' : (k.kind != 3) = true := by simp [hk3]
                have hE0 : parM k s' = (false, s') := by unfold parM; rw [if_neg (fun h => hk3 h.1)]; rfl
                have SX := Lib.hid (fun w' (f : Fr (SR mu mv) U w') => show (fun w' => w'.cell? ⟨wr.heap.size, 0, none⟩ = some (.int .i64 k.kind) ∧ w'.cell? ⟨wr.heap.size, 1, none⟩ = some (.int .i64 k.at_) ∧ w'.cell? ⟨wr.heap.size, 5, none⟩ = some (.slice A' k.kids.length cap') ∧ w'.cell? ⟨pt, 1, none⟩ = some (.map (some mv))) w' from ⟨f.cell hb7 N7 0 rfl, f.cell hb7 N7 1 rfl, f.cell hb7 N7 5 rfl, f.cell hRU.blk NP 1 rfl⟩)
                have HE := Lib.hid hE0
                have G1 := Lib.hid hRU.drew
                have G2 := Lib.hid (Fr.refl (SR mu mv) U).drew
                clear hb7 hRU hwf N7 NP hk3 hE0
                go_wp2
                rw [HU.out]
                refine wp_region_held_drew (S := (fun w' => w'.cell? ⟨wr.heap.size, 0, none⟩ = some (.int .i64 k.kind) ∧ w'.cell? ⟨wr.heap.size, 1, none⟩ = some (.int .i64 k.at_) ∧ w'.cell? ⟨wr.heap.size, 5, none⟩ = some (.slice A' k.kids.length cap') ∧ w'.cell? ⟨pt, 1, none⟩ = some (.map (some mv)))) (by kernel_rfl) ?_ (fun hHeld => ?_)
                · exact SX.out _ FD.out
                refine tk 0 ?_
                try simp only [Act.put, z1, z2, z3]
                refine tk 1 ?_
                try simp only [Act.put, z1, z2, z3]
                refine tk 2 ?_
                try simp only [Act.put, z1, z2, z3]
                refine tk 3 ?_
                try simp only [Act.put, z1, z2, z3]
                refine tn 4 ?_
                try simp only [Act.put, z1, z2, z3]
                refine tn 5 ?_
                try simp only [Act.put, z1, z2, z3]
                refine tn 6 ?_
                try simp only [Act.put, z1, z2, z3]
                refine tn 7 ?_
                try simp only [Act.put, z1, z2, z3]
                refine tk 8 ?_
                try simp only [Act.put, z1, z2, z3]
                refine tk 9 ?_
                try simp only [Act.put, z1, z2, z3]
                refine tn 10 ?_
                try simp only [Act.put, z1, z2, z3]
                refine tn 11 ?_
                try simp only [Act.put, z1, z2, z3]
                refine tn 12 ?_
                try simp only [Act.put, z1, z2, z3]
                refine tn 13 ?_
                try simp only [Act.put, z1, z2, z3]
                refine tn 14 ?_
                try simp only [Act.put, z1, z2, z3]
                refine tn 15 ?_
                try simp only [Act.put, z1, z2, z3]
                refine tn 16 ?_
                try simp only [Act.put, z1, z2, z3]
                refine tn 17 ?_
                try simp only [Act.put, z1, z2, z3]
                refine tk 18 ?_
                try simp only [Act.put, z1, z2, z3]
                refine wpAnyH_done (by kernel_rfl) ?_ _
                go_wp2
                go_ret
                rw [andM_false (by rw [HSt.out, andM_false (by rw [HE.out])]), HSt.out, andM_false (by rw [HE.out]), HE.out]
                exact ⟨rfl, G1.out, (HFV.out.tr HFU.out).tr G2.out⟩
            · have hjl : j = m := by omega
              have hj' : ¬ (j : Int) < (m : Int) := by omega
              have HJ := Lib.hid (show ps.drop j = [] from by rw [hjl]; exact List.drop_eq_nil_of_le (by rw [HFL.out]; exact Nat.le_refl _))
              have HA := Lib.hid (show allM parM ps s = (true, s') from by rw [H3.out, HJ.out]; rfl)
              obtain ⟨W, hW⟩ : ∃ W : World, wr = W := ⟨_, rfl⟩
              have hR2 := H1.out
              have hF2 := H2.out
              have hX2 := FX.out wr hF2
              have BC2 := Lib.hid (BC.out wr.drew s' hF2.drew hR2.drew)
              have SX := Lib.hid (fun w' (f : Fr (SR mu mv) V w') => show (fun w' => w'.cell? ⟨w.heap.size, 5, none⟩ = some (.slice (some ⟨b, off, none⟩) (m + 1) cap) ∧ w'.cell? ⟨w.heap.size, 4, none⟩ = some (.string ⟨#[]⟩) ∧ w'.cell? ⟨pt, 1, none⟩ = some (.map (some mv)) ∧ w'.cell? ⟨b, off + m * 6 + 5, none⟩ = some (.slice Ab body.kids.length capb)) w' from FX.out w' f)
              have FD := Lib.hid (hF2.drew)
              have HE := Lib.hid (show andM (allM parM ps) (blockM F body.kids (decide ((⟨#[]⟩ : ByteArray) = star))) s = blockM F body.kids (decide ((⟨#[]⟩ : ByteArray) = star)) s' from by rw [andM_true (by rw [HA.out]), HA.out])
              have hptl := hR2.blk.lt
              rw [show decide ((⟨#[]⟩ : ByteArray) = star) = false by decide] at BC2 HE
              obtain ⟨x5, x4, xm, xb⟩ := hX2
              clear hf hjl hR2 hF2 hW BC
              generalize blockM F body.kids false s' = r at *
              go_wp2
              refine wp_region_held_drew (S := (fun w' => w'.cell? ⟨w.heap.size, 5, none⟩ = some (.slice (some ⟨b, off, none⟩) (m + 1) cap) ∧ w'.cell? ⟨w.heap.size, 4, none⟩ = some (.string ⟨#[]⟩) ∧ w'.cell? ⟨pt, 1, none⟩ = some (.map (some mv)) ∧ w'.cell? ⟨b, off + m * 6 + 5, none⟩ = some (.slice Ab body.kids.length capb))) (by kernel_rfl) ?_ (fun hHeld => ?_)
              · exact SX.out _ FD.out
              refine tk 0 ?_
              try simp only [Act.put, z1, z2, z3]
              refine tk 1 ?_
              try simp only [Act.put, z1, z2, z3]
              refine tk 2 ?_
              try simp only [Act.put, z1, z2, z3]
              refine tk 3 ?_
              try simp only [Act.put, z1, z2, z3]
              refine tk 4 ?_
              try simp only [Act.put, z1, z2, z3]
              refine tk 5 ?_
              try simp only [Act.put, z1, z2, z3]
              refine tk 6 ?_
              try simp only [Act.put, z1, z2, z3]
              refine tk 7 ?_
              try simp only [Act.put, z1, z2, z3]
              refine tk 8 ?_
              try simp only [Act.put, z1, z2, z3]
              refine tk 9 ?_
              try simp only [Act.put, z1, z2, z3]
              refine wpAnyH_ready (rs := [10]) (by kernel_rfl) (by simp) ?_
              refine (AllReadyH.cons (i := 10) (o := ?o87) ?h87 (fun K hK => ?k87) AllReadyH.nil)
              case h87 => (simp only [List.getElem?_toArray, List.getElem?_cons_succ, List.getElem?_cons_zero]; try rfl)
              case k87 =>
                go_simp
                go_at_call 26; (with_reducible refine BC2.out.mono ?_); rintro e w5 ⟨rfl, g1, g2⟩; have G1 := Lib.hid g1; have G2 := Lib.hid g2; clear g1 g2
                try go_wp2_with fail
                refine hK.out _ _ ?_ (fun hHeld => ?_)
                · exact SX.out _ G2.out
                clear hK K
                try simp only [Act.put, z1, z2, z3]
                refine tk 11 ?_
                try simp only [Act.put, z1, z2, z3]
                refine wpAnyH_done (by kernel_rfl) ?_ _
                go_wp2
                go_ret
                rw [show decide ((⟨#[]⟩ : ByteArray) = star) = false by decide, HE.out]
                exact ⟨rfl, G1.out, HFV.out.tr G2.out⟩
        · go_enter Tryd.func37, Tryd.ntmps37
          go_wp2
          rw [HV.out]
          go_loopg [38] m (fun fu ix wr => ∃ (j : Nat) (s' : Pl), ix = .int .i64 j ∧ j + fu = m ∧ RW wr B pt mu mv nv s' ∧ Fr (SR mu mv) V wr ∧ allM parM ps s = allM parM (ps.drop j) s')
          case atStart => exact ⟨0, s, rfl, by omega, HRV.out, Fr.refl _ _, rfl⟩
          case round =>
            obtain ⟨j, s', rfl, hf, h1, h2, h3⟩ := hrel
            have H1 := Lib.hid h1
            have H2 := Lib.hid h2
            have H3 := Lib.hid h3
            clear h1 h2 h3
            rcases Nat.lt_or_ge j m with hj | hj
            · obtain ⟨k, hkj⟩ : ∃ k, ps[j]? = some k := ⟨_, List.getElem?_eq_getElem (by rw [HFL.out]; exact hj)⟩
              obtain ⟨_, hwf, kv', hN, hKk⟩ := (HPS.out _ H2.out).kid hkj
              obtain ⟨d0, d1, d2, d3, d4, d5⟩ := hN.get
              obtain ⟨A', cap', rfl, hcl', hcm'', hA'⟩ := hKk.slice
              have hj' : (j : Int) < (m : Int) := by omega
              obtain ⟨f', hf'⟩ : ∃ f', gk = f' + 1 := ⟨gk - 1, by omega⟩
              have HF := Lib.hid (And.intro hf hf')
              obtain ⟨U, hU⟩ : ∃ U, wr.alloc (.cells #[.int .i64 k.kind, .int .i64 k.at_, .string k.name, .int .u64 k.num, .string k.op, .slice A' k.kids.length cap'] 31) = U := ⟨_, rfl⟩
              have hWU : Below wr.heap.size wr U := by rw [← hU]; exact below_alloc (Below.refl _ _)
              have hRU : RW U B pt mu mv nv s' := H1.out.fr hWU
              have HFU := Lib.hid (show Fr (SR mu mv) V U from H2.out.tr (Fr.of_below hWU))
              have hb7 : Blk U wr.heap.size 31 #[.int .i64 k.kind, .int .i64 k.at_, .string k.name, .int .u64 k.num, .string k.op, .slice A' k.kids.length cap'] := by rw [← hU]; exact Blk.new _ _ _
              have HU := Lib.hid hU
              have N7 := Fr.not_sr hRU hb7
              have NP := Fr.not_sr hRU hRU.blk
              have hptl := H1.out.blk.lt
              have HSt := Lib.hid (show allM parM ps s = andM (parM k) (allM parM (ps.drop (j + 1))) s' from by rw [H3.out, drop_at' hkj]; rfl)
              have FD := Lib.hid (Fr.refl (SR mu mv) U).drew
              clear hf hf' hkj hKk hN hWU hU
              by_cases hk3 : k.kind = 3
              · rw [hk3] at d0 HU hb7
                by_cases hk0 : k.kids.length = 0
                · rw [hk0] at d5 HU hb7
                  have hE0 : parM k s' = varM k.at_ s' := by unfold parM; rw [if_pos ⟨hk3, List.eq_nil_of_length_eq_zero hk0⟩]
                  have SX := Lib.hid (fun w' (f : Fr (SR mu mv) U w') => show (fun w' => w'.cell? ⟨wr.heap.size, 0, none⟩ = some (.int .i64 3) ∧ w'.cell? ⟨wr.heap.size, 1, none⟩ = some (.int .i64 k.at_) ∧ w'.cell? ⟨wr.heap.size, 5, none⟩ = some (.slice A' 0 cap') ∧ w'.cell? ⟨pt, 1, none⟩ = some (.map (some mv))) w' from ⟨f.cell hb7 N7 0 rfl, f.cell hb7 N7 1 rfl, f.cell hb7 N7 5 rfl, f.cell hRU.blk NP 1 rfl⟩)
                  have OC := var_calls hRU.drew (a := k.at_) hwf.1
                  unfold RP at OC
                  clear hb7 hRU hwf N7 NP hk3 hk0
                  cases ho : (varM k.at_ s').1
                  · rw [ho] at OC
                    have OC := Lib.hid OC
                    have HE := Lib.hid (hE0.trans (show _ = (false, (varM k.at_ s').2) from by rw [← ho]))
                    clear ho hE0
                    go_wp2
                    rw [HU.out]
                    refine wp_region_held_drew (S := (fun w' => w'.cell? ⟨wr.heap.size, 0, none⟩ = some (.int .i64 3) ∧ w'.cell? ⟨wr.heap.size, 1, none⟩ = some (.int .i64 k.at_) ∧ w'.cell? ⟨wr.heap.size, 5, none⟩ = some (.slice A' 0 cap') ∧ w'.cell? ⟨pt, 1, none⟩ = some (.map (some mv)))) (by kernel_rfl) ?_ (fun hHeld => ?_)
                    · exact SX.out _ FD.out
                    refine tk 0 ?_
                    try simp only [Act.put, z1, z2, z3]
                    refine tk 1 ?_
                    try simp only [Act.put, z1, z2, z3]
                    refine tk 2 ?_
                    try simp only [Act.put, z1, z2, z3]
                    refine tk 3 ?_
                    try simp only [Act.put, z1, z2, z3]
                    refine tk 4 ?_
                    try simp only [Act.put, z1, z2, z3]
                    refine tk 5 ?_
                    try simp only [Act.put, z1, z2, z3]
                    refine tk 6 ?_
                    try simp only [Act.put, z1, z2, z3]
                    refine tk 7 ?_
                    try simp only [Act.put, z1, z2, z3]
                    refine tk 8 ?_
                    try simp only [Act.put, z1, z2, z3]
                    refine tk 9 ?_
                    try simp only [Act.put, z1, z2, z3]
                    refine tk 10 ?_
                    try simp only [Act.put, z1, z2, z3]
                    refine tk 11 ?_
                    try simp only [Act.put, z1, z2, z3]
                    refine tk 12 ?_
                    try simp only [Act.put, z1, z2, z3]
                    refine tk 13 ?_
                    try simp only [Act.put, z1, z2, z3]
                    refine tk 14 ?_
                    try simp only [Act.put, z1, z2, z3]
                    refine tk 15 ?_
                    try simp only [Act.put, z1, z2, z3]
                    refine wpAnyH_ready (rs := [16]) (by kernel_rfl) (by simp) ?_
                    refine (AllReadyH.cons (i := 16) (o := ?o105) ?h105 (fun K hK => ?k105) AllReadyH.nil)
                    case h105 => (simp only [List.getElem?_toArray, List.getElem?_cons_succ, List.getElem?_cons_zero]; try rfl)
                    case k105 =>
                      go_simp
                      go_at_call 34; (with_reducible refine OC.out.mono ?_); rintro e w5 ⟨rfl, g1, g2⟩; have G1 := Lib.hid g1; have G2 := Lib.hid (FD.out.tr g2); clear g1 g2
                      try go_wp2_with fail
                      refine hK.out _ _ ?_ (fun hHeld => ?_)
                      · exact SX.out _ G2.out
                      clear hK K
                      try simp only [Act.put, z1, z2, z3]
                      refine tk 17 ?_
                      try simp only [Act.put, z1, z2, z3]
                      refine tk 18 ?_
                      try simp only [Act.put, z1, z2, z3]
                      refine wpAnyH_done (by kernel_rfl) ?_ _
                      go_wp2
                      go_ret
                      rw [andM_false (by rw [HSt.out, andM_false (by rw [HE.out])]), HSt.out, andM_false (by rw [HE.out]), HE.out]
                      exact ⟨rfl, G1.out, (HFV.out.tr HFU.out).tr G2.out⟩
                  · rw [ho] at OC
                    have OC := Lib.hid OC
                    have HE := Lib.hid (hE0.trans (show _ = (true, (varM k.at_ s').2) from by rw [← ho]))
                    clear ho hE0
                    go_wp2
                    rw [HU.out]
                    refine wp_region_held_drew (S := (fun w' => w'.cell? ⟨wr.heap.size, 0, none⟩ = some (.int .i64 3) ∧ w'.cell? ⟨wr.heap.size, 1, none⟩ = some (.int .i64 k.at_) ∧ w'.cell? ⟨wr.heap.size, 5, none⟩ = some (.slice A' 0 cap') ∧ w'.cell? ⟨pt, 1, none⟩ = some (.map (some mv)))) (by kernel_rfl) ?_ (fun hHeld => ?_)
                    · exact SX.out _ FD.out
                    refine tk 0 ?_
                    try simp only [Act.put, z1, z2, z3]
                    refine tk 1 ?_
                    try simp only [Act.put, z1, z2, z3]
                    refine tk 2 ?_
                    try simp only [Act.put, z1, z2, z3]
                    refine tk 3 ?_
                    try simp only [Act.put, z1, z2, z3]
                    refine tk 4 ?_
                    try simp only [Act.put, z1, z2, z3]
                    refine tk 5 ?_
                    try simp only [Act.put, z1, z2, z3]
                    refine tk 6 ?_
                    try simp only [Act.put, z1, z2, z3]
                    refine tk 7 ?_
                    try simp only [Act.put, z1, z2, z3]
                    refine tk 8 ?_
                    try simp only [Act.put, z1, z2, z3]
                    refine tk 9 ?_
                    try simp only [Act.put, z1, z2, z3]
                    refine tk 10 ?_
                    try simp only [Act.put, z1, z2, z3]
                    refine tk 11 ?_
                    try simp only [Act.put, z1, z2, z3]
                    refine tk 12 ?_
                    try simp only [Act.put, z1, z2, z3]
                    refine tk 13 ?_
                    try simp only [Act.put, z1, z2, z3]
                    refine tk 14 ?_
                    try simp only [Act.put, z1, z2, z3]
                    refine tk 15 ?_
                    try simp only [Act.put, z1, z2, z3]
                    refine wpAnyH_ready (rs := [16]) (by kernel_rfl) (by simp) ?_
                    refine (AllReadyH.cons (i := 16) (o := ?o124) ?h124 (fun K hK => ?k124) AllReadyH.nil)
                    case h124 => (simp only [List.getElem?_toArray, List.getElem?_cons_succ, List.getElem?_cons_zero]; try rfl)
                    case k124 =>
                      go_simp
                      go_at_call 34; (with_reducible refine OC.out.mono ?_); rintro e w5 ⟨rfl, g1, g2⟩; have G1 := Lib.hid g1; have G2 := Lib.hid (FD.out.tr g2); clear g1 g2
                      try go_wp2_with fail
                      refine hK.out _ _ ?_ (fun hHeld => ?_)
                      · exact SX.out _ G2.out
                      clear hK K
                      try simp only [Act.put, z1, z2, z3]
                      refine tk 17 ?_
                      try simp only [Act.put, z1, z2, z3]
                      refine tk 18 ?_
                      try simp only [Act.put, z1, z2, z3]
                      refine wpAnyH_done (by kernel_rfl) ?_ _
                      go_wp2
                      go_roundg f'
                      case measure => have := HF.out; omega
                      case rel => exact ⟨j + 1, _, by simp, by have := HF.out; omega, G1.out, HFU.out.tr G2.out, by rw [HSt.out, andM_true (by rw [HE.out]), HE.out]⟩
                · obtain ⟨q, hq⟩ : ∃ q, k.kids.length = q := ⟨_, rfl⟩
                  have q0 : (0 : Int) < (q : Int) := by omega
                  have q0' : 0 < q := by omega
                  have hE0 : parM k s' = (false, s') := by unfold parM; rw [if_neg (fun h => hk0 (by rw [h.2]; rfl))]; rfl
                  rw [hq] at d5 HU hb7
                  have SX := Lib.hid (fun w' (f : Fr (SR mu mv) U w') => show (fun w' => w'.cell? ⟨wr.heap.size, 0, none⟩ = some (.int .i64 3) ∧ w'.cell? ⟨wr.heap.size, 1, none⟩ = some (.int .i64 k.at_) ∧ w'.cell? ⟨wr.heap.size, 5, none⟩ = some (.slice A' q cap') ∧ w'.cell? ⟨pt, 1, none⟩ = some (.map (some mv))) w' from ⟨f.cell hb7 N7 0 rfl, f.cell hb7 N7 1 rfl, f.cell hb7 N7 5 rfl, f.cell hRU.blk NP 1 rfl⟩)
                  have HE := Lib.hid hE0
                  have G1 := Lib.hid hRU.drew
                  have G2 := Lib.hid (Fr.refl (SR mu mv) U).drew
                  clear hb7 hRU hwf N7 NP hk3 hk0 hE0 hq
                  go_wp2
                  rw [HU.out]
                  refine wp_region_held_drew (S := (fun w' => w'.cell? ⟨wr.heap.size, 0, none⟩ = some (.int .i64 3) ∧ w'.cell? ⟨wr.heap.size, 1, none⟩ = some (.int .i64 k.at_) ∧ w'.cell? ⟨wr.heap.size, 5, none⟩ = some (.slice A' q cap') ∧ w'.cell? ⟨pt, 1, none⟩ = some (.map (some mv)))) (by kernel_rfl) ?_ (fun hHeld => ?_)
                  · exact SX.out _ FD.out
                  refine tk 0 ?_
                  try simp only [Act.put, z1, z2, z3]
                  refine tk 1 ?_
                  try simp only [Act.put, z1, z2, z3]
                  refine tk 2 ?_
                  try simp only [Act.put, z1, z2, z3]
                  refine tk 3 ?_
                  try simp only [Act.put, z1, z2, z3]
                  refine tk 4 ?_
                  try simp only [Act.put, z1, z2, z3]
                  refine tk 5 ?_
                  try simp only [Act.put, z1, z2, z3]
                  refine tk 6 ?_
                  try simp only [Act.put, z1, z2, z3]
                  refine tk 7 ?_
                  try simp only [Act.put, z1, z2, z3]
                  refine tk 8 ?_
                  try simp only [Act.put, z1, z2, z3]
                  refine tk 9 ?_
                  try simp only [Act.put, z1, z2, z3]
                  refine tn 10 ?_
                  try simp only [Act.put, z1, z2, z3]
                  refine tn 11 ?_
                  try simp only [Act.put, z1, z2, z3]
                  refine tn 12 ?_
                  try simp only [Act.put, z1, z2, z3]
                  refine tn 13 ?_
                  try simp only [Act.put, z1, z2, z3]
                  refine tn 14 ?_
                  try simp only [Act.put, z1, z2, z3]
                  refine tn 15 ?_
                  try simp only [Act.put, z1, z2, z3]
                  refine tn 16 ?_
                  try simp only [Act.put, z1, z2, z3]
                  refine tn 17 ?_
                  try simp only [Act.put, z1, z2, z3]
                  refine tk 18 ?_
                  try simp only [Act.put, z1, z2, z3]
                  refine wpAnyH_done (by kernel_rfl) ?_ _
                  go_wp2
                  go_ret
                  rw [andM_false (by rw [HSt.out, andM_false (by rw [HE.out])]), HSt.out, andM_false (by rw [HE.out]), HE.out]
                  exact ⟨rfl, G1.out, (HFV.out.tr HFU.out).tr G2.out⟩
              · have q3 : (k.kind == 3) = false := by simp [hk3]
                have q3' : (k.kind != 3) = true := by simp [hk3]
                have hE0 : parM k s' = (false, s') := by unfold parM; rw [if_neg (fun h => hk3 h.1)]; rfl
                have SX := Lib.hid (fun w' (f : Fr (SR mu mv) U w') => show (fun w' => w'.cell? ⟨wr.heap.size, 0, none⟩ = some (.int .i64 k.kind) ∧ w'.cell? ⟨wr.heap.size, 1, none⟩ = some (.int .i64 k.at_) ∧ w'.cell? ⟨wr.heap.size, 5, none⟩ = some (.slice A' k.kids.length cap') ∧ w'.cell? ⟨pt, 1, none⟩ = some (.map (some mv))) w' from ⟨f.cell hb7 N7 0 rfl, f.cell hb7 N7 1 rfl, f.cell hb7 N7 5 rfl, f.cell hRU.blk NP 1 rfl⟩)
                have HE := Lib.hid hE0
                have G1 := Lib.hid hRU.drew
                have G2 := Lib.hid (Fr.refl (SR mu mv) U).drew
                clear hb7 hRU hwf N7 NP hk3 hE0
                go_wp2
                rw [HU.out]
                refine wp_region_held_drew (S := (fun w' => w'.cell? ⟨wr.heap.size, 0, none⟩ = some (.int .i64 k.kind) ∧ w'.cell? ⟨wr.heap.size, 1, none⟩ = some (.int .i64 k.at_) ∧ w'.cell? ⟨wr.heap.size, 5, none⟩ = some (.slice A' k.kids.length cap') ∧ w'.cell? ⟨pt, 1, none⟩ = some (.map (some mv)))) (by kernel_rfl) ?_ (fun hHeld => ?_)
                · exact SX.out _ FD.out
                refine tk 0 ?_
                try simp only [Act.put, z1, z2, z3]
                refine tk 1 ?_
                try simp only [Act.put, z1, z2, z3]
                refine tk 2 ?_
                try simp only [Act.put, z1, z2, z3]
                refine tk 3 ?_
                try simp only [Act.put, z1, z2, z3]
                refine tn 4 ?_
                try simp only [Act.put, z1, z2, z3]
                refine tn 5 ?_
                try simp only [Act.put, z1, z2, z3]
                refine tn 6 ?_
                try simp only [Act.put, z1, z2, z3]
                refine tn 7 ?_
                try simp only [Act.put, z1, z2, z3]
                refine tk 8 ?_
                try simp only [Act.put, z1, z2, z3]
                refine tk 9 ?_
                try simp only [Act.put, z1, z2, z3]
                refine tn 10 ?_
                try simp only [Act.put, z1, z2, z3]
                refine tn 11 ?_
                try simp only [Act.put, z1, z2, z3]
                refine tn 12 ?_
                try simp only [Act.put, z1, z2, z3]
                refine tn 13 ?_
                try simp only [Act.put, z1, z2, z3]
                refine tn 14 ?_
                try simp only [Act.put, z1, z2, z3]
                refine tn 15 ?_
                try simp only [Act.put, z1, z2, z3]
                refine tn 16 ?_
                try simp only [Act.put, z1, z2, z3]
                refine tn 17 ?_
                try simp only [Act.put, z1, z2, z3]
                refine tk 18 ?_
                try simp only [Act.put, z1, z2, z3]
                refine wpAnyH_done (by kernel_rfl) ?_ _
                go_wp2
                go_ret
                rw [andM_false (by rw [HSt.out, andM_false (by rw [HE.out])]), HSt.out, andM_false (by rw [HE.out]), HE.out]
                exact ⟨rfl, G1.out, (HFV.out.tr HFU.out).tr G2.out⟩
            · have hjl : j = m := by omega
              have hj' : ¬ (j : Int) < (m : Int) := by omega
              have HJ := Lib.hid (show ps.drop j = [] from by rw [hjl]; exact List.drop_eq_nil_of_le (by rw [HFL.out]; exact Nat.le_refl _))
              have HA := Lib.hid (show allM parM ps s = (true, s') from by rw [H3.out, HJ.out]; rfl)
              obtain ⟨W, hW⟩ : ∃ W : World, wr = W := ⟨_, rfl⟩
              have hR2 := H1.out
              have hF2 := H2.out
              have hX2 := FX.out wr hF2
              have BC2 := Lib.hid (BC.out wr.drew s' hF2.drew hR2.drew)
              have SX := Lib.hid (fun w' (f : Fr (SR mu mv) V w') => show (fun w' => w'.cell? ⟨w.heap.size, 5, none⟩ = some (.slice (some ⟨b, off, none⟩) (m + 1) cap) ∧ w'.cell? ⟨w.heap.size, 4, none⟩ = some (.string ⟨#[42]⟩) ∧ w'.cell? ⟨pt, 1, none⟩ = some (.map (some mv)) ∧ w'.cell? ⟨b, off + m * 6 + 5, none⟩ = some (.slice Ab body.kids.length capb)) w' from FX.out w' f)
              have FD := Lib.hid (hF2.drew)
              have HE := Lib.hid (show andM (allM parM ps) (blockM F body.kids (decide ((⟨#[42]⟩ : ByteArray) = star))) s = blockM F body.kids (decide ((⟨#[42]⟩ : ByteArray) = star)) s' from by rw [andM_true (by rw [HA.out]), HA.out])
              have hptl := hR2.blk.lt
              rw [show decide ((⟨#[42]⟩ : ByteArray) = star) = true by decide] at BC2 HE
              obtain ⟨x5, x4, xm, xb⟩ := hX2
              clear hf hjl hR2 hF2 hW BC
              generalize blockM F body.kids true s' = r at *
              go_wp2
              refine wp_region_held_drew (S := (fun w' => w'.cell? ⟨w.heap.size, 5, none⟩ = some (.slice (some ⟨b, off, none⟩) (m + 1) cap) ∧ w'.cell? ⟨w.heap.size, 4, none⟩ = some (.string ⟨#[42]⟩) ∧ w'.cell? ⟨pt, 1, none⟩ = some (.map (some mv)) ∧ w'.cell? ⟨b, off + m * 6 + 5, none⟩ = some (.slice Ab body.kids.length capb))) (by kernel_rfl) ?_ (fun hHeld => ?_)
              · exact SX.out _ FD.out
              refine tk 0 ?_
              try simp only [Act.put, z1, z2, z3]
              refine tk 1 ?_
              try simp only [Act.put, z1, z2, z3]
              refine tk 2 ?_
              try simp only [Act.put, z1, z2, z3]
              refine tk 3 ?_
              try simp only [Act.put, z1, z2, z3]
              refine tk 4 ?_
              try simp only [Act.put, z1, z2, z3]
              refine tk 5 ?_
              try simp only [Act.put, z1, z2, z3]
              refine tk 6 ?_
              try simp only [Act.put, z1, z2, z3]
              refine tk 7 ?_
              try simp only [Act.put, z1, z2, z3]
              refine tk 8 ?_
              try simp only [Act.put, z1, z2, z3]
              refine tk 9 ?_
              try simp only [Act.put, z1, z2, z3]
              refine wpAnyH_ready (rs := [10]) (by kernel_rfl) (by simp) ?_
              refine (AllReadyH.cons (i := 10) (o := ?o175) ?h175 (fun K hK => ?k175) AllReadyH.nil)
              case h175 => (simp only [List.getElem?_toArray, List.getElem?_cons_succ, List.getElem?_cons_zero]; try rfl)
              case k175 =>
                go_simp
                go_at_call 26; (with_reducible refine BC2.out.mono ?_); rintro e w5 ⟨rfl, g1, g2⟩; have G1 := Lib.hid g1; have G2 := Lib.hid g2; clear g1 g2
                try go_wp2_with fail
                refine hK.out _ _ ?_ (fun hHeld => ?_)
                · exact SX.out _ G2.out
                clear hK K
                try simp only [Act.put, z1, z2, z3]
                refine tk 11 ?_
                try simp only [Act.put, z1, z2, z3]
                refine wpAnyH_done (by kernel_rfl) ?_ _
                go_wp2
                go_ret
                rw [show decide ((⟨#[42]⟩ : ByteArray) = star) = true by decide, HE.out]
                exact ⟨rfl, G1.out, HFV.out.tr G2.out⟩
      · have q44 : (body.kind == 44) = false := by simp [hb44]
        have q44' : (body.kind != 44) = true := by simp [hb44]
        rw [if_neg (fun h => hb44 h.2)]
        have E := Lib.hid (show NodeAt (w.alloc (.cells #[.int .i64 t.kind, .int .i64 t.at_, .string t.name, .int .u64 t.num, .string op, .slice (some ⟨b, off, none⟩) (m + 1 : Nat) cap] 31)) b (off + m * 6) (body.cells _) from by rw [HV.out]; exact hNb)
        have RV := Lib.hid (show RW (w.alloc (.cells #[.int .i64 t.kind, .int .i64 t.at_, .string t.name, .int .u64 t.num, .string op, .slice (some ⟨b, off, none⟩) (m + 1 : Nat) cap] 31)) B pt mu mv nv s from by rw [HV.out]; exact hRV)
        rw [← HV.out] at HFV e0
        clear hRV hb8 hfront hNb hKb hbk hpk N8 G e1 e2 e3 e4 e5 hRV0
        rcases hop with rfl | hop
        · go_enter Tryd.func37, Tryd.ntmps37
          go_wp2
          go_ret
          exact ⟨rfl, RV.out, HFV.out⟩
        · obtain rfl : op = ⟨#[42]⟩ := hop
          go_enter Tryd.func37, Tryd.ntmps37
          go_wp2
          go_ret
          exact ⟨rfl, RV.out, HFV.out⟩
    · rw [if_neg (fun h => hop h.1)]
      have q1 := toList_ne (fun h => hop (.inl h))
      have q2 := op_ne (fun h => hop (.inr h))
      have RV := Lib.hid (show RW (w.alloc (.cells #[.int .i64 t.kind, .int .i64 t.at_, .string t.name, .int .u64 t.num, .string op, .slice (some ⟨b, off, none⟩) (m + 1 : Nat) cap] 31)) B pt mu mv nv s from by rw [HV.out]; exact hRV)
      rw [← HV.out] at HFV
      clear hop hRV hb8 hfront hNb hKb hbk hpk N8 G e0 e1 e2 e3 e4 e5 hRV0
      go_enter Tryd.func37, Tryd.ntmps37
      go_wp2
      go_ret
      exact ⟨rfl, RV.out, HFV.out⟩
end Go.Proofs.YtlenhcmgcgccmaaDoor
