/- Scope: Right: expr, an object; expr whole. -/
import Derived.Test.YtlenhcmgcgccmaaDoorTq
namespace Go.Proofs.YtlenhcmgcgccmaaDoor
open Go.RowKit Go
set_option linter.unusedVariables false
set_option linter.unusedSimpArgs false
set_option maxRecDepth 100000 in
set_option maxHeartbeats 8000000 in
theorem ex10 {F : RF} {n : Nat} (G : GoodR F n) (w : World) (B pt mu mv : Nat) (nv : Value) (s : Pl) (t : Tr) (kv : Value) (gen : Bool) (hr : RW w B pt mu mv nv s) (hd : t.fitsD (n + 1) = true) (hwf : t.wf1) (hk : KidsAt w B kv t.kids) (hkind : t.kind = 10) :
    Calls Tryd.prog 36 #[.pointer (some ⟨pt, 0, none⟩), .agg #[.int .i64 t.kind, .int .i64 t.at_, .string t.name, .int .u64 t.num, .string t.op, kv], .bool gen] w (RP w B pt mu mv nv (exP F t gen s)) := by
  have hgo : exP F t gen s = allM (propM F gen) t.kids s := by unfold exP; rw [hkind]; rfl
  rw [hgo]
  obtain ⟨A, cap, rfl, hcl, hcm, hA⟩ := hk.slice
  have hWV : Below w.heap.size w (w.alloc (.cells #[.int .i64 t.kind, .int .i64 t.at_, .string t.name, .int .u64 t.num, .string t.op, .slice A t.kids.length cap] 31)) := below_alloc (Below.refl _ _)
  have hRV : RW (w.alloc (.cells #[.int .i64 t.kind, .int .i64 t.at_, .string t.name, .int .u64 t.num, .string t.op, .slice A t.kids.length cap] 31)) B pt mu mv nv s := hr.fr hWV
  have HFV := Lib.hid (show Fr (SR mu mv) w (w.alloc (.cells #[.int .i64 t.kind, .int .i64 t.at_, .string t.name, .int .u64 t.num, .string t.op, .slice A t.kids.length cap] 31)) from Fr.of_below hWV)
  have RV := Lib.hid hRV
  have hpl := hr.blk.lt
  have hn2 : w.heap.size ≠ pt := by omega
  obtain ⟨cpu, cpv⟩ := hr.cells
  have HRV := Lib.hid hRV
  have HK := Lib.hid (hk.under (hWV.mono hr.size))
  have hdk : ∀ k ∈ t.kids, k.fitsD n = true := fun k hk => Tr.fitsD_kid hd hk
  have HD := Lib.hid hdk
  have HG := Lib.hid G
  have hcap : (t.kids.length : Int) ≤ 9223372036854775807 := by simp [maxLen] at hcm; omega
  unfold RP
  rw [hkind] at HRV HK HFV ⊢
  clear hgo hr hd hwf hk hWV hRV RV hkind G hdk hcl hcm
  generalize t.kids = l at *
  go_enter Tryd.func36, Tryd.ntmps36
  go_wp2
  go_loopg [49] l.length (fun fu ix wr => ∃ (j : Nat) (s' : Pl), ix = .int .i64 j ∧ j + fu = l.length ∧ RW wr B pt mu mv nv s' ∧ Fr (SR mu mv) (w.alloc (.cells #[.int .i64 10, .int .i64 t.at_, .string t.name, .int .u64 t.num, .string t.op, .slice A l.length cap] 31)) wr ∧ allM (propM F gen) l s = allM (propM F gen) (l.drop j) s')
  case atStart => exact ⟨0, s, rfl, by omega, HRV.out, Fr.refl _ _, rfl⟩
  case round =>
    obtain ⟨j, s', rfl, hf, h1, h2, h3⟩ := hrel
    have H1 := Lib.hid h1
    have H2 := Lib.hid h2
    have H3 := Lib.hid h3
    clear h1 h2 h3
    rcases Nat.lt_or_ge j l.length with hj | hj
    · obtain ⟨k, hkj⟩ : ∃ k, l[j]? = some k := ⟨_, List.getElem?_eq_getElem hj⟩
      obtain ⟨b, off, rfl, hbB⟩ := hA (by omega)
      obtain ⟨_, hwf, kv', hN, hKk⟩ := (H2.out.to HRV.out HK.out).kid hkj
      obtain ⟨d0, d1, d2, d3, d4, d5⟩ := hN.get
      obtain ⟨A', cap', rfl, hcl', hcm', hA'⟩ := hKk.slice
      have hj' : (j : Int) < (l.length : Int) := by omega
      obtain ⟨f', hf'⟩ : ∃ f', gk = f' + 1 := ⟨gk - 1, by omega⟩
      have HF := Lib.hid (And.intro hf hf')
      have hU : Below wr.heap.size wr (wr.alloc (.cells #[.int .i64 k.kind, .int .i64 k.at_, .string k.name, .int .u64 k.num, .string k.op, .slice A' k.kids.length cap'] 31)) := below_alloc (Below.refl _ _)
      have hRU := H1.out.fr hU
      have HFU := Lib.hid (H2.out.tr (Fr.of_below (S := SR mu mv) hU))
      have hb9 : Blk (wr.alloc (.cells #[.int .i64 k.kind, .int .i64 k.at_, .string k.name, .int .u64 k.num, .string k.op, .slice A' k.kids.length cap'] 31)) wr.heap.size 31 #[.int .i64 k.kind, .int .i64 k.at_, .string k.name, .int .u64 k.num, .string k.op, .slice A' k.kids.length cap'] := Blk.new _ _ _
      have N9 := Fr.not_sr hRU hb9
      have HSt := Lib.hid (show allM (propM F gen) l s = andM (propM F gen k) (allM (propM F gen) (l.drop (j + 1))) s' from by rw [H3.out, drop_at' hkj]; rfl)
      have hkd := HD.out k (List.mem_of_getElem? hkj)
      have RU := Lib.hid hRU
      clear hf hf'
      by_cases hk11 : k.kind = 11
      · by_cases hl2 : k.kids.length = 2
        · have KX := Lib.hid (fun w' (bw : Below (wr.alloc (.cells #[.int .i64 k.kind, .int .i64 k.at_, .string k.name, .int .u64 k.num, .string k.op, .slice A' k.kids.length cap'] 31)).heap.size (wr.alloc (.cells #[.int .i64 k.kind, .int .i64 k.at_, .string k.name, .int .u64 k.num, .string k.op, .slice A' k.kids.length cap'] 31)) w') => show RW w' B pt mu mv nv s' ∧ Fr (SR mu mv) (w.alloc (.cells #[.int .i64 10, .int .i64 t.at_, .string t.name, .int .u64 t.num, .string t.op, .slice (some ⟨b, off, none⟩) l.length cap] 31)) w' ∧ w'.cell? ⟨wr.heap.size, 0, none⟩ = some (.int .i64 k.kind) ∧ w'.cell? ⟨wr.heap.size, 1, none⟩ = some (.int .i64 k.at_) ∧ w'.cell? ⟨wr.heap.size, 2, none⟩ = some (.string k.name) ∧ w'.cell? ⟨wr.heap.size, 3, none⟩ = some (.int .u64 k.num) ∧ w'.cell? ⟨wr.heap.size, 4, none⟩ = some (.string k.op) ∧ w'.cell? ⟨wr.heap.size, 5, none⟩ = some (.slice A' k.kids.length cap') from
            ⟨hRU.fr bw, HFU.out.tr (Fr.of_below bw), (Fr.of_below (S := SR mu mv) bw).cell hb9 N9 0 rfl, (Fr.of_below (S := SR mu mv) bw).cell hb9 N9 1 rfl, (Fr.of_below (S := SR mu mv) bw).cell hb9 N9 2 rfl, (Fr.of_below (S := SR mu mv) bw).cell hb9 N9 3 rfl, (Fr.of_below (S := SR mu mv) bw).cell hb9 N9 4 rfl, (Fr.of_below (S := SR mu mv) bw).cell hb9 N9 5 rfl⟩)
          have SC := show Calls Tryd.prog 56 #[.string k.op, .string ⟨#[105, 110, 105, 116, 32, 103, 101, 116, 32, 115, 101, 116]⟩] (wr.alloc (.cells #[.int .i64 k.kind, .int .i64 k.at_, .string k.name, .int .u64 k.num, .string k.op, .slice A' k.kids.length cap'] 31)) (fun e w' => e = .returned (.bool (sg k.op wInit)) ∧ Below (wr.alloc (.cells #[.int .i64 k.kind, .int .i64 k.at_, .string k.name, .int .u64 k.num, .string k.op, .slice A' k.kids.length cap'] 31)).heap.size (wr.alloc (.cells #[.int .i64 k.kind, .int .i64 k.at_, .string k.name, .int .u64 k.num, .string k.op, .slice A' k.kids.length cap'] 31)) w') from signs_calls (wr.alloc (.cells #[.int .i64 k.kind, .int .i64 k.at_, .string k.name, .int .u64 k.num, .string k.op, .slice A' k.kids.length cap'] 31)) k.op wInit hRU.tab.here (by decide) (ascii_of (by decide +kernel)) (by decide +kernel)
          have AC := Lib.hid (fun w' (bw : Below (wr.alloc (.cells #[.int .i64 k.kind, .int .i64 k.at_, .string k.name, .int .u64 k.num, .string k.op, .slice A' k.kids.length cap'] 31)).heap.size (wr.alloc (.cells #[.int .i64 k.kind, .int .i64 k.at_, .string k.name, .int .u64 k.num, .string k.op, .slice A' k.kids.length cap'] 31)) w') => show Calls Tryd.prog 55 #[.pointer (some ⟨pt, 0, none⟩), .slice A' 2 cap', .bool gen] w' (fun e w'' => e = .returned (.bool (exsM F k.kids gen s').1) ∧ RW w'' B pt mu mv nv (exsM F k.kids gen s').2 ∧ Fr (SR mu mv) (w.alloc (.cells #[.int .i64 10, .int .i64 t.at_, .string t.name, .int .u64 t.num, .string t.op, .slice (some ⟨b, off, none⟩) l.length cap] 31)) w'') from
            (all_calls' HG.out w' B pt mu mv nv s' k.kids A' cap' gen 2 hl2 (hRU.fr bw) (fun x hx => fitsD_sub hkd hx) (by have h := (hKk.under (hU.mono H1.out.size)).under (bw.mono hRU.size); rw [hl2] at h; exact h)).mono fun e w'' ⟨h1, h2, h3⟩ => ⟨h1, h2, (HFU.out.tr (Fr.of_below bw)).tr h3⟩)
          rw [hk11, hl2] at SC AC KX
          rw [hk11] at d0
          rw [hl2] at d5
          clear hb9 N9 hRU hKk hN hwf hU hkj hkd hcl' hcm' hA' RU HFU HK
          cases hs : sg k.op wInit
          · rw [hs] at SC
            have SC := Lib.hid SC
            have HE := Lib.hid (show propM F gen k s' = (false, s') from by unfold propM; rw [if_neg (fun h => by rw [h.2.2] at hs; cases hs)]; rfl)
            clear hs hk11 hl2 AC
            go_wp2_with (first | (go_at_call 56; (with_reducible refine SC.out.mono ?_); rintro e v1 ⟨rfl, bm⟩; obtain ⟨r1, r2, x0, x1, x2, x3, x4, x5⟩ := KX.out _ bm; have R1 := Lib.hid (And.intro r1 r2); clear bm r1 r2))
            go_ret
            rw [HSt.out, andM_false (by rw [HE.out]), HE.out]
            exact ⟨rfl, R1.out.1, HFV.out.tr R1.out.2⟩
          · rw [hs] at SC
            have SC := Lib.hid SC
            have hE0 : propM F gen k s' = exsM F k.kids gen s' := by unfold propM; rw [if_pos ⟨hk11, hl2, hs⟩]
            clear hs hk11 hl2
            cases hm : (exsM F k.kids gen s').1
            · have HE := Lib.hid (show propM F gen k s' = (false, (exsM F k.kids gen s').2) from hE0.trans (Prod.ext hm rfl))
              rw [hm] at AC
              clear hm hE0
              go_wp2_with (first | (go_at_call 56; (with_reducible refine SC.out.mono ?_); rintro e v1 ⟨rfl, bm⟩; have AW := Lib.hid (AC.out _ bm); obtain ⟨r1, r2, x0, x1, x2, x3, x4, x5⟩ := KX.out _ bm; clear bm r1 r2) | (go_at_call 55; (with_reducible refine AW.out.mono ?_); rintro e v2 ⟨rfl, g1, g2⟩; have R2 := Lib.hid (And.intro g1 g2); clear g1 g2))
              go_ret
              rw [HSt.out, andM_false (by rw [HE.out]), HE.out]
              exact ⟨rfl, R2.out.1, HFV.out.tr R2.out.2⟩
            · have HE := Lib.hid (show propM F gen k s' = (true, (exsM F k.kids gen s').2) from hE0.trans (Prod.ext hm rfl))
              rw [hm] at AC
              clear hm hE0
              go_wp2_with (first | (go_at_call 56; (with_reducible refine SC.out.mono ?_); rintro e v1 ⟨rfl, bm⟩; have AW := Lib.hid (AC.out _ bm); obtain ⟨r1, r2, x0, x1, x2, x3, x4, x5⟩ := KX.out _ bm; clear bm r1 r2) | (go_at_call 55; (with_reducible refine AW.out.mono ?_); rintro e v2 ⟨rfl, g1, g2⟩; have R2 := Lib.hid (And.intro g1 g2); clear g1 g2))
              go_roundg f'
              case measure => have := HF.out; omega
              case rel => exact ⟨j + 1, _, by simp, by have := HF.out; omega, R2.out.1, R2.out.2, by rw [HSt.out, andM_true (by rw [HE.out]), HE.out]⟩
        · have q1 : ((k.kids.length : Int) == 2) = false := by simp; omega
          have q2 : ((k.kids.length : Int) != 2) = true := by simp; omega
          have HE := Lib.hid (show propM F gen k s' = (false, s') from by unfold propM; rw [if_neg (fun h => hl2 h.2.1)]; rfl)
          rw [hk11] at d0 RU HFU
          clear hb9 N9 hRU hKk hN hwf hU hkj hkd hcl' hcm' hA' hk11 hl2 HK
          go_wp2
          go_ret
          rw [HSt.out, andM_false (by rw [HE.out]), HE.out]
          exact ⟨rfl, RU.out, HFV.out.tr HFU.out⟩
      · have q1 : (k.kind == 11) = false := by simp [hk11]
        have q2 : (k.kind != 11) = true := by simp [hk11]
        have HE := Lib.hid (show propM F gen k s' = (false, s') from by unfold propM; rw [if_neg (fun h => hk11 h.1)]; rfl)
        clear hb9 N9 hRU hKk hN hwf hU hkj hkd hcl' hcm' hA' hk11 HK
        go_wp2
        go_ret
        rw [HSt.out, andM_false (by rw [HE.out]), HE.out]
        exact ⟨rfl, RU.out, HFV.out.tr HFU.out⟩
    · have hjl : j = l.length := by omega
      have hj' : ¬ (j : Int) < (l.length : Int) := by omega
      have HJ := Lib.hid hjl
      clear hf hjl
      go_wp2
      go_ret
      rw [H3.out, HJ.out, List.drop_length]
      exact ⟨rfl, H1.out, HFV.out.tr H2.out⟩
set_option maxRecDepth 100000 in
set_option maxHeartbeats 8000000 in
theorem ex_step {F : RF} {n : Nat} (G : GoodR F n) (w : World) (B pt mu mv : Nat) (nv : Value) (s : Pl) (t : Tr) (kv : Value) (gen : Bool) (hr : RW w B pt mu mv nv s) (hd : t.fitsD (n + 1) = true) (hwf : t.wf1) (hk : KidsAt w B kv t.kids) :
    Calls Tryd.prog 36 #[.pointer (some ⟨pt, 0, none⟩), .agg #[.int .i64 t.kind, .int .i64 t.at_, .string t.name, .int .u64 t.num, .string t.op, kv], .bool gen] w (RP w B pt mu mv nv (exP F t gen s)) := by
  by_cases h1 : t.kind = 1
  · exact ex1 G w B pt mu mv nv s t kv gen hr hd hwf hk h1
  by_cases h2 : t.kind = 2
  · exact ex2 G w B pt mu mv nv s t kv gen hr hd hwf hk h2
  by_cases h4 : t.kind = 4
  · exact ex4 G w B pt mu mv nv s t kv gen hr hd hwf hk h4
  by_cases h5 : t.kind = 5
  · exact ex5 G w B pt mu mv nv s t kv gen hr hd hwf hk h5
  by_cases h6 : t.kind = 6
  · exact ex6 G w B pt mu mv nv s t kv gen hr hd hwf hk h6
  by_cases h7 : t.kind = 7
  · exact ex7 G w B pt mu mv nv s t kv gen hr hd hwf hk h7
  by_cases h8 : t.kind = 8
  · exact ex8 G w B pt mu mv nv s t kv gen hr hd hwf hk h8
  by_cases h9 : t.kind = 9
  · exact ex9 G w B pt mu mv nv s t kv gen hr hd hwf hk h9
  by_cases h10 : t.kind = 10
  · exact ex10 G w B pt mu mv nv s t kv gen hr hd hwf hk h10
  by_cases h3 : t.kind = 3
  · by_cases hl : t.kids.length = 0
    · exact ex3 G w B pt mu mv nv s t kv gen hr hd hwf hk h3 hl
    · exact ex3bad G w B pt mu mv nv s t kv gen hr hd hwf hk h3 hl
  by_cases h12 : t.kind = 12
  · by_cases hn : t.name = ⟨#[]⟩
    · exact ex12a G w B pt mu mv nv s t kv gen hr hd hwf hk h12 hn
    · exact ex12b G w B pt mu mv nv s t kv gen hr hd hwf hk h12 hn
  by_cases h14 : t.kind = 14
  · by_cases hl : 0 < t.kids.length
    · exact ex14 G w B pt mu mv nv s t kv gen hr hd hwf hk h14 hl
    · exact exbad14 G w B pt mu mv nv s t kv gen hr hd hwf hk h14 hl
  by_cases h15 : t.kind = 15
  · by_cases hl : 0 < t.kids.length
    · exact ex15 G w B pt mu mv nv s t kv gen hr hd hwf hk h15 hl
    · exact exbad15 G w B pt mu mv nv s t kv gen hr hd hwf hk h15 hl
  by_cases h13 : t.kind = 13
  · by_cases hl : t.kids.length = 2
    · obtain ⟨ka, kb, hkids⟩ := len2 hl
      exact ex13 G w B pt mu mv nv s t kv gen hr hd hwf hk h13 hkids
    · exact exbad13 G w B pt mu mv nv s t kv gen hr hd hwf hk h13 hl
  by_cases h20 : t.kind = 20
  · by_cases hl : t.kids.length = 3
    · obtain ⟨ka, kb, kc, hkids⟩ := len3 hl
      exact ex20 G w B pt mu mv nv s t kv gen hr hd hwf hk h20 hkids
    · exact exbad20 G w B pt mu mv nv s t kv gen hr hd hwf hk h20 hl
  by_cases h16 : t.kind = 16
  · by_cases hl : t.kids.length = 1
    · obtain ⟨ka, hkids⟩ := len1 hl
      cases hs : sg t.op wUnary
      · exact ex16n G w B pt mu mv nv s t kv gen hr hd hwf hk h16 hkids hs
      · exact ex16 G w B pt mu mv nv s t kv gen hr hd hwf hk h16 hkids hs
    · exact exbad16 G w B pt mu mv nv s t kv gen hr hd hwf hk h16 hl
  by_cases h18 : t.kind = 18
  · by_cases hl : t.kids.length = 2
    · obtain ⟨ka, kb, hkids⟩ := len2 hl
      cases hs : sg t.op wBinary
      · exact ex18n G w B pt mu mv nv s t kv gen hr hd hwf hk h18 hkids hs
      · exact ex18 G w B pt mu mv nv s t kv gen hr hd hwf hk h18 hkids hs
    · exact exbad18 G w B pt mu mv nv s t kv gen hr hd hwf hk h18 hl
  by_cases h19 : t.kind = 19
  · by_cases hl : t.kids.length = 2
    · obtain ⟨ka, kb, hkids⟩ := len2 hl
      cases hs : sg t.op wLogic
      · exact ex19n G w B pt mu mv nv s t kv gen hr hd hwf hk h19 hkids hs
      · exact ex19 G w B pt mu mv nv s t kv gen hr hd hwf hk h19 hkids hs
    · exact exbad19 G w B pt mu mv nv s t kv gen hr hd hwf hk h19 hl
  by_cases h17 : t.kind = 17
  · by_cases hl : t.kids.length = 1
    · obtain ⟨ka, hkids⟩ := len1 hl
      cases hs : sg t.op wUpdate
      · exact ex17a G w B pt mu mv nv s t kv gen hr hd hwf hk h17 hkids hs
      · cases h2 : sg t.name wPrePost
        · exact ex17b G w B pt mu mv nv s t kv gen hr hd hwf hk h17 hkids hs h2
        · cases h3' : target ka
          · exact ex17c G w B pt mu mv nv s t kv gen hr hd hwf hk h17 hkids hs h2 h3'
          · exact ex17 G w B pt mu mv nv s t kv gen hr hd hwf hk h17 hkids hs h2 h3'
    · exact exbad17 G w B pt mu mv nv s t kv gen hr hd hwf hk h17 hl
  by_cases h21 : t.kind = 21
  · by_cases hl : t.kids.length = 2
    · obtain ⟨ka, kb, hkids⟩ := len2 hl
      cases hs : sg t.op wAssign
      · exact ex21a G w B pt mu mv nv s t kv gen hr hd hwf hk h21 hkids hs
      · cases h3' : target ka
        · exact ex21b G w B pt mu mv nv s t kv gen hr hd hwf hk h21 hkids hs h3'
        · exact ex21 G w B pt mu mv nv s t kv gen hr hd hwf hk h21 hkids hs h3'
    · exact exbad21 G w B pt mu mv nv s t kv gen hr hd hwf hk h21 hl
  by_cases h22 : t.kind = 22
  · by_cases hl : t.kids.length = 1
    · obtain ⟨ka, hkids⟩ := len1 hl
      cases gen
      · exact ex22n G w B pt mu mv nv s t kv false hr hd hwf hk h22 rfl
      · exact ex22 G w B pt mu mv nv s t kv hr hd hwf hk h22 hkids
    · exact exbad22 G w B pt mu mv nv s t kv gen hr hd hwf hk h22 hl
  exact exno G w B pt mu mv nv s t kv gen hr hd hwf hk h1 h2 h3 h4 h5 h6 h7 h8 h9 h10 h12 h13 h14 h15 h16 h17 h18 h19 h20 h21 h22
end Go.Proofs.YtlenhcmgcgccmaaDoor
