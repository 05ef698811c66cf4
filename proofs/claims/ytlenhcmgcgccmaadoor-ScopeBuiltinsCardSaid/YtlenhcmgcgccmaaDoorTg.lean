/- Scope: Right: block. -/
import Derived.Test.YtlenhcmgcgccmaaDoorRh
namespace Go.Proofs.YtlenhcmgcgccmaaDoor
open Go.RowKit Go
set_option linter.unusedVariables false
set_option linter.unusedSimpArgs false
theorem fitsD_sub {n : Nat} {t k : Tr} (h : t.fitsD n = true) (hk : k ∈ t.kids) : k.fitsD n = true := by
  rcases n with _ | n
  · cases h
  · exact Tr.fitsD_mono (by omega) (Tr.fitsD_kid h hk)
theorem var_calls {w : World} {B pt mu mv : Nat} {nv : Value} {s : Pl} (hr : RW w B pt mu mv nv s) {a : Int} (ha : (Lit.int .i64 a).wf = true) :
    Calls Tryd.prog 34 #[.map (some mv), .int .i64 a] w (RP w B pt mu mv nv (varM a s)) :=
  (once_all w mv a s.vars ha hr.mv_).mono fun e w' ⟨h1, h2, h3⟩ => ⟨h1, hr.vared h2 h3, (Fr.refl _ _).grown h3 fun b hb => by cases hb; exact .inl (.inr rfl)⟩
theorem use_calls {w : World} {B pt mu mv : Nat} {nv : Value} {s : Pl} (hr : RW w B pt mu mv nv s) {a : Int} (ha : (Lit.int .i64 a).wf = true) :
    Calls Tryd.prog 34 #[.map (some mu), .int .i64 a] w (RP w B pt mu mv nv (useM a s)) :=
  (once_all w mu a s.uses ha hr.mu_).mono fun e w' ⟨h1, h2, h3⟩ => ⟨h1, hr.used h2 h3, (Fr.refl _ _).grown h3 fun b hb => by cases hb; exact .inl (.inl rfl)⟩
theorem RW.drew {w : World} {B pt mu mv : Nat} {nv : Value} {s : Pl} (h : RW w B pt mu mv nv s) : RW w.drew B pt mu mv nv s := h.fr (Below.refl _ _).drew
theorem Fr.to {w w' : World} {B pt mu mv : Nat} {nv : Value} {s : Pl} (h : RW w B pt mu mv nv s) (f : Fr (SR mu mv) w w') {v : Value} {l : List Tr} (hk : KidsAt w B v l) : KidsAt w' B v l := hk.under (Fr.root h f)
theorem Fr.cell {S : Nat → Prop} {w w' : World} (h : Fr S w w') {b : Nat} {t : TypeId} {cs : Array Value} (hb : Blk w b t cs) (hn : ¬ S b) (j : Nat) {u : Value} (hj : cs[j]? = some u) : w'.cell? ⟨b, j, none⟩ = some u := ((h.blk hb hn).cell j).trans hj
set_option maxRecDepth 100000 in
set_option maxHeartbeats 8000000 in
theorem block_calls {F : RF} {n : Nat} (G : GoodR F n) (w : World) (B pt mu mv : Nat) (nv : Value) (s : Pl) (l : List Tr) (A : Option Addr) (cap : Nat) (gen : Bool) (hr : RW w B pt mu mv nv s) (hd : ∀ t ∈ l, t.fitsD n = true) (hk : KidsAt w B (.slice A l.length cap) l) :
    Calls Tryd.prog 26 #[.pointer (some ⟨pt, 0, none⟩), .slice A l.length cap, .bool gen] w (RP w B pt mu mv nv (blockM F l gen s)) := by
  have hcm : cap ≤ maxLen ∧ l.length ≤ cap := by
    obtain ⟨A', c', e, h1, h2, _⟩ := hk.slice
    injection e with _ _ e; subst e; exact ⟨h2, h1⟩
  have hA : 0 < l.length → ∃ b off, A = some ⟨b, off, none⟩ ∧ b < B := by
    obtain ⟨A', c', e, _, _, h⟩ := hk.slice
    injection e with e; subst e; exact h
  have hcap : (l.length : Int) ≤ 9223372036854775807 := by have := hcm.1; have := hcm.2; simp [maxLen] at *; omega
  have HR := Lib.hid hr
  have HD := Lib.hid hd
  have HK := Lib.hid hk
  have HG := Lib.hid G
  have hnot : ∀ (b : Bool) w1, (Op.unary .not (.bool b)).run Tryd.prog w1 = .ok (.bool (!b)) w1 := fun _ _ => rfl
  unfold RP
  clear hr hd hk hcm G
  go_enter Tryd.func26, Tryd.ntmps26
  go_wp2
  go_loopg [12] l.length (fun fu ix wr => ∃ (j : Nat) (s' : Pl), ix = .int .i64 j ∧ j + fu = l.length ∧ RW wr B pt mu mv nv s' ∧ Fr (SR mu mv) w wr ∧ blockM F l gen s = blockM F (l.drop j) gen s')
  case atStart => exact ⟨0, s, rfl, by omega, HR.out, Fr.refl _ _, rfl⟩
  case round =>
    obtain ⟨j, s', rfl, hf, h1, h2, h3⟩ := hrel
    have H1 := Lib.hid h1
    have H2 := Lib.hid h2
    have H3 := Lib.hid h3
    clear h1 h2 h3
    rcases Nat.lt_or_ge j l.length with hj | hj
    · obtain ⟨k, hkj⟩ : ∃ k, l[j]? = some k := ⟨_, List.getElem?_eq_getElem hj⟩
      obtain ⟨b, off, rfl, hbB⟩ := hA (by omega)
      obtain ⟨_, hwf, kv', hN, hKk⟩ := (HK.out.under (Fr.root HR.out H2.out)).kid hkj
      obtain ⟨d0, d1, d2, d3, d4, d5⟩ := hN.get
      obtain ⟨A', cap', rfl, hcl', hcm', hA'⟩ := hKk.slice
      have hj' : (j : Int) < (l.length : Int) := by omega
      obtain ⟨f', hf'⟩ : ∃ f', gk = f' + 1 := ⟨gk - 1, by omega⟩
      have HF := Lib.hid (And.intro hf hf')
      obtain ⟨V, hV⟩ : ∃ V, wr.alloc (.cells #[.int .i64 k.kind, .int .i64 k.at_, .string k.name, .int .u64 k.num, .string k.op, .slice A' k.kids.length cap'] 31) = V := ⟨_, rfl⟩
      have hWV : Below wr.heap.size wr V := by rw [← hV]; exact below_alloc (Below.refl _ _)
      have hRV : RW V B pt mu mv nv s' := H1.out.fr hWV
      have HFV := Lib.hid (show Fr (SR mu mv) w V from H2.out.tr (Fr.of_below hWV))
      have hb8 : Blk V wr.heap.size 31 #[.int .i64 k.kind, .int .i64 k.at_, .string k.name, .int .u64 k.num, .string k.op, .slice A' k.kids.length cap'] := by rw [← hV]; exact Blk.new _ _ _
      have hKV : KidsAt V B (.slice A' k.kids.length cap') k.kids := hKk.under (hWV.mono H1.out.size)
      have HSt := Lib.hid (show blockM F l gen s = andM (elemM F gen k) (blockM F (l.drop (j + 1)) gen) s' from by rw [H3.out, drop_at' hkj]; rfl)
      have hkd := HD.out k (List.mem_of_getElem? hkj)
      have HV := Lib.hid hV
      have N8 := Fr.not_sr hRV hb8
      have NP := Fr.not_sr hRV hRV.blk
      have hptl := Nat.lt_of_lt_of_le H1.out.blk.lt (Nat.le_refl _)
      clear hf hf' hkj hKk hN hWV hV
      by_cases hkind : k.kind = 31
      · -- kind 31
        rw [hkind] at d0 HV hb8
        by_cases hlen : k.kids.length = 1
        · obtain ⟨k0, hk0⟩ : ∃ k0, k.kids = [k0] := List.length_eq_one_iff.1 hlen
          obtain ⟨b0, off0, hA0, hb0⟩ := hA' (by omega)
          subst hA0
          have hkid := hKV.kid (i := 0) (t := k0) (by rw [hk0]; rfl)
          obtain ⟨_, hwf0, kv0, hN0, hKk0⟩ := hkid
          rw [show off0 + 0 * 6 = off0 by omega] at hN0
          obtain ⟨A0, cap0, rfl, _, _, _⟩ := hKk0.slice
          have hfd0 := fitsD_sub hkd (k := k0) (by rw [hk0]; exact List.mem_singleton.2 rfl)
          have hE0 : elemM F gen k s' = andM (varM k.at_) (maybeM F k0 gen) s' := by simp [elemM, hkind, hk0]
          rw [hlen] at d5 HV hb8
          have SX := Lib.hid (fun w' (f : Fr (SR mu mv) V w') => show (fun w' => w'.cell? ⟨wr.heap.size, 1, none⟩ = some (.int .i64 k.at_) ∧ w'.cell? ⟨wr.heap.size, 5, none⟩ = some (.slice (some ⟨b0, off0, none⟩) 1 cap') ∧ w'.cell? ⟨pt, 1, none⟩ = some (.map (some mv)) ∧ w'.cell? ⟨b0, off0, none⟩ = some (.int .i64 k0.kind) ∧ w'.cell? ⟨b0, off0 + 1, none⟩ = some (.int .i64 k0.at_) ∧ w'.cell? ⟨b0, off0 + 2, none⟩ = some (.string k0.name) ∧ w'.cell? ⟨b0, off0 + 3, none⟩ = some (.int .u64 k0.num) ∧ w'.cell? ⟨b0, off0 + 4, none⟩ = some (.string k0.op) ∧ w'.cell? ⟨b0, off0 + 5, none⟩ = some (.slice A0 k0.kids.length cap0)) w' from ⟨f.cell hb8 N8 1 rfl, f.cell hb8 N8 5 rfl, f.cell hRV.blk NP 1 rfl, ((Fr.root hRV f).cell (p := ⟨b0, off0, none⟩) hb0).trans (hN0.get).1, ((Fr.root hRV f).cell (p := ⟨b0, off0 + 1, none⟩) hb0).trans (hN0.get).2.1, ((Fr.root hRV f).cell (p := ⟨b0, off0 + 2, none⟩) hb0).trans (hN0.get).2.2.1, ((Fr.root hRV f).cell (p := ⟨b0, off0 + 3, none⟩) hb0).trans (hN0.get).2.2.2.1, ((Fr.root hRV f).cell (p := ⟨b0, off0 + 4, none⟩) hb0).trans (hN0.get).2.2.2.2.1, ((Fr.root hRV f).cell (p := ⟨b0, off0 + 5, none⟩) hb0).trans (hN0.get).2.2.2.2.2⟩)
          have OC := var_calls hRV.drew (a := k.at_) hwf.1
          unfold RP at OC
          have MC := Lib.hid (fun w' s1 (f : Fr (SR mu mv) V w') (r : RW w' B pt mu mv nv s1) => show Calls Tryd.prog 35 #[.pointer (some ⟨pt, 0, none⟩), .agg #[.int .i64 k0.kind, .int .i64 k0.at_, .string k0.name, .int .u64 k0.num, .string k0.op, .slice A0 k0.kids.length cap0], .bool gen] w' (fun e w'' => e = .returned (.bool (maybeM F k0 gen s1).1) ∧ RW w'' B pt mu mv nv (maybeM F k0 gen s1).2 ∧ Fr (SR mu mv) V w'') from (maybe_calls HG.out w' B pt mu mv nv s1 k0 _ gen r hfd0 hwf0 (f.to hRV hKk0)).mono fun e w'' ⟨h1, h2, h3⟩ => ⟨h1, h2, f.tr h3⟩)
          have FD := Lib.hid (Fr.refl (SR mu mv) V).drew
          clear hb8 hRV hKV hkd hwf hwf0 hN0 hKk0 hfd0 N8 NP
          cases ho : (varM k.at_ s').1
          · rw [ho] at OC
            have OC := Lib.hid OC
            have HE := Lib.hid (hE0.trans (andM_false ho))
            clear ho hE0 MC hkind hk0 hlen
            go_wp2
            rw [HV.out]
            refine wp_region_held_drew (S := (fun w' => w'.cell? ⟨wr.heap.size, 1, none⟩ = some (.int .i64 k.at_) ∧ w'.cell? ⟨wr.heap.size, 5, none⟩ = some (.slice (some ⟨b0, off0, none⟩) 1 cap') ∧ w'.cell? ⟨pt, 1, none⟩ = some (.map (some mv)) ∧ w'.cell? ⟨b0, off0, none⟩ = some (.int .i64 k0.kind) ∧ w'.cell? ⟨b0, off0 + 1, none⟩ = some (.int .i64 k0.at_) ∧ w'.cell? ⟨b0, off0 + 2, none⟩ = some (.string k0.name) ∧ w'.cell? ⟨b0, off0 + 3, none⟩ = some (.int .u64 k0.num) ∧ w'.cell? ⟨b0, off0 + 4, none⟩ = some (.string k0.op) ∧ w'.cell? ⟨b0, off0 + 5, none⟩ = some (.slice A0 k0.kids.length cap0))) (by kernel_rfl) ?_ (fun hHeld => ?_)
            · exact SX.out _ FD.out
            refine tk 0 ?_
            try simp only [Act.put, z1, z2, z3]
            refine tk 1 ?_
            try simp only [Act.put, z1, z2, z3]
            refine tk 2 ?_
            try simp only [Act.put, z1, z2, z3]
            refine tk 3 ?_
            try simp only [Act.put, z1, z2, z3]
            refine tk 4 ?_
            try simp only [Act.put, z1, z2, z3]
            refine tk 5 ?_
            try simp only [Act.put, z1, z2, z3]
            refine tk 6 ?_
            try simp only [Act.put, z1, z2, z3]
            refine tk 7 ?_
            try simp only [Act.put, z1, z2, z3]
            refine tk 8 ?_
            try simp only [Act.put, z1, z2, z3]
            refine tk 9 ?_
            try simp only [Act.put, z1, z2, z3]
            refine tk 10 ?_
            try simp only [Act.put, z1, z2, z3]
            refine wpAnyH_ready (rs := [11]) (by kernel_rfl) (by simp) ?_
            refine (AllReadyH.cons (i := 11) (o := ?o12) ?h12 (fun K hK => ?k12) AllReadyH.nil)
            case h12 => (simp only [List.getElem?_toArray, List.getElem?_cons_succ, List.getElem?_cons_zero]; try rfl)
            case k12 =>
              go_simp
              go_at_call 34; (with_reducible refine OC.out.mono ?_); rintro e w5 ⟨rfl, g1, g2⟩; have G1 := Lib.hid g1; have G2 := Lib.hid (FD.out.tr g2); clear g1 g2
              try go_wp2_with fail
              refine hK.out _ _ ?_ (fun hHeld => ?_)
              · exact SX.out _ G2.out
              clear hK K
              try simp only [Act.put, z1, z2, z3]
              refine tk 12 ?_
              try simp only [Act.put, z1, z2, z3]
              refine tk 13 ?_
              try simp only [Act.put, z1, z2, z3]
              refine tn 14 ?_
              try simp only [Act.put, z1, z2, z3]
              refine tn 15 ?_
              try simp only [Act.put, z1, z2, z3]
              refine tn 16 ?_
              try simp only [Act.put, z1, z2, z3]
              refine tn 17 ?_
              try simp only [Act.put, z1, z2, z3]
              refine tn 18 ?_
              try simp only [Act.put, z1, z2, z3]
              refine tn 19 ?_
              try simp only [Act.put, z1, z2, z3]
              refine tn 20 ?_
              try simp only [Act.put, z1, z2, z3]
              refine tk 21 ?_
              try simp only [Act.put, z1, z2, z3]
              refine tk 22 ?_
              try simp only [Act.put, z1, z2, z3]
              refine wpAnyH_done (by kernel_rfl) ?_ _
              go_wp2
              go_ret
              rw [HSt.out, andM_false (by rw [HE.out])]
              rw [HE.out]
              exact ⟨rfl, G1.out, HFV.out.tr G2.out⟩
          · rw [ho] at OC
            have hE1 := hE0.trans (andM_true ho)
            cases hm : (maybeM F k0 gen (varM k.at_ s').2).1
            · have OC := Lib.hid OC
              have HE := Lib.hid (hE1.trans (show _ = (false, (maybeM F k0 gen (varM k.at_ s').2).2) from by rw [← hm]))
              have MC2 := Lib.hid (fun w' f r => MC.out w' (varM k.at_ s').2 f r)
              rw [hm] at MC2
              clear ho hE0 hE1 hm MC hkind hk0 hlen
              go_wp2
              rw [HV.out]
              refine wp_region_held_drew (S := (fun w' => w'.cell? ⟨wr.heap.size, 1, none⟩ = some (.int .i64 k.at_) ∧ w'.cell? ⟨wr.heap.size, 5, none⟩ = some (.slice (some ⟨b0, off0, none⟩) 1 cap') ∧ w'.cell? ⟨pt, 1, none⟩ = some (.map (some mv)) ∧ w'.cell? ⟨b0, off0, none⟩ = some (.int .i64 k0.kind) ∧ w'.cell? ⟨b0, off0 + 1, none⟩ = some (.int .i64 k0.at_) ∧ w'.cell? ⟨b0, off0 + 2, none⟩ = some (.string k0.name) ∧ w'.cell? ⟨b0, off0 + 3, none⟩ = some (.int .u64 k0.num) ∧ w'.cell? ⟨b0, off0 + 4, none⟩ = some (.string k0.op) ∧ w'.cell? ⟨b0, off0 + 5, none⟩ = some (.slice A0 k0.kids.length cap0))) (by kernel_rfl) ?_ (fun hHeld => ?_)
              · exact SX.out _ FD.out
              refine tk 0 ?_
              try simp only [Act.put, z1, z2, z3]
              refine tk 1 ?_
              try simp only [Act.put, z1, z2, z3]
              refine tk 2 ?_
              try simp only [Act.put, z1, z2, z3]
              refine tk 3 ?_
              try simp only [Act.put, z1, z2, z3]
              refine tk 4 ?_
              try simp only [Act.put, z1, z2, z3]
              refine tk 5 ?_
              try simp only [Act.put, z1, z2, z3]
              refine tk 6 ?_
              try simp only [Act.put, z1, z2, z3]
              refine tk 7 ?_
              try simp only [Act.put, z1, z2, z3]
              refine tk 8 ?_
              try simp only [Act.put, z1, z2, z3]
              refine tk 9 ?_
              try simp only [Act.put, z1, z2, z3]
              refine tk 10 ?_
              try simp only [Act.put, z1, z2, z3]
              refine wpAnyH_ready (rs := [11]) (by kernel_rfl) (by simp) ?_
              refine (AllReadyH.cons (i := 11) (o := ?o35) ?h35 (fun K hK => ?k35) AllReadyH.nil)
              case h35 => (simp only [List.getElem?_toArray, List.getElem?_cons_succ, List.getElem?_cons_zero]; try rfl)
              case k35 =>
                go_simp
                go_at_call 34; (with_reducible refine OC.out.mono ?_); rintro e w5 ⟨rfl, g1, g2⟩; have g2 := FD.out.tr g2; have MW := Lib.hid (MC2.out _ g2 g1); have HS5 := Lib.hid (SX.out _ g2); clear g1 g2
                try go_wp2_with fail
                refine hK.out _ _ ?_ (fun hHeld => ?_)
                · exact HS5.out
                clear hK K
                try simp only [Act.put, z1, z2, z3]
                refine tk 12 ?_
                try simp only [Act.put, z1, z2, z3]
                refine tk 13 ?_
                try simp only [Act.put, z1, z2, z3]
                refine tk 14 ?_
                try simp only [Act.put, z1, z2, z3]
                refine tk 15 ?_
                try simp only [Act.put, z1, z2, z3]
                refine tk 16 ?_
                try simp only [Act.put, z1, z2, z3]
                refine tk 17 ?_
                try simp only [Act.put, z1, z2, z3]
                refine tk 18 ?_
                try simp only [Act.put, z1, z2, z3]
                refine tk 19 ?_
                try simp only [Act.put, z1, z2, z3]
                refine wpAnyH_ready (rs := [20]) (by kernel_rfl) (by simp) ?_
                refine (AllReadyH.cons (i := 20) (o := ?o44) ?h44 (fun K hK => ?k44) AllReadyH.nil)
                case h44 => (simp only [List.getElem?_toArray, List.getElem?_cons_succ, List.getElem?_cons_zero]; try rfl)
                case k44 =>
                  go_simp
                  go_at_call 35; (with_reducible refine MW.out.mono ?_); rintro e w6 ⟨rfl, g1, g2⟩; have G1 := Lib.hid g1; have G2 := Lib.hid g2; clear g1 g2
                  try go_wp2_with fail
                  refine hK.out _ _ ?_ (fun hHeld => ?_)
                  · exact SX.out _ G2.out
                  clear hK K
                  try simp only [Act.put, z1, z2, z3]
                  refine tk 21 ?_
                  try simp only [Act.put, z1, z2, z3]
                  refine tk 22 ?_
                  try simp only [Act.put, z1, z2, z3]
                  refine wpAnyH_done (by kernel_rfl) ?_ _
                  go_wp2
                  go_ret
                  rw [HSt.out, andM_false (by rw [HE.out])]
                  rw [HE.out]
                  exact ⟨rfl, G1.out, HFV.out.tr G2.out⟩
            · have OC := Lib.hid OC
              have HE := Lib.hid (hE1.trans (show _ = (true, (maybeM F k0 gen (varM k.at_ s').2).2) from by rw [← hm]))
              have MC2 := Lib.hid (fun w' f r => MC.out w' (varM k.at_ s').2 f r)
              rw [hm] at MC2
              clear ho hE0 hE1 hm MC hkind hk0 hlen
              go_wp2
              rw [HV.out]
              refine wp_region_held_drew (S := (fun w' => w'.cell? ⟨wr.heap.size, 1, none⟩ = some (.int .i64 k.at_) ∧ w'.cell? ⟨wr.heap.size, 5, none⟩ = some (.slice (some ⟨b0, off0, none⟩) 1 cap') ∧ w'.cell? ⟨pt, 1, none⟩ = some (.map (some mv)) ∧ w'.cell? ⟨b0, off0, none⟩ = some (.int .i64 k0.kind) ∧ w'.cell? ⟨b0, off0 + 1, none⟩ = some (.int .i64 k0.at_) ∧ w'.cell? ⟨b0, off0 + 2, none⟩ = some (.string k0.name) ∧ w'.cell? ⟨b0, off0 + 3, none⟩ = some (.int .u64 k0.num) ∧ w'.cell? ⟨b0, off0 + 4, none⟩ = some (.string k0.op) ∧ w'.cell? ⟨b0, off0 + 5, none⟩ = some (.slice A0 k0.kids.length cap0))) (by kernel_rfl) ?_ (fun hHeld => ?_)
              · exact SX.out _ FD.out
              refine tk 0 ?_
              try simp only [Act.put, z1, z2, z3]
              refine tk 1 ?_
              try simp only [Act.put, z1, z2, z3]
              refine tk 2 ?_
              try simp only [Act.put, z1, z2, z3]
              refine tk 3 ?_
              try simp only [Act.put, z1, z2, z3]
              refine tk 4 ?_
              try simp only [Act.put, z1, z2, z3]
              refine tk 5 ?_
              try simp only [Act.put, z1, z2, z3]
              refine tk 6 ?_
              try simp only [Act.put, z1, z2, z3]
              refine tk 7 ?_
              try simp only [Act.put, z1, z2, z3]
              refine tk 8 ?_
              try simp only [Act.put, z1, z2, z3]
              refine tk 9 ?_
              try simp only [Act.put, z1, z2, z3]
              refine tk 10 ?_
              try simp only [Act.put, z1, z2, z3]
              refine wpAnyH_ready (rs := [11]) (by kernel_rfl) (by simp) ?_
              refine (AllReadyH.cons (i := 11) (o := ?o58) ?h58 (fun K hK => ?k58) AllReadyH.nil)
              case h58 => (simp only [List.getElem?_toArray, List.getElem?_cons_succ, List.getElem?_cons_zero]; try rfl)
              case k58 =>
                go_simp
                go_at_call 34; (with_reducible refine OC.out.mono ?_); rintro e w5 ⟨rfl, g1, g2⟩; have g2 := FD.out.tr g2; have MW := Lib.hid (MC2.out _ g2 g1); have HS5 := Lib.hid (SX.out _ g2); clear g1 g2
                try go_wp2_with fail
                refine hK.out _ _ ?_ (fun hHeld => ?_)
                · exact HS5.out
                clear hK K
                try simp only [Act.put, z1, z2, z3]
                refine tk 12 ?_
                try simp only [Act.put, z1, z2, z3]
                refine tk 13 ?_
                try simp only [Act.put, z1, z2, z3]
                refine tk 14 ?_
                try simp only [Act.put, z1, z2, z3]
                refine tk 15 ?_
                try simp only [Act.put, z1, z2, z3]
                refine tk 16 ?_
                try simp only [Act.put, z1, z2, z3]
                refine tk 17 ?_
                try simp only [Act.put, z1, z2, z3]
                refine tk 18 ?_
                try simp only [Act.put, z1, z2, z3]
                refine tk 19 ?_
                try simp only [Act.put, z1, z2, z3]
                refine wpAnyH_ready (rs := [20]) (by kernel_rfl) (by simp) ?_
                refine (AllReadyH.cons (i := 20) (o := ?o67) ?h67 (fun K hK => ?k67) AllReadyH.nil)
                case h67 => (simp only [List.getElem?_toArray, List.getElem?_cons_succ, List.getElem?_cons_zero]; try rfl)
                case k67 =>
                  go_simp
                  go_at_call 35; (with_reducible refine MW.out.mono ?_); rintro e w6 ⟨rfl, g1, g2⟩; have G1 := Lib.hid g1; have G2 := Lib.hid g2; clear g1 g2
                  try go_wp2_with fail
                  refine hK.out _ _ ?_ (fun hHeld => ?_)
                  · exact SX.out _ G2.out
                  clear hK K
                  try simp only [Act.put, z1, z2, z3]
                  refine tk 21 ?_
                  try simp only [Act.put, z1, z2, z3]
                  refine tk 22 ?_
                  try simp only [Act.put, z1, z2, z3]
                  refine wpAnyH_done (by kernel_rfl) ?_ _
                  go_wp2
                  go_roundg f'
                  case measure => have := HF.out; omega
                  case rel => exact ⟨j + 1, _, by simp, by have := HF.out; omega, G1.out, HFV.out.tr G2.out, by rw [HSt.out, andM_true (by rw [HE.out]), HE.out]⟩
        · have hl1 : (((k.kids.length : Nat) : Int) == 1) = false := by simp; omega
          have hE0 : elemM F gen k s' = (false, s') := by
            unfold elemM; rw [hkind]
            rcases hks : k.kids with _ | ⟨x, _ | ⟨y, r⟩⟩
            · simp [okM]
            · rw [hks] at hlen; exact absurd rfl hlen
            · simp [okM]
          have SX := Lib.hid (fun w' (f : Fr (SR mu mv) V w') => show (fun w' => w'.cell? ⟨wr.heap.size, 1, none⟩ = some (.int .i64 k.at_) ∧ w'.cell? ⟨wr.heap.size, 5, none⟩ = some (.slice A' k.kids.length cap') ∧ w'.cell? ⟨pt, 1, none⟩ = some (.map (some mv))) w' from ⟨f.cell hb8 N8 1 rfl, f.cell hb8 N8 5 rfl, f.cell hRV.blk NP 1 rfl⟩)
          have FD := Lib.hid (Fr.refl (SR mu mv) V).drew
          have G1 := Lib.hid hRV.drew
          have G2 := Lib.hid (Fr.refl (SR mu mv) V).drew
          have HE := Lib.hid hE0
          clear hb8 hRV hKV hkd hwf N8 NP hE0 hkind hlen
          go_wp2
          rw [HV.out]
          refine wp_region_held_drew (S := (fun w' => w'.cell? ⟨wr.heap.size, 1, none⟩ = some (.int .i64 k.at_) ∧ w'.cell? ⟨wr.heap.size, 5, none⟩ = some (.slice A' k.kids.length cap') ∧ w'.cell? ⟨pt, 1, none⟩ = some (.map (some mv)))) (by kernel_rfl) ?_ (fun hHeld => ?_)
          · exact SX.out _ FD.out
          refine tk 0 ?_
          try simp only [Act.put, z1, z2, z3]
          refine tk 1 ?_
          try simp only [Act.put, z1, z2, z3]
          refine tk 2 ?_
          try simp only [Act.put, z1, z2, z3]
          refine tk 3 ?_
          try simp only [Act.put, z1, z2, z3]
          refine tk 4 ?_
          try simp only [Act.put, z1, z2, z3]
          refine tn 5 ?_
          try simp only [Act.put, z1, z2, z3]
          refine tn 6 ?_
          try simp only [Act.put, z1, z2, z3]
          refine tn 7 ?_
          try simp only [Act.put, z1, z2, z3]
          refine tn 8 ?_
          try simp only [Act.put, z1, z2, z3]
          refine tn 9 ?_
          try simp only [Act.put, z1, z2, z3]
          refine tn 10 ?_
          try simp only [Act.put, z1, z2, z3]
          refine tn 11 ?_
          try simp only [Act.put, z1, z2, z3]
          refine tk 12 ?_
          try simp only [Act.put, z1, z2, z3]
          refine tk 13 ?_
          try simp only [Act.put, z1, z2, z3]
          refine tn 14 ?_
          try simp only [Act.put, z1, z2, z3]
          refine tn 15 ?_
          try simp only [Act.put, z1, z2, z3]
          refine tn 16 ?_
          try simp only [Act.put, z1, z2, z3]
          refine tn 17 ?_
          try simp only [Act.put, z1, z2, z3]
          refine tn 18 ?_
          try simp only [Act.put, z1, z2, z3]
          refine tn 19 ?_
          try simp only [Act.put, z1, z2, z3]
          refine tn 20 ?_
          try simp only [Act.put, z1, z2, z3]
          refine tk 21 ?_
          try simp only [Act.put, z1, z2, z3]
          refine tk 22 ?_
          try simp only [Act.put, z1, z2, z3]
          refine wpAnyH_done (by kernel_rfl) ?_ _
          go_wp2
          go_ret
          rw [HSt.out, andM_false (by rw [HE.out])]
          rw [HE.out]
          exact ⟨rfl, G1.out, HFV.out.tr G2.out⟩
      have hk31 := hkind
      clear hkind
      by_cases hkind : k.kind = 32
      · -- kind 32
        rw [hkind] at d0 HV hb8
        by_cases hlen : k.kids.length = 1
        · obtain ⟨k0, hk0⟩ : ∃ k0, k.kids = [k0] := List.length_eq_one_iff.1 hlen
          obtain ⟨b0, off0, hA0, hb0⟩ := hA' (by omega)
          subst hA0
          have hkid := hKV.kid (i := 0) (t := k0) (by rw [hk0]; rfl)
          obtain ⟨_, hwf0, kv0, hN0, hKk0⟩ := hkid
          rw [show off0 + 0 * 6 = off0 by omega] at hN0
          obtain ⟨A0, cap0, rfl, _, _, _⟩ := hKk0.slice
          have hfd0 := fitsD_sub hkd (k := k0) (by rw [hk0]; exact List.mem_singleton.2 rfl)
          have hE0 : elemM F gen k s' = andM (varM k.at_) (F.ex k0 gen) s' := by simp [elemM, hkind, hk0]
          rw [hlen] at d5 HV hb8
          have SX := Lib.hid (fun w' (f : Fr (SR mu mv) V w') => show (fun w' => w'.cell? ⟨wr.heap.size, 1, none⟩ = some (.int .i64 k.at_) ∧ w'.cell? ⟨wr.heap.size, 5, none⟩ = some (.slice (some ⟨b0, off0, none⟩) 1 cap') ∧ w'.cell? ⟨pt, 1, none⟩ = some (.map (some mv)) ∧ w'.cell? ⟨b0, off0, none⟩ = some (.int .i64 k0.kind) ∧ w'.cell? ⟨b0, off0 + 1, none⟩ = some (.int .i64 k0.at_) ∧ w'.cell? ⟨b0, off0 + 2, none⟩ = some (.string k0.name) ∧ w'.cell? ⟨b0, off0 + 3, none⟩ = some (.int .u64 k0.num) ∧ w'.cell? ⟨b0, off0 + 4, none⟩ = some (.string k0.op) ∧ w'.cell? ⟨b0, off0 + 5, none⟩ = some (.slice A0 k0.kids.length cap0)) w' from ⟨f.cell hb8 N8 1 rfl, f.cell hb8 N8 5 rfl, f.cell hRV.blk NP 1 rfl, ((Fr.root hRV f).cell (p := ⟨b0, off0, none⟩) hb0).trans (hN0.get).1, ((Fr.root hRV f).cell (p := ⟨b0, off0 + 1, none⟩) hb0).trans (hN0.get).2.1, ((Fr.root hRV f).cell (p := ⟨b0, off0 + 2, none⟩) hb0).trans (hN0.get).2.2.1, ((Fr.root hRV f).cell (p := ⟨b0, off0 + 3, none⟩) hb0).trans (hN0.get).2.2.2.1, ((Fr.root hRV f).cell (p := ⟨b0, off0 + 4, none⟩) hb0).trans (hN0.get).2.2.2.2.1, ((Fr.root hRV f).cell (p := ⟨b0, off0 + 5, none⟩) hb0).trans (hN0.get).2.2.2.2.2⟩)
          have OC := var_calls hRV.drew (a := k.at_) hwf.1
          unfold RP at OC
          have MC := Lib.hid (fun w' s1 (f : Fr (SR mu mv) V w') (r : RW w' B pt mu mv nv s1) => show Calls Tryd.prog 36 #[.pointer (some ⟨pt, 0, none⟩), .agg #[.int .i64 k0.kind, .int .i64 k0.at_, .string k0.name, .int .u64 k0.num, .string k0.op, .slice A0 k0.kids.length cap0], .bool gen] w' (fun e w'' => e = .returned (.bool (F.ex k0 gen s1).1) ∧ RW w'' B pt mu mv nv (F.ex k0 gen s1).2 ∧ Fr (SR mu mv) V w'') from (HG.out.ex w' B pt mu mv nv s1 k0 _ gen r hfd0 hwf0 (f.to hRV hKk0)).mono fun e w'' ⟨h1, h2, h3⟩ => ⟨h1, h2, f.tr h3⟩)
          have FD := Lib.hid (Fr.refl (SR mu mv) V).drew
          clear hb8 hRV hKV hkd hwf hwf0 hN0 hKk0 hfd0 N8 NP
          cases ho : (varM k.at_ s').1
          · rw [ho] at OC
            have OC := Lib.hid OC
            have HE := Lib.hid (hE0.trans (andM_false ho))
            clear hk31 ho hE0 MC hkind hk0 hlen
            go_wp2
            rw [HV.out]
            refine wp_region_held_drew (S := (fun w' => w'.cell? ⟨wr.heap.size, 1, none⟩ = some (.int .i64 k.at_) ∧ w'.cell? ⟨wr.heap.size, 5, none⟩ = some (.slice (some ⟨b0, off0, none⟩) 1 cap') ∧ w'.cell? ⟨pt, 1, none⟩ = some (.map (some mv)) ∧ w'.cell? ⟨b0, off0, none⟩ = some (.int .i64 k0.kind) ∧ w'.cell? ⟨b0, off0 + 1, none⟩ = some (.int .i64 k0.at_) ∧ w'.cell? ⟨b0, off0 + 2, none⟩ = some (.string k0.name) ∧ w'.cell? ⟨b0, off0 + 3, none⟩ = some (.int .u64 k0.num) ∧ w'.cell? ⟨b0, off0 + 4, none⟩ = some (.string k0.op) ∧ w'.cell? ⟨b0, off0 + 5, none⟩ = some (.slice A0 k0.kids.length cap0))) (by kernel_rfl) ?_ (fun hHeld => ?_)
            · exact SX.out _ FD.out
            refine tk 0 ?_
            try simp only [Act.put, z1, z2, z3]
            refine tk 1 ?_
            try simp only [Act.put, z1, z2, z3]
            refine tk 2 ?_
            try simp only [Act.put, z1, z2, z3]
            refine tk 3 ?_
            try simp only [Act.put, z1, z2, z3]
            refine tk 4 ?_
            try simp only [Act.put, z1, z2, z3]
            refine tk 5 ?_
            try simp only [Act.put, z1, z2, z3]
            refine tk 6 ?_
            try simp only [Act.put, z1, z2, z3]
            refine tk 7 ?_
            try simp only [Act.put, z1, z2, z3]
            refine tk 8 ?_
            try simp only [Act.put, z1, z2, z3]
            refine tk 9 ?_
            try simp only [Act.put, z1, z2, z3]
            refine tk 10 ?_
            try simp only [Act.put, z1, z2, z3]
            refine wpAnyH_ready (rs := [11]) (by kernel_rfl) (by simp) ?_
            refine (AllReadyH.cons (i := 11) (o := ?o104) ?h104 (fun K hK => ?k104) AllReadyH.nil)
            case h104 => (simp only [List.getElem?_toArray, List.getElem?_cons_succ, List.getElem?_cons_zero]; try rfl)
            case k104 =>
              go_simp
              go_at_call 34; (with_reducible refine OC.out.mono ?_); rintro e w5 ⟨rfl, g1, g2⟩; have G1 := Lib.hid g1; have G2 := Lib.hid (FD.out.tr g2); clear g1 g2
              try go_wp2_with fail
              refine hK.out _ _ ?_ (fun hHeld => ?_)
              · exact SX.out _ G2.out
              clear hK K
              try simp only [Act.put, z1, z2, z3]
              refine tk 12 ?_
              try simp only [Act.put, z1, z2, z3]
              refine tk 13 ?_
              try simp only [Act.put, z1, z2, z3]
              refine tn 14 ?_
              try simp only [Act.put, z1, z2, z3]
              refine tn 15 ?_
              try simp only [Act.put, z1, z2, z3]
              refine tn 16 ?_
              try simp only [Act.put, z1, z2, z3]
              refine tn 17 ?_
              try simp only [Act.put, z1, z2, z3]
              refine tn 18 ?_
              try simp only [Act.put, z1, z2, z3]
              refine tn 19 ?_
              try simp only [Act.put, z1, z2, z3]
              refine tn 20 ?_
              try simp only [Act.put, z1, z2, z3]
              refine tk 21 ?_
              try simp only [Act.put, z1, z2, z3]
              refine tk 22 ?_
              try simp only [Act.put, z1, z2, z3]
              refine wpAnyH_done (by kernel_rfl) ?_ _
              go_wp2
              go_ret
              rw [HSt.out, andM_false (by rw [HE.out])]
              rw [HE.out]
              exact ⟨rfl, G1.out, HFV.out.tr G2.out⟩
          · rw [ho] at OC
            have hE1 := hE0.trans (andM_true ho)
            cases hm : (F.ex k0 gen (varM k.at_ s').2).1
            · have OC := Lib.hid OC
              have HE := Lib.hid (hE1.trans (show _ = (false, (F.ex k0 gen (varM k.at_ s').2).2) from by rw [← hm]))
              have MC2 := Lib.hid (fun w' f r => MC.out w' (varM k.at_ s').2 f r)
              rw [hm] at MC2
              clear hk31 ho hE0 hE1 hm MC hkind hk0 hlen
              go_wp2
              rw [HV.out]
              refine wp_region_held_drew (S := (fun w' => w'.cell? ⟨wr.heap.size, 1, none⟩ = some (.int .i64 k.at_) ∧ w'.cell? ⟨wr.heap.size, 5, none⟩ = some (.slice (some ⟨b0, off0, none⟩) 1 cap') ∧ w'.cell? ⟨pt, 1, none⟩ = some (.map (some mv)) ∧ w'.cell? ⟨b0, off0, none⟩ = some (.int .i64 k0.kind) ∧ w'.cell? ⟨b0, off0 + 1, none⟩ = some (.int .i64 k0.at_) ∧ w'.cell? ⟨b0, off0 + 2, none⟩ = some (.string k0.name) ∧ w'.cell? ⟨b0, off0 + 3, none⟩ = some (.int .u64 k0.num) ∧ w'.cell? ⟨b0, off0 + 4, none⟩ = some (.string k0.op) ∧ w'.cell? ⟨b0, off0 + 5, none⟩ = some (.slice A0 k0.kids.length cap0))) (by kernel_rfl) ?_ (fun hHeld => ?_)
              · exact SX.out _ FD.out
              refine tk 0 ?_
              try simp only [Act.put, z1, z2, z3]
              refine tk 1 ?_
              try simp only [Act.put, z1, z2, z3]
              refine tk 2 ?_
              try simp only [Act.put, z1, z2, z3]
              refine tk 3 ?_
              try simp only [Act.put, z1, z2, z3]
              refine tk 4 ?_
              try simp only [Act.put, z1, z2, z3]
              refine tk 5 ?_
              try simp only [Act.put, z1, z2, z3]
              refine tk 6 ?_
              try simp only [Act.put, z1, z2, z3]
              refine tk 7 ?_
              try simp only [Act.put, z1, z2, z3]
              refine tk 8 ?_
              try simp only [Act.put, z1, z2, z3]
              refine tk 9 ?_
              try simp only [Act.put, z1, z2, z3]
              refine tk 10 ?_
              try simp only [Act.put, z1, z2, z3]
              refine wpAnyH_ready (rs := [11]) (by kernel_rfl) (by simp) ?_
              refine (AllReadyH.cons (i := 11) (o := ?o127) ?h127 (fun K hK => ?k127) AllReadyH.nil)
              case h127 => (simp only [List.getElem?_toArray, List.getElem?_cons_succ, List.getElem?_cons_zero]; try rfl)
              case k127 =>
                go_simp
                go_at_call 34; (with_reducible refine OC.out.mono ?_); rintro e w5 ⟨rfl, g1, g2⟩; have g2 := FD.out.tr g2; have MW := Lib.hid (MC2.out _ g2 g1); have HS5 := Lib.hid (SX.out _ g2); clear g1 g2
                try go_wp2_with fail
                refine hK.out _ _ ?_ (fun hHeld => ?_)
                · exact HS5.out
                clear hK K
                try simp only [Act.put, z1, z2, z3]
                refine tk 12 ?_
                try simp only [Act.put, z1, z2, z3]
                refine tk 13 ?_
                try simp only [Act.put, z1, z2, z3]
                refine tk 14 ?_
                try simp only [Act.put, z1, z2, z3]
                refine tk 15 ?_
                try simp only [Act.put, z1, z2, z3]
                refine tk 16 ?_
                try simp only [Act.put, z1, z2, z3]
                refine tk 17 ?_
                try simp only [Act.put, z1, z2, z3]
                refine tk 18 ?_
                try simp only [Act.put, z1, z2, z3]
                refine tk 19 ?_
                try simp only [Act.put, z1, z2, z3]
                refine wpAnyH_ready (rs := [20]) (by kernel_rfl) (by simp) ?_
                refine (AllReadyH.cons (i := 20) (o := ?o136) ?h136 (fun K hK => ?k136) AllReadyH.nil)
                case h136 => (simp only [List.getElem?_toArray, List.getElem?_cons_succ, List.getElem?_cons_zero]; try rfl)
                case k136 =>
                  go_simp
                  go_at_call 36; (with_reducible refine MW.out.mono ?_); rintro e w6 ⟨rfl, g1, g2⟩; have G1 := Lib.hid g1; have G2 := Lib.hid g2; clear g1 g2
                  try go_wp2_with fail
                  refine hK.out _ _ ?_ (fun hHeld => ?_)
                  · exact SX.out _ G2.out
                  clear hK K
                  try simp only [Act.put, z1, z2, z3]
                  refine tk 21 ?_
                  try simp only [Act.put, z1, z2, z3]
                  refine tk 22 ?_
                  try simp only [Act.put, z1, z2, z3]
                  refine wpAnyH_done (by kernel_rfl) ?_ _
                  go_wp2
                  go_ret
                  rw [HSt.out, andM_false (by rw [HE.out])]
                  rw [HE.out]
                  exact ⟨rfl, G1.out, HFV.out.tr G2.out⟩
            · have OC := Lib.hid OC
              have HE := Lib.hid (hE1.trans (show _ = (true, (F.ex k0 gen (varM k.at_ s').2).2) from by rw [← hm]))
              have MC2 := Lib.hid (fun w' f r => MC.out w' (varM k.at_ s').2 f r)
              rw [hm] at MC2
              clear hk31 ho hE0 hE1 hm MC hkind hk0 hlen
              go_wp2
              rw [HV.out]
              refine wp_region_held_drew (S := (fun w' => w'.cell? ⟨wr.heap.size, 1, none⟩ = some (.int .i64 k.at_) ∧ w'.cell? ⟨wr.heap.size, 5, none⟩ = some (.slice (some ⟨b0, off0, none⟩) 1 cap') ∧ w'.cell? ⟨pt, 1, none⟩ = some (.map (some mv)) ∧ w'.cell? ⟨b0, off0, none⟩ = some (.int .i64 k0.kind) ∧ w'.cell? ⟨b0, off0 + 1, none⟩ = some (.int .i64 k0.at_) ∧ w'.cell? ⟨b0, off0 + 2, none⟩ = some (.string k0.name) ∧ w'.cell? ⟨b0, off0 + 3, none⟩ = some (.int .u64 k0.num) ∧ w'.cell? ⟨b0, off0 + 4, none⟩ = some (.string k0.op) ∧ w'.cell? ⟨b0, off0 + 5, none⟩ = some (.slice A0 k0.kids.length cap0))) (by kernel_rfl) ?_ (fun hHeld => ?_)
              · exact SX.out _ FD.out
              refine tk 0 ?_
              try simp only [Act.put, z1, z2, z3]
              refine tk 1 ?_
              try simp only [Act.put, z1, z2, z3]
              refine tk 2 ?_
              try simp only [Act.put, z1, z2, z3]
              refine tk 3 ?_
              try simp only [Act.put, z1, z2, z3]
              refine tk 4 ?_
              try simp only [Act.put, z1, z2, z3]
              refine tk 5 ?_
              try simp only [Act.put, z1, z2, z3]
              refine tk 6 ?_
              try simp only [Act.put, z1, z2, z3]
              refine tk 7 ?_
              try simp only [Act.put, z1, z2, z3]
              refine tk 8 ?_
              try simp only [Act.put, z1, z2, z3]
              refine tk 9 ?_
              try simp only [Act.put, z1, z2, z3]
              refine tk 10 ?_
              try simp only [Act.put, z1, z2, z3]
              refine wpAnyH_ready (rs := [11]) (by kernel_rfl) (by simp) ?_
              refine (AllReadyH.cons (i := 11) (o := ?o150) ?h150 (fun K hK => ?k150) AllReadyH.nil)
              case h150 => (simp only [List.getElem?_toArray, List.getElem?_cons_succ, List.getElem?_cons_zero]; try rfl)
              case k150 =>
                go_simp
                go_at_call 34; (with_reducible refine OC.out.mono ?_); rintro e w5 ⟨rfl, g1, g2⟩; have g2 := FD.out.tr g2; have MW := Lib.hid (MC2.out _ g2 g1); have HS5 := Lib.hid (SX.out _ g2); clear g1 g2
                try go_wp2_with fail
                refine hK.out _ _ ?_ (fun hHeld => ?_)
                · exact HS5.out
                clear hK K
                try simp only [Act.put, z1, z2, z3]
                refine tk 12 ?_
                try simp only [Act.put, z1, z2, z3]
                refine tk 13 ?_
                try simp only [Act.put, z1, z2, z3]
                refine tk 14 ?_
                try simp only [Act.put, z1, z2, z3]
                refine tk 15 ?_
                try simp only [Act.put, z1, z2, z3]
                refine tk 16 ?_
                try simp only [Act.put, z1, z2, z3]
                refine tk 17 ?_
                try simp only [Act.put, z1, z2, z3]
                refine tk 18 ?_
                try simp only [Act.put, z1, z2, z3]
                refine tk 19 ?_
                try simp only [Act.put, z1, z2, z3]
                refine wpAnyH_ready (rs := [20]) (by kernel_rfl) (by simp) ?_
                refine (AllReadyH.cons (i := 20) (o := ?o159) ?h159 (fun K hK => ?k159) AllReadyH.nil)
                case h159 => (simp only [List.getElem?_toArray, List.getElem?_cons_succ, List.getElem?_cons_zero]; try rfl)
                case k159 =>
                  go_simp
                  go_at_call 36; (with_reducible refine MW.out.mono ?_); rintro e w6 ⟨rfl, g1, g2⟩; have G1 := Lib.hid g1; have G2 := Lib.hid g2; clear g1 g2
                  try go_wp2_with fail
                  refine hK.out _ _ ?_ (fun hHeld => ?_)
                  · exact SX.out _ G2.out
                  clear hK K
                  try simp only [Act.put, z1, z2, z3]
                  refine tk 21 ?_
                  try simp only [Act.put, z1, z2, z3]
                  refine tk 22 ?_
                  try simp only [Act.put, z1, z2, z3]
                  refine wpAnyH_done (by kernel_rfl) ?_ _
                  go_wp2
                  go_roundg f'
                  case measure => have := HF.out; omega
                  case rel => exact ⟨j + 1, _, by simp, by have := HF.out; omega, G1.out, HFV.out.tr G2.out, by rw [HSt.out, andM_true (by rw [HE.out]), HE.out]⟩
        · have hl1 : (((k.kids.length : Nat) : Int) == 1) = false := by simp; omega
          have hE0 : elemM F gen k s' = (false, s') := by
            unfold elemM; rw [hkind]
            rcases hks : k.kids with _ | ⟨x, _ | ⟨y, r⟩⟩
            · simp [okM]
            · rw [hks] at hlen; exact absurd rfl hlen
            · simp [okM]
          have SX := Lib.hid (fun w' (f : Fr (SR mu mv) V w') => show (fun w' => w'.cell? ⟨wr.heap.size, 1, none⟩ = some (.int .i64 k.at_) ∧ w'.cell? ⟨wr.heap.size, 5, none⟩ = some (.slice A' k.kids.length cap') ∧ w'.cell? ⟨pt, 1, none⟩ = some (.map (some mv))) w' from ⟨f.cell hb8 N8 1 rfl, f.cell hb8 N8 5 rfl, f.cell hRV.blk NP 1 rfl⟩)
          have FD := Lib.hid (Fr.refl (SR mu mv) V).drew
          have G1 := Lib.hid hRV.drew
          have G2 := Lib.hid (Fr.refl (SR mu mv) V).drew
          have HE := Lib.hid hE0
          clear hb8 hRV hKV hkd hwf N8 NP hE0 hkind hlen hk31
          go_wp2
          rw [HV.out]
          refine wp_region_held_drew (S := (fun w' => w'.cell? ⟨wr.heap.size, 1, none⟩ = some (.int .i64 k.at_) ∧ w'.cell? ⟨wr.heap.size, 5, none⟩ = some (.slice A' k.kids.length cap') ∧ w'.cell? ⟨pt, 1, none⟩ = some (.map (some mv)))) (by kernel_rfl) ?_ (fun hHeld => ?_)
          · exact SX.out _ FD.out
          refine tk 0 ?_
          try simp only [Act.put, z1, z2, z3]
          refine tk 1 ?_
          try simp only [Act.put, z1, z2, z3]
          refine tk 2 ?_
          try simp only [Act.put, z1, z2, z3]
          refine tk 3 ?_
          try simp only [Act.put, z1, z2, z3]
          refine tk 4 ?_
          try simp only [Act.put, z1, z2, z3]
          refine tn 5 ?_
          try simp only [Act.put, z1, z2, z3]
          refine tn 6 ?_
          try simp only [Act.put, z1, z2, z3]
          refine tn 7 ?_
          try simp only [Act.put, z1, z2, z3]
          refine tn 8 ?_
          try simp only [Act.put, z1, z2, z3]
          refine tn 9 ?_
          try simp only [Act.put, z1, z2, z3]
          refine tn 10 ?_
          try simp only [Act.put, z1, z2, z3]
          refine tn 11 ?_
          try simp only [Act.put, z1, z2, z3]
          refine tk 12 ?_
          try simp only [Act.put, z1, z2, z3]
          refine tk 13 ?_
          try simp only [Act.put, z1, z2, z3]
          refine tn 14 ?_
          try simp only [Act.put, z1, z2, z3]
          refine tn 15 ?_
          try simp only [Act.put, z1, z2, z3]
          refine tn 16 ?_
          try simp only [Act.put, z1, z2, z3]
          refine tn 17 ?_
          try simp only [Act.put, z1, z2, z3]
          refine tn 18 ?_
          try simp only [Act.put, z1, z2, z3]
          refine tn 19 ?_
          try simp only [Act.put, z1, z2, z3]
          refine tn 20 ?_
          try simp only [Act.put, z1, z2, z3]
          refine tk 21 ?_
          try simp only [Act.put, z1, z2, z3]
          refine tk 22 ?_
          try simp only [Act.put, z1, z2, z3]
          refine wpAnyH_done (by kernel_rfl) ?_ _
          go_wp2
          go_ret
          rw [HSt.out, andM_false (by rw [HE.out])]
          rw [HE.out]
          exact ⟨rfl, G1.out, HFV.out.tr G2.out⟩
      have hk32 := hkind
      clear hkind
      by_cases hkind : k.kind = 33
      · -- kind 33
        rw [hkind] at d0 HV hb8
        have hE0 : elemM F gen k s' = andM (varM k.at_) (F.fn k) s' := by simp [elemM, hkind]
        have SX := Lib.hid (fun w' (f : Fr (SR mu mv) V w') => show (fun w' => w'.cell? ⟨pt, 1, none⟩ = some (.map (some mv)) ∧ w'.cell? ⟨wr.heap.size, 0, none⟩ = some (.int .i64 33) ∧ w'.cell? ⟨wr.heap.size, 1, none⟩ = some (.int .i64 k.at_) ∧ w'.cell? ⟨wr.heap.size, 2, none⟩ = some (.string k.name) ∧ w'.cell? ⟨wr.heap.size, 3, none⟩ = some (.int .u64 k.num) ∧ w'.cell? ⟨wr.heap.size, 4, none⟩ = some (.string k.op) ∧ w'.cell? ⟨wr.heap.size, 5, none⟩ = some (.slice A' k.kids.length cap')) w' from ⟨f.cell hRV.blk NP 1 rfl, f.cell hb8 N8 0 rfl, f.cell hb8 N8 1 rfl, f.cell hb8 N8 2 rfl, f.cell hb8 N8 3 rfl, f.cell hb8 N8 4 rfl, f.cell hb8 N8 5 rfl⟩)
        have OC := var_calls hRV.drew (a := k.at_) hwf.1
        unfold RP at OC
        have MC := Lib.hid (fun w' s1 (f : Fr (SR mu mv) V w') (r : RW w' B pt mu mv nv s1) => show Calls Tryd.prog 37 #[.pointer (some ⟨pt, 0, none⟩), .agg #[.int .i64 33, .int .i64 k.at_, .string k.name, .int .u64 k.num, .string k.op, .slice A' k.kids.length cap']] w' (fun e w'' => e = .returned (.bool (F.fn k s1).1) ∧ RW w'' B pt mu mv nv (F.fn k s1).2 ∧ Fr (SR mu mv) V w'') from by
          rw [← hkind]; exact (HG.out.fn w' B pt mu mv nv s1 k _ r hkd hwf (f.to hRV hKV)).mono fun e w'' ⟨h1, h2, h3⟩ => ⟨h1, h2, f.tr h3⟩)
        have FD := Lib.hid (Fr.refl (SR mu mv) V).drew
        clear hb8 hRV hKV hkd hwf N8 NP
        cases ho : (varM k.at_ s').1
        · rw [ho] at OC
          have OC := Lib.hid OC
          have HE := Lib.hid (hE0.trans (andM_false ho))
          clear hk31 hk32 ho hE0 MC hkind
          go_wp2
          rw [HV.out]
          refine wp_region_held_drew (S := (fun w' => w'.cell? ⟨pt, 1, none⟩ = some (.map (some mv)) ∧ w'.cell? ⟨wr.heap.size, 0, none⟩ = some (.int .i64 33) ∧ w'.cell? ⟨wr.heap.size, 1, none⟩ = some (.int .i64 k.at_) ∧ w'.cell? ⟨wr.heap.size, 2, none⟩ = some (.string k.name) ∧ w'.cell? ⟨wr.heap.size, 3, none⟩ = some (.int .u64 k.num) ∧ w'.cell? ⟨wr.heap.size, 4, none⟩ = some (.string k.op) ∧ w'.cell? ⟨wr.heap.size, 5, none⟩ = some (.slice A' k.kids.length cap'))) (by kernel_rfl) ?_ (fun hHeld => ?_)
          · exact SX.out _ FD.out
          refine tk 0 ?_
          try simp only [Act.put, z1, z2, z3]
          refine tk 1 ?_
          try simp only [Act.put, z1, z2, z3]
          refine tk 2 ?_
          try simp only [Act.put, z1, z2, z3]
          refine tk 3 ?_
          try simp only [Act.put, z1, z2, z3]
          refine tk 4 ?_
          try simp only [Act.put, z1, z2, z3]
          refine tk 5 ?_
          try simp only [Act.put, z1, z2, z3]
          refine wpAnyH_ready (rs := [6]) (by kernel_rfl) (by simp) ?_
          refine (AllReadyH.cons (i := 6) (o := ?o191) ?h191 (fun K hK => ?k191) AllReadyH.nil)
          case h191 => (simp only [List.getElem?_toArray, List.getElem?_cons_succ, List.getElem?_cons_zero]; try rfl)
          case k191 =>
            go_simp
            go_at_call 34; (with_reducible refine OC.out.mono ?_); rintro e w5 ⟨rfl, g1, g2⟩; have G1 := Lib.hid g1; have G2 := Lib.hid (FD.out.tr g2); clear g1 g2
            try go_wp2_with fail
            refine hK.out _ _ ?_ (fun hHeld => ?_)
            · exact SX.out _ G2.out
            clear hK K
            try simp only [Act.put, z1, z2, z3]
            refine tk 7 ?_
            try simp only [Act.put, z1, z2, z3]
            refine tn 8 ?_
            try simp only [Act.put, z1, z2, z3]
            refine tn 9 ?_
            try simp only [Act.put, z1, z2, z3]
            refine tn 10 ?_
            try simp only [Act.put, z1, z2, z3]
            refine tk 11 ?_
            try simp only [Act.put, z1, z2, z3]
            refine tk 12 ?_
            try simp only [Act.put, z1, z2, z3]
            refine wpAnyH_done (by kernel_rfl) ?_ _
            go_wp2
            go_ret
            rw [HSt.out, andM_false (by rw [HE.out])]
            rw [HE.out]
            exact ⟨rfl, G1.out, HFV.out.tr G2.out⟩
        · rw [ho] at OC
          have hE1 := hE0.trans (andM_true ho)
          cases hm : (F.fn k (varM k.at_ s').2).1
          · have OC := Lib.hid OC
            have HE := Lib.hid (hE1.trans (show _ = (false, (F.fn k (varM k.at_ s').2).2) from by rw [← hm]))
            have MC2 := Lib.hid (fun w' f r => MC.out w' (varM k.at_ s').2 f r)
            rw [hm] at MC2
            clear hk31 hk32 ho hE0 hE1 hm MC hkind
            go_wp2
            rw [HV.out]
            refine wp_region_held_drew (S := (fun w' => w'.cell? ⟨pt, 1, none⟩ = some (.map (some mv)) ∧ w'.cell? ⟨wr.heap.size, 0, none⟩ = some (.int .i64 33) ∧ w'.cell? ⟨wr.heap.size, 1, none⟩ = some (.int .i64 k.at_) ∧ w'.cell? ⟨wr.heap.size, 2, none⟩ = some (.string k.name) ∧ w'.cell? ⟨wr.heap.size, 3, none⟩ = some (.int .u64 k.num) ∧ w'.cell? ⟨wr.heap.size, 4, none⟩ = some (.string k.op) ∧ w'.cell? ⟨wr.heap.size, 5, none⟩ = some (.slice A' k.kids.length cap'))) (by kernel_rfl) ?_ (fun hHeld => ?_)
            · exact SX.out _ FD.out
            refine tk 0 ?_
            try simp only [Act.put, z1, z2, z3]
            refine tk 1 ?_
            try simp only [Act.put, z1, z2, z3]
            refine tk 2 ?_
            try simp only [Act.put, z1, z2, z3]
            refine tk 3 ?_
            try simp only [Act.put, z1, z2, z3]
            refine tk 4 ?_
            try simp only [Act.put, z1, z2, z3]
            refine tk 5 ?_
            try simp only [Act.put, z1, z2, z3]
            refine wpAnyH_ready (rs := [6]) (by kernel_rfl) (by simp) ?_
            refine (AllReadyH.cons (i := 6) (o := ?o204) ?h204 (fun K hK => ?k204) AllReadyH.nil)
            case h204 => (simp only [List.getElem?_toArray, List.getElem?_cons_succ, List.getElem?_cons_zero]; try rfl)
            case k204 =>
              go_simp
              go_at_call 34; (with_reducible refine OC.out.mono ?_); rintro e w5 ⟨rfl, g1, g2⟩; have g2 := FD.out.tr g2; have MW := Lib.hid (MC2.out _ g2 g1); have HS5 := Lib.hid (SX.out _ g2); clear g1 g2
              try go_wp2_with fail
              refine hK.out _ _ ?_ (fun hHeld => ?_)
              · exact HS5.out
              clear hK K
              try simp only [Act.put, z1, z2, z3]
              refine tk 7 ?_
              try simp only [Act.put, z1, z2, z3]
              refine tk 8 ?_
              try simp only [Act.put, z1, z2, z3]
              refine tk 9 ?_
              try simp only [Act.put, z1, z2, z3]
              refine wpAnyH_ready (rs := [10]) (by kernel_rfl) (by simp) ?_
              refine (AllReadyH.cons (i := 10) (o := ?o208) ?h208 (fun K hK => ?k208) AllReadyH.nil)
              case h208 => (simp only [List.getElem?_toArray, List.getElem?_cons_succ, List.getElem?_cons_zero]; try rfl)
              case k208 =>
                go_simp
                go_at_call 37; (with_reducible refine MW.out.mono ?_); rintro e w6 ⟨rfl, g1, g2⟩; have G1 := Lib.hid g1; have G2 := Lib.hid g2; clear g1 g2
                try go_wp2_with fail
                refine hK.out _ _ ?_ (fun hHeld => ?_)
                · exact SX.out _ G2.out
                clear hK K
                try simp only [Act.put, z1, z2, z3]
                refine tk 11 ?_
                try simp only [Act.put, z1, z2, z3]
                refine tk 12 ?_
                try simp only [Act.put, z1, z2, z3]
                refine wpAnyH_done (by kernel_rfl) ?_ _
                go_wp2
                go_ret
                rw [HSt.out, andM_false (by rw [HE.out])]
                rw [HE.out]
                exact ⟨rfl, G1.out, HFV.out.tr G2.out⟩
          · have OC := Lib.hid OC
            have HE := Lib.hid (hE1.trans (show _ = (true, (F.fn k (varM k.at_ s').2).2) from by rw [← hm]))
            have MC2 := Lib.hid (fun w' f r => MC.out w' (varM k.at_ s').2 f r)
            rw [hm] at MC2
            clear hk31 hk32 ho hE0 hE1 hm MC hkind
            go_wp2
            rw [HV.out]
            refine wp_region_held_drew (S := (fun w' => w'.cell? ⟨pt, 1, none⟩ = some (.map (some mv)) ∧ w'.cell? ⟨wr.heap.size, 0, none⟩ = some (.int .i64 33) ∧ w'.cell? ⟨wr.heap.size, 1, none⟩ = some (.int .i64 k.at_) ∧ w'.cell? ⟨wr.heap.size, 2, none⟩ = some (.string k.name) ∧ w'.cell? ⟨wr.heap.size, 3, none⟩ = some (.int .u64 k.num) ∧ w'.cell? ⟨wr.heap.size, 4, none⟩ = some (.string k.op) ∧ w'.cell? ⟨wr.heap.size, 5, none⟩ = some (.slice A' k.kids.length cap'))) (by kernel_rfl) ?_ (fun hHeld => ?_)
            · exact SX.out _ FD.out
            refine tk 0 ?_
            try simp only [Act.put, z1, z2, z3]
            refine tk 1 ?_
            try simp only [Act.put, z1, z2, z3]
            refine tk 2 ?_
            try simp only [Act.put, z1, z2, z3]
            refine tk 3 ?_
            try simp only [Act.put, z1, z2, z3]
            refine tk 4 ?_
            try simp only [Act.put, z1, z2, z3]
            refine tk 5 ?_
            try simp only [Act.put, z1, z2, z3]
            refine wpAnyH_ready (rs := [6]) (by kernel_rfl) (by simp) ?_
            refine (AllReadyH.cons (i := 6) (o := ?o217) ?h217 (fun K hK => ?k217) AllReadyH.nil)
            case h217 => (simp only [List.getElem?_toArray, List.getElem?_cons_succ, List.getElem?_cons_zero]; try rfl)
            case k217 =>
              go_simp
              go_at_call 34; (with_reducible refine OC.out.mono ?_); rintro e w5 ⟨rfl, g1, g2⟩; have g2 := FD.out.tr g2; have MW := Lib.hid (MC2.out _ g2 g1); have HS5 := Lib.hid (SX.out _ g2); clear g1 g2
              try go_wp2_with fail
              refine hK.out _ _ ?_ (fun hHeld => ?_)
              · exact HS5.out
              clear hK K
              try simp only [Act.put, z1, z2, z3]
              refine tk 7 ?_
              try simp only [Act.put, z1, z2, z3]
              refine tk 8 ?_
              try simp only [Act.put, z1, z2, z3]
              refine tk 9 ?_
              try simp only [Act.put, z1, z2, z3]
              refine wpAnyH_ready (rs := [10]) (by kernel_rfl) (by simp) ?_
              refine (AllReadyH.cons (i := 10) (o := ?o221) ?h221 (fun K hK => ?k221) AllReadyH.nil)
              case h221 => (simp only [List.getElem?_toArray, List.getElem?_cons_succ, List.getElem?_cons_zero]; try rfl)
              case k221 =>
                go_simp
                go_at_call 37; (with_reducible refine MW.out.mono ?_); rintro e w6 ⟨rfl, g1, g2⟩; have G1 := Lib.hid g1; have G2 := Lib.hid g2; clear g1 g2
                try go_wp2_with fail
                refine hK.out _ _ ?_ (fun hHeld => ?_)
                · exact SX.out _ G2.out
                clear hK K
                try simp only [Act.put, z1, z2, z3]
                refine tk 11 ?_
                try simp only [Act.put, z1, z2, z3]
                refine tk 12 ?_
                try simp only [Act.put, z1, z2, z3]
                refine wpAnyH_done (by kernel_rfl) ?_ _
                go_wp2
                go_roundg f'
                case measure => have := HF.out; omega
                case rel => exact ⟨j + 1, _, by simp, by have := HF.out; omega, G1.out, HFV.out.tr G2.out, by rw [HSt.out, andM_true (by rw [HE.out]), HE.out]⟩
      have hk33 := hkind
      clear hkind
      · -- a statement
        have q1 : (k.kind == 31) = false := by simp [hk31]
        have q2 : (k.kind == 32) = false := by simp [hk32]
        have q3 : (k.kind == 33) = false := by simp [hk33]
        have hE0 : elemM F gen k s' = F.st k gen s' := by simp [elemM, hk31, hk32, hk33]
        have MC := HG.out.st V B pt mu mv nv s' k _ gen hRV hkd hwf hKV
        rw [← HV.out] at MC
        unfold RP at MC
        clear hb8 hRV hKV hkd hwf N8 NP hk31 hk32 hk33
        cases hm : (F.st k gen s').1
        · rw [hm] at MC
          have MC := Lib.hid MC
          have HE := Lib.hid (hE0.trans (show _ = (false, (F.st k gen s').2) from by rw [← hm]))
          clear hm hE0
          go_wp2_with (first | (go_at_call 38; (with_reducible refine MC.out.mono ?_); rintro e w6 ⟨rfl, g1, g2⟩; have G1 := Lib.hid g1; have G2 := Lib.hid g2; clear g1 g2))
          rw [HV.out] at G2
          go_ret
          rw [HSt.out, andM_false (by rw [HE.out])]
          rw [HE.out]
          exact ⟨rfl, G1.out, HFV.out.tr G2.out⟩
        · rw [hm] at MC
          have MC := Lib.hid MC
          have HE := Lib.hid (hE0.trans (show _ = (true, (F.st k gen s').2) from by rw [← hm]))
          clear hm hE0
          go_wp2_with (first | (go_at_call 38; (with_reducible refine MC.out.mono ?_); rintro e w6 ⟨rfl, g1, g2⟩; have G1 := Lib.hid g1; have G2 := Lib.hid g2; clear g1 g2))
          rw [HV.out] at G2
          go_roundg f'
          case measure => have := HF.out; omega
          case rel => exact ⟨j + 1, _, by simp, by have := HF.out; omega, G1.out, HFV.out.tr G2.out, by rw [HSt.out, andM_true (by rw [HE.out]), HE.out]⟩
    · have hjl : j = l.length := by omega
      have hj' : ¬ (j : Int) < (l.length : Int) := by omega
      have HJ := Lib.hid hjl
      clear hf hjl
      go_wp2
      go_ret
      rw [H3.out, HJ.out, List.drop_length]
      exact ⟨rfl, H1.out, H2.out⟩
end Go.Proofs.YtlenhcmgcgccmaaDoor
