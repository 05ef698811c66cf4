/- Scope: Right: shut. -/
import Derived.Test.YtlenhcmgcgccmaaDoorTg
namespace Go.Proofs.YtlenhcmgcgccmaaDoor
open Go.RowKit Go
set_option linter.unusedVariables false
set_option linter.unusedSimpArgs false
set_option maxRecDepth 100000 in
set_option maxHeartbeats 8000000 in
theorem shut_calls {F : RF} {n : Nat} (G : GoodR F n) (w : World) (B pt mu mv : Nat) (nv : Value) (s : Pl) (t : Tr) (kv : Value) (free gen : Bool) (hr : RW w B pt mu mv nv s) (hd : t.fitsD n = true) (hwf : t.wf1) (hk : KidsAt w B kv t.kids) :
    Calls Tryd.prog 59 #[.pointer (some ⟨pt, 0, none⟩), .agg #[.int .i64 t.kind, .int .i64 t.at_, .string t.name, .int .u64 t.num, .string t.op, kv], .bool free, .bool gen] w (RP w B pt mu mv nv (shutM F t free gen s)) := by
  obtain ⟨A, cap, rfl, hcl, hcm, hA⟩ := hk.slice
  obtain ⟨V, hV⟩ : ∃ V, w.alloc (.cells #[.int .i64 t.kind, .int .i64 t.at_, .string t.name, .int .u64 t.num, .string t.op, .slice A t.kids.length cap] 31) = V := ⟨_, rfl⟩
  have hWV : Below w.heap.size w V := by rw [← hV]; exact below_alloc (Below.refl _ _)
  have hRV : RW V B pt mu mv nv s := hr.fr hWV
  have HFV := Lib.hid (show Fr (SR mu mv) w V from Fr.of_below hWV)
  have hb8 : Blk V w.heap.size 31 #[.int .i64 t.kind, .int .i64 t.at_, .string t.name, .int .u64 t.num, .string t.op, .slice A t.kids.length cap] := by rw [← hV]; exact Blk.new _ _ _
  have hKV := hk.under (hWV.mono hr.size)
  have HV := Lib.hid hV
  have hpl := hr.blk.lt
  have MC := missing_calls V t.kind (.int .i64 t.at_) (.string t.name) (.int .u64 t.num) (.string t.op) rfl rfl rfl rfl A t.kids.length cap
  rw [missing_eq] at MC
  have N8 := Fr.not_sr hRV hb8
  have hdk : ∀ k ∈ t.kids, k.fitsD n = true := fun k hk => fitsD_sub hd hk
  have hmk : missing t = true → t.kind = 0 := fun h => by
    unfold missing at h; rw [Bool.and_eq_true, decide_eq_true_eq] at h; exact h.1
  generalize hms : missing t = ms at *
  have hP : shutM F t free gen = if (ms && free) = true then okM true else if t.kind = 44 then blockM F t.kids gen else okM false := by unfold shutM; rw [hms]
  have BC := Lib.hid (fun W (b : Below V.heap.size V W) => show Calls Tryd.prog 26 #[.pointer (some ⟨pt, 0, none⟩), .slice A t.kids.length cap, .bool gen] W (fun e w' => e = .returned (.bool (blockM F t.kids gen s).1) ∧ RW w' B pt mu mv nv (blockM F t.kids gen s).2 ∧ Fr (SR mu mv) w w') from
    (block_calls G W B pt mu mv nv s t.kids A cap gen (hRV.fr b) hdk (hKV.under (b.mono hRV.size))).mono fun e w' ⟨h1, h2, h3⟩ => ⟨h1, h2, (HFV.out.tr (Fr.of_below b)).tr h3⟩)
  have CX := Lib.hid (fun w' (b : Below V.heap.size V w') => show w'.cell? ⟨w.heap.size, 0, none⟩ = some (.int .i64 t.kind) ∧ w'.cell? ⟨w.heap.size, 1, none⟩ = some (.int .i64 t.at_) ∧ w'.cell? ⟨w.heap.size, 2, none⟩ = some (.string t.name) ∧ w'.cell? ⟨w.heap.size, 3, none⟩ = some (.int .u64 t.num) ∧ w'.cell? ⟨w.heap.size, 4, none⟩ = some (.string t.op) ∧ w'.cell? ⟨w.heap.size, 5, none⟩ = some (.slice A t.kids.length cap) from
    ⟨(Fr.of_below b).cell hb8 N8 0 rfl, (Fr.of_below b).cell hb8 N8 1 rfl, (Fr.of_below b).cell hb8 N8 2 rfl, (Fr.of_below b).cell hb8 N8 3 rfl, (Fr.of_below b).cell hb8 N8 4 rfl, (Fr.of_below b).cell hb8 N8 5 rfl⟩)
  have ZX := Lib.hid (fun w' (b : Below V.heap.size V w') => show RW w' B pt mu mv nv s ∧ Fr (SR mu mv) w w' from ⟨hRV.fr b, HFV.out.tr (Fr.of_below b)⟩)
  unfold RP
  rw [← HV.out] at MC
  rw [hP]
  clear hP hms hdk hr hd hwf hk hRV hKV hb8 N8 G hWV hA hcl hcm hV
  cases ms
  · simp only [Bool.false_and, Bool.false_eq_true, if_false]
    clear hmk
    by_cases hk44 : t.kind = 44
    · have q : (t.kind == 44) = true := by simp [hk44]
      simp only [if_pos hk44]
      generalize blockM F t.kids gen s = r at *
      clear hk44
      have MC := Lib.hid MC
      go_enter Tryd.func59, Tryd.ntmps59
      go_wp2_with (first | (go_at_call 54; (with_reducible refine MC.out.mono ?_); rintro e w5 ⟨rfl, hb⟩; rw [HV.out] at hb; have BW := Lib.hid (BC.out w5 hb); have ZW := Lib.hid (ZX.out w5 hb); obtain ⟨x0, x1, x2, x3, x4, x5⟩ := CX.out w5 hb; clear hb) | (go_at_call 26; (with_reducible refine BW.out.mono ?_); rintro e w6 ⟨rfl, g1, g2⟩; have G1 := Lib.hid g1; have G2 := Lib.hid g2; clear g1 g2))
      go_ret
      exact ⟨rfl, G1.out, G2.out⟩
    · have q : (t.kind == 44) = false := by simp [hk44]
      simp only [if_neg hk44]
      clear hk44
      have MC := Lib.hid MC
      go_enter Tryd.func59, Tryd.ntmps59
      go_wp2_with (first | (go_at_call 54; (with_reducible refine MC.out.mono ?_); rintro e w5 ⟨rfl, hb⟩; rw [HV.out] at hb; have BW := Lib.hid (BC.out w5 hb); have ZW := Lib.hid (ZX.out w5 hb); obtain ⟨x0, x1, x2, x3, x4, x5⟩ := CX.out w5 hb; clear hb))
      go_ret
      exact ⟨rfl, ZW.out.1, ZW.out.2⟩
  · have hk0 := hmk rfl
    have q : (t.kind == 44) = false := by simp [hk0]
    clear hmk
    cases free
    · simp only [Bool.and_false, Bool.false_eq_true, if_false]
      rw [if_neg (by omega)]
      clear hk0
      have MC := Lib.hid MC
      go_enter Tryd.func59, Tryd.ntmps59
      go_wp2_with (first | (go_at_call 54; (with_reducible refine MC.out.mono ?_); rintro e w5 ⟨rfl, hb⟩; rw [HV.out] at hb; have BW := Lib.hid (BC.out w5 hb); have ZW := Lib.hid (ZX.out w5 hb); obtain ⟨x0, x1, x2, x3, x4, x5⟩ := CX.out w5 hb; clear hb))
      go_ret
      exact ⟨rfl, ZW.out.1, ZW.out.2⟩
    · simp only [Bool.and_true, if_true]
      clear hk0
      have MC := Lib.hid MC
      go_enter Tryd.func59, Tryd.ntmps59
      go_wp2_with (first | (go_at_call 54; (with_reducible refine MC.out.mono ?_); rintro e w5 ⟨rfl, hb⟩; rw [HV.out] at hb; have BW := Lib.hid (BC.out w5 hb); have ZW := Lib.hid (ZX.out w5 hb); obtain ⟨x0, x1, x2, x3, x4, x5⟩ := CX.out w5 hb; clear hb))
      go_ret
      exact ⟨rfl, ZW.out.1, ZW.out.2⟩
end Go.Proofs.YtlenhcmgcgccmaaDoor
