/- Scope: Right, of whatever tree. -/
import Derived.Test.YtlenhcmgcgccmaaDoorTr
namespace Go.Proofs.YtlenhcmgcgccmaaDoor
open Go.RowKit Go
set_option linter.unusedVariables false
set_option linter.unusedSimpArgs false
theorem goodR : ∀ n, GoodR (iterR n) n
  | 0 => ⟨fun _ _ _ _ _ _ _ _ _ _ _ h => (by cases h), fun _ _ _ _ _ _ _ _ _ _ _ h => (by cases h), fun _ _ _ _ _ _ _ _ _ _ h => (by cases h)⟩
  | n + 1 => ⟨st_step (goodR n), ex_step (goodR n), fn_step (goodR n)⟩
set_option maxRecDepth 100000 in
set_option maxHeartbeats 8000000 in
theorem right_calls (w : World) (B : Nat) (t : Tr) (kv : Value) (htab : Lib.TabIs Tryd.prog w "strings.asciiSpace" .u8 Lib.asciiSpaceTab) (hB : B ≤ w.heap.size) (hk : KidsAt w B kv t.kids) :
    Calls Tryd.prog 19 #[.agg #[.int .i64 t.kind, .int .i64 t.at_, .string t.name, .int .u64 t.num, .string t.op, kv]] w fun e w' => e = .returned (.bool (rightP t)) ∧ Below w.heap.size w w' := by
  have hk' := hk.more hB
  have htl := tabl_of htab
  clear htab hk hB
  obtain ⟨A, cap, rfl, hcl, hcm, hA⟩ := hk'.slice
  have hmk : ∀ w1, (Instr.makeMap 72 none).run Tryd.prog w1 = .ok (.map (some w1.heap.size)) (w1.alloc (.map #[] 0)) := fun _ => by kernel_rfl
  obtain ⟨V, hV⟩ : ∃ V, (((w.alloc (.cells #[.int .i64 t.kind, .int .i64 t.at_, .string t.name, .int .u64 t.num, .string t.op, .slice A t.kids.length cap] 31)).alloc (.map #[] 0)).alloc (.map #[] 0)).alloc (.cells #[.map (some (w.heap.size + 1)), .map (some (w.heap.size + 1 + 1)), .int .i64 0] 74) = V := ⟨_, rfl⟩
  have hWV : Below w.heap.size w V := by rw [← hV]; exact below_alloc (below_alloc (below_alloc (below_alloc (Below.refl _ _))))
  have hsz : V.heap.size = w.heap.size + 4 := by rw [← hV]; simp
  have hb1 : Blk V w.heap.size 31 #[.int .i64 t.kind, .int .i64 t.at_, .string t.name, .int .u64 t.num, .string t.op, .slice A t.kids.length cap] := by
    rw [← hV]; exact (((Blk.new w 31 #[.int .i64 t.kind, .int .i64 t.at_, .string t.name, .int .u64 t.num, .string t.op, .slice A t.kids.length cap]).alloc _).alloc _).alloc _
  have hm1 : MapIs V 3 (w.heap.size + 1) [] := by
    rw [← hV]
    have := MapIs.made (w.alloc (.cells #[.int .i64 t.kind, .int .i64 t.at_, .string t.name, .int .u64 t.num, .string t.op, .slice A t.kids.length cap] 31)) 3
    rw [size_alloc] at this
    exact (this.same (Below.heap_alloc _ _ _ (by simp))).same (Below.heap_alloc _ _ _ (by simp))
  have hm2 : MapIs V 3 (w.heap.size + 1 + 1) [] := by
    rw [← hV]
    have := MapIs.made ((w.alloc (.cells #[.int .i64 t.kind, .int .i64 t.at_, .string t.name, .int .u64 t.num, .string t.op, .slice A t.kids.length cap] 31)).alloc (.map #[] 0)) 3
    rw [size_alloc, size_alloc] at this
    exact this.same (Below.heap_alloc _ _ _ (by simp))
  have hbt : Blk V (w.heap.size + 1 + 1 + 1) 74 #[.map (some (w.heap.size + 1)), .map (some (w.heap.size + 1 + 1)), .int .i64 0] := by
    rw [← hV]
    have := Blk.new (((w.alloc (.cells #[.int .i64 t.kind, .int .i64 t.at_, .string t.name, .int .u64 t.num, .string t.op, .slice A t.kids.length cap] 31)).alloc (.map #[] 0)).alloc (.map #[] 0)) 74 #[.map (some (w.heap.size + 1)), .map (some (w.heap.size + 1 + 1)), .int .i64 0]
    rwa [size_alloc, size_alloc, size_alloc] at this
  have hkV := hk'.under hWV
  have FC := fits_all 300 (by omega) V w.heap.size (w.heap.size + 1 + 1 + 1) (.map (some (w.heap.size + 1))) (.map (some (w.heap.size + 1 + 1))) 0 t (.slice A t.kids.length cap) (by omega) (by omega) (by omega) (by omega) hbt hkV
  have hfp : fitsB 300 0 t = fitsP t := by unfold fitsB fitsP; congr 1; rw [decide_eq_decide]; omega
  rw [hfp, show ((300 : Nat) : Int) = 300 from rfl] at FC
  have HV := Lib.hid hV
  have HWV := Lib.hid hWV
  by_cases h47 : t.kind = 47
  · have hP : rightP t = (fitsP t && (blockM (iterR 300) t.kids false ⟨[], []⟩).1) := by unfold rightP; rw [h47]; simp
    rw [hP]
    clear hP
    cases hf : fitsP t
    · rw [hf] at FC
      rw [Bool.false_and]
      rw [h47] at FC HV ⊢
      rw [← HV.out] at FC
      have FC := Lib.hid FC
      have HF0 := Lib.hid (show ∀ w', V.grownBy w' (some (w.heap.size + 1 + 1 + 1)) → Below w.heap.size w w' from fun w' g => HWV.out.trans ((Below.refl _ _).grown g (by omega) (fun b hb => by cases hb; omega)))
      clear hV hWV hb1 hm1 hm2 hbt hkV hk' htl hfp hf h47 hcl hcm hA
      go_enter Tryd.func19, Tryd.ntmps19
      go_wp2_with (first | (go_at_call 25; (with_reducible refine FC.out.mono ?_); rintro e v1 ⟨n', rfl, g1, g2, g3⟩; rw [HV.out] at g2; have G2 := Lib.hid g2; clear g1 g2 g3))
      go_ret
      exact ⟨rfl, HF0.out _ G2.out⟩
    · rw [hf] at FC
      rw [Bool.true_and]
      have hkf : ∀ k ∈ t.kids, k.fitsD 300 = true := fun k hk => by
        unfold fitsP at hf
        rw [Bool.and_eq_true] at hf
        exact fitsD_sub hf.1 hk
      have BC := Lib.hid (fun w' (g1 : ∃ n', Blk w' (w.heap.size + 1 + 1 + 1) 74 #[.map (some (w.heap.size + 1)), .map (some (w.heap.size + 1 + 1)), .int .i64 n']) (g2 : V.grownBy w' (some (w.heap.size + 1 + 1 + 1))) =>
        have hbw : Below w.heap.size w w' := HWV.out.trans ((Below.refl _ _).grown g2 (by omega) (fun b hb => by cases hb; omega))
        show Calls Tryd.prog 26 #[.pointer (some ⟨w.heap.size + 1 + 1 + 1, 0, none⟩), .slice A t.kids.length cap, .bool false] w' (fun e w'' => e = .returned (.bool (blockM (iterR 300) t.kids false ⟨[], []⟩).1) ∧ Below w.heap.size w w'') from by
          obtain ⟨n', g1⟩ := g1
          have hRW : RW w' w.heap.size (w.heap.size + 1 + 1 + 1) (w.heap.size + 1) (w.heap.size + 1 + 1) (.int .i64 n') ⟨[], []⟩ :=
            ⟨htl.on hbw, hbw.size, by omega, by omega, by omega, g1, hm1.same (g2.block _ hm1.lt (fun e => by injection e with e; omega)), hm2.same (g2.block _ hm2.lt (fun e => by injection e with e; omega)), by omega⟩
          exact (block_calls (goodR 300) w' w.heap.size _ _ _ _ ⟨[], []⟩ t.kids A cap false hRW hkf (hk'.under hbw)).mono fun e w'' ⟨h1, h2, h3⟩ => ⟨h1, hbw.trans (Fr.root hRW h3)⟩)
      have CX := Lib.hid (fun w' (g2 : V.grownBy w' (some (w.heap.size + 1 + 1 + 1))) => show w'.cell? ⟨w.heap.size, 5, none⟩ = some (.slice A t.kids.length cap) from ((hb1.grown g2 (fun e => by injection e with e; omega)).cell 5))
      rw [h47] at FC HV ⊢
      rw [← HV.out] at FC
      have FC := Lib.hid FC
      generalize (blockM (iterR 300) t.kids false ⟨[], []⟩).1 = r at *
      clear hV hWV hb1 hm1 hm2 hbt hkV hk' htl hfp hf h47 hcl hcm hA hkf
      go_enter Tryd.func19, Tryd.ntmps19
      go_wp2_with (first | (go_at_call 25; (with_reducible refine FC.out.mono ?_); rintro e v1 ⟨n', rfl, g1, g2, g3⟩; rw [HV.out] at g2; have B1 := Lib.hid (BC.out v1 ⟨_, g1⟩ g2); have x5 := CX.out v1 g2; clear g1 g2 g3) | (go_at_call 26; (with_reducible refine B1.out.mono ?_); rintro e v2 ⟨rfl, g2⟩; have G2 := Lib.hid g2; clear g2))
      go_ret
      exact ⟨rfl, G2.out⟩
  · have q : (t.kind == 47) = false := by simp [h47]
    have hP : rightP t = false := by unfold rightP; simp [h47]
    rw [hP]
    have HWV2 := hWV
    rw [← HV.out] at HWV2
    have HWV2 := Lib.hid HWV2
    clear hV hWV hb1 hm1 hm2 hbt hkV hk' htl hfp h47 hcl hcm hA hP FC HV HWV
    go_enter Tryd.func19, Tryd.ntmps19
    go_wp2
    go_ret
    exact ⟨rfl, HWV2.out⟩
end Go.Proofs.YtlenhcmgcgccmaaDoor
