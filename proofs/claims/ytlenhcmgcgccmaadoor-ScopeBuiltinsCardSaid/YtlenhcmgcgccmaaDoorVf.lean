/- Scope: the listed tables. -/
import Derived.Test.YtlenhcmgcgccmaaDoorVe
import Derived.Lib.LaidTab
import Derived.WideWitness
import Derived.LaidLaws
import Derived.Stop.LaidErr
import Derived.Deep.DeepLaidRun
import Derived.MakeChecks
import Derived.Test.YtlenhcmgcgccmaaDoorRows
import Derived.Test.YtlenhcmgcgccmaaDoorSa
namespace Go.Proofs.YtlenhcmgcgccmaaDoor
open Go.RowKit Go
set_option linter.unusedVariables false
set_option linter.unusedSimpArgs false
theorem gAscii : Tryd.prog.globalNamed "strings.asciiSpace" = some 0 := by kernel_rfl
theorem gAsciiType : (Tryd.prog.globals[0]?).map (·.type) = some 107 := by kernel_rfl
theorem cells107 : Tryd.prog.cellsOf 107 = 256 := by kernel_rfl
theorem cells5 : Tryd.prog.cellsOf 5 = 1 := by kernel_rfl
abbrev laidList : List (String × DataW Unit) := [("unicode.White_Space", Rows.laid_unicode_White_Space), ("strings.asciiSpace", Rows.laid_strings_asciiSpace)]
theorem ascii_data : (Rows.laid_strings_asciiSpace : DataW Unit) = Lib.tabData .u8 Lib.asciiSpaceTab := by kernel_rfl
/-- what the rows' list gives. -/
theorem tab_of {W : World} (h : laidMet Tryd.prog laidList W) : Lib.TabIs Tryd.prog W "strings.asciiSpace" .u8 Lib.asciiSpaceTab := by
  have h2 : laidMet Tryd.prog [("strings.asciiSpace", Lib.tabData .u8 Lib.asciiSpaceTab)] W := by
    have h1 := laidMet.tail h
    rw [ascii_data] at h1
    exact h1
  exact Lib.tabIs_of_head (rest := []) gAscii gAsciiType Tryd.underlying107 Tryd.underlying5 cells5 cells107 h2
theorem tab_ofH {W : World} (h : laidMetH Tryd.prog laidList W) : Lib.TabIs Tryd.prog W "strings.asciiSpace" .u8 Lib.asciiSpaceTab := tab_of (by rw [MakeChecks.laidMetH_plain _ _ _ (by kernel_rfl)] at h; exact h)
/-- a world for a witness: the settled one with two blocks more (the ranges of what is white; their table), the variables holding what their initialisers lay. -/
noncomputable def laidWorld (os : Os) : World :=
  let N := (World.settled Tryd.prog os).heap.size
  let w0 := World.holding Tryd.prog os ⟨#[.cells (Lib.whiteT.map fun (z : Nat) => Value.int .u16 (z : Int)).toArray 126, .cells #[.slice (some ⟨N, 0, none⟩) 7 7, .slice none 0 0, .int .i64 2] 123], #[], []⟩
  let put (h : Array Obj) (g : Nat) (cs : Array Value) : Array Obj := h.modify g fun
    | .cells _ t frozen => .cells cs t frozen
    | o => o
  { w0 with heap := put (put w0.heap 0 (Lib.asciiSpaceTab.map fun z => Value.int .u8 z).toArray) 1 #[.pointer (some ⟨N + 1, 0, none⟩)] }
end Go.Proofs.YtlenhcmgcgccmaaDoor
namespace Go.Proofs.YtlenhcmgcgccmaaDoor
open Go.RowKit Go
set_option linter.unusedVariables false
set_option linter.unusedSimpArgs false
theorem bi_at : ∀ k : Nat, k < 14 → bi (names.getD k ⟨#[]⟩) = ((k : Int), true) := by
  have h : ((List.range 14).all fun k => decide (bi (names.getD k ⟨#[]⟩) = ((k : Int), true))) = true := by kernel_rfl
  intro k hk
  exact of_decide_eq_true (List.all_eq_true.1 h k (List.mem_range.2 hk))
set_option maxRecDepth 100000 in
set_option maxHeartbeats 4000000 in
theorem rbuiltin_calls (w : World) (s : ByteArray) :
    Calls Tryd.prog 12 #[.string s] w fun r w' => r = .returned (.tuple #[.int .i64 (bi s).1, .bool (bi s).2]) ∧ w' = w.alloc (.cells namesV 9) := by
  have HN := Lib.hid (names_calls w)
  have HB := Lib.hid (Blk.new w 9 namesV)
  have hi := idx_ge s names 0
  rw [names_len] at hi
  unfold bi
  have HI := Lib.hid hi
  clear hi
  go_enter Tryd.func12, Tryd.ntmps12
  go_wp2_with (first | (go_at_call 9; (with_reducible refine HN.out.mono ?_); rintro e w1 ⟨rfl, rfl⟩))
  go_loopg [5] 14 (fun f i wr => ∃ k : Nat, i = .int .i64 k ∧ k + f = 14 ∧ idx s 0 names = idx s k (names.drop k) ∧ wr = w.alloc (.cells namesV 9))
  case atStart => exact ⟨0, rfl, by omega, rfl, rfl⟩
  case round =>
    obtain ⟨k, rfl, hf, he, rfl⟩ := hrel
    have HE := Lib.hid he
    clear he
    by_cases hk : k < 14
    · obtain ⟨q, hx⟩ : ∃ e, names[k]? = some e := ⟨_, List.getElem?_eq_getElem (by rw [names_len]; omega)⟩
      have hd := drop_at' hx
      have c0 := nm_cell HB.out hx
      have hk' : (k : Int) < 14 := by omega
      have hk'' : (0 : Int) ≤ (k : Int) ∧ (k : Int) ≤ 14 := by omega
      have HDr := Lib.hid hd
      obtain ⟨f', hf'⟩ : ∃ f', gk = f' + 1 := ⟨gk - 1, by omega⟩
      have HF' := Lib.hid hf'
      have HF := Lib.hid hf
      have hs := str_eq q s
      clear hd hx hf hf'
      cases hq : decide (q = s)
      all_goals
        rw [hq] at hs
        have HQ := Lib.hid hq
        clear hq
        go_wp2
        first
        | (go_ret2
           have e1 : idx s 0 names = (k : Int) := by rw [HE.out, HDr.out, idx, if_pos (of_decide_eq_true HQ.out).symm]
           rw [e1]
           refine ⟨?_, rfl⟩
           simp
           done)
        | (go_roundg f'
           case measure => have := HF'.out; omega
           case rel => exact ⟨k + 1, by simp, by have := HF'.out; have := HF.out; omega, by rw [HE.out, HDr.out, idx, if_neg (fun e => of_decide_eq_false HQ.out e.symm)], rfl⟩)
    · have hk' : ¬ (k : Int) < 14 := by omega
      obtain rfl : k = 14 := by omega
      have e1 : idx s 0 names = -1 := by rw [HE.out]; rfl
      clear hf
      go_wp2
      go_ret2
      exact ⟨rfl, rfl⟩
end Go.Proofs.YtlenhcmgcgccmaaDoor
