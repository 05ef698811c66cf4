/- Scope: Right: expr, the small kinds. -/
import Derived.Test.YtlenhcmgcgccmaaDoorTn
namespace Go.Proofs.YtlenhcmgcgccmaaDoor
open Go.RowKit Go
set_option linter.unusedVariables false
set_option linter.unusedSimpArgs false
set_option maxRecDepth 100000 in
set_option maxHeartbeats 8000000 in
theorem ex1 {F : RF} {n : Nat} (G : GoodR F n) (w : World) (B pt mu mv : Nat) (nv : Value) (s : Pl) (t : Tr) (kv : Value) (gen : Bool) (hr : RW w B pt mu mv nv s) (hd : t.fitsD (n + 1) = true) (hwf : t.wf1) (hk : KidsAt w B kv t.kids) (hkind : t.kind = 1) :
    Calls Tryd.prog 36 #[.pointer (some ⟨pt, 0, none⟩), .agg #[.int .i64 t.kind, .int .i64 t.at_, .string t.name, .int .u64 t.num, .string t.op, kv], .bool gen] w (RP w B pt mu mv nv (exP F t gen s)) := by
  have hgo : exP F t gen s = (decide (t.kids.length = 0), s) := by unfold exP; rw [hkind]; rfl
  rw [hgo]
  obtain ⟨A, cap, rfl, hcl, hcm, hA⟩ := hk.slice
  have hWV : Below w.heap.size w (w.alloc (.cells #[.int .i64 t.kind, .int .i64 t.at_, .string t.name, .int .u64 t.num, .string t.op, .slice A t.kids.length cap] 31)) := below_alloc (Below.refl _ _)
  have hRV : RW (w.alloc (.cells #[.int .i64 t.kind, .int .i64 t.at_, .string t.name, .int .u64 t.num, .string t.op, .slice A t.kids.length cap] 31)) B pt mu mv nv s := hr.fr hWV
  have HFV := Lib.hid (show Fr (SR mu mv) w (w.alloc (.cells #[.int .i64 t.kind, .int .i64 t.at_, .string t.name, .int .u64 t.num, .string t.op, .slice A t.kids.length cap] 31)) from Fr.of_below hWV)
  have RV := Lib.hid hRV
  have hpl := hr.blk.lt
  have hn2 : w.heap.size ≠ pt := by omega
  obtain ⟨cpu, cpv⟩ := hr.cells
  unfold RP
  rw [hkind] at RV HFV ⊢
  clear hgo hr hd hk hWV hRV G hcl hcm hA hkind hwf
  by_cases h0 : t.kids.length = 0
  · rw [h0] at RV HFV ⊢
    clear h0
    go_enter Tryd.func36, Tryd.ntmps36
    go_wp2
    go_ret
    exact ⟨rfl, RV.out, HFV.out⟩
  · have q : ((t.kids.length : Int) == 0) = false := by simpa using h0
    rw [show decide (t.kids.length = 0) = false by simp [h0]]
    clear h0
    go_enter Tryd.func36, Tryd.ntmps36
    go_wp2
    go_ret
    exact ⟨rfl, RV.out, HFV.out⟩
set_option maxRecDepth 100000 in
set_option maxHeartbeats 8000000 in
theorem ex2 {F : RF} {n : Nat} (G : GoodR F n) (w : World) (B pt mu mv : Nat) (nv : Value) (s : Pl) (t : Tr) (kv : Value) (gen : Bool) (hr : RW w B pt mu mv nv s) (hd : t.fitsD (n + 1) = true) (hwf : t.wf1) (hk : KidsAt w B kv t.kids) (hkind : t.kind = 2) :
    Calls Tryd.prog 36 #[.pointer (some ⟨pt, 0, none⟩), .agg #[.int .i64 t.kind, .int .i64 t.at_, .string t.name, .int .u64 t.num, .string t.op, kv], .bool gen] w (RP w B pt mu mv nv (exP F t gen s)) := by
  have hgo : exP F t gen s = (decide (t.kids.length = 0), s) := by unfold exP; rw [hkind]; rfl
  rw [hgo]
  obtain ⟨A, cap, rfl, hcl, hcm, hA⟩ := hk.slice
  have hWV : Below w.heap.size w (w.alloc (.cells #[.int .i64 t.kind, .int .i64 t.at_, .string t.name, .int .u64 t.num, .string t.op, .slice A t.kids.length cap] 31)) := below_alloc (Below.refl _ _)
  have hRV : RW (w.alloc (.cells #[.int .i64 t.kind, .int .i64 t.at_, .string t.name, .int .u64 t.num, .string t.op, .slice A t.kids.length cap] 31)) B pt mu mv nv s := hr.fr hWV
  have HFV := Lib.hid (show Fr (SR mu mv) w (w.alloc (.cells #[.int .i64 t.kind, .int .i64 t.at_, .string t.name, .int .u64 t.num, .string t.op, .slice A t.kids.length cap] 31)) from Fr.of_below hWV)
  have RV := Lib.hid hRV
  have hpl := hr.blk.lt
  have hn2 : w.heap.size ≠ pt := by omega
  obtain ⟨cpu, cpv⟩ := hr.cells
  unfold RP
  rw [hkind] at RV HFV ⊢
  clear hgo hr hd hk hWV hRV G hcl hcm hA hkind hwf
  by_cases h0 : t.kids.length = 0
  · rw [h0] at RV HFV ⊢
    clear h0
    go_enter Tryd.func36, Tryd.ntmps36
    go_wp2
    go_ret
    exact ⟨rfl, RV.out, HFV.out⟩
  · have q : ((t.kids.length : Int) == 0) = false := by simpa using h0
    rw [show decide (t.kids.length = 0) = false by simp [h0]]
    clear h0
    go_enter Tryd.func36, Tryd.ntmps36
    go_wp2
    go_ret
    exact ⟨rfl, RV.out, HFV.out⟩
set_option maxRecDepth 100000 in
set_option maxHeartbeats 8000000 in
theorem ex4 {F : RF} {n : Nat} (G : GoodR F n) (w : World) (B pt mu mv : Nat) (nv : Value) (s : Pl) (t : Tr) (kv : Value) (gen : Bool) (hr : RW w B pt mu mv nv s) (hd : t.fitsD (n + 1) = true) (hwf : t.wf1) (hk : KidsAt w B kv t.kids) (hkind : t.kind = 4) :
    Calls Tryd.prog 36 #[.pointer (some ⟨pt, 0, none⟩), .agg #[.int .i64 t.kind, .int .i64 t.at_, .string t.name, .int .u64 t.num, .string t.op, kv], .bool gen] w (RP w B pt mu mv nv (exP F t gen s)) := by
  have hgo : exP F t gen s = (decide (t.kids.length = 0), s) := by unfold exP; rw [hkind]; rfl
  rw [hgo]
  obtain ⟨A, cap, rfl, hcl, hcm, hA⟩ := hk.slice
  have hWV : Below w.heap.size w (w.alloc (.cells #[.int .i64 t.kind, .int .i64 t.at_, .string t.name, .int .u64 t.num, .string t.op, .slice A t.kids.length cap] 31)) := below_alloc (Below.refl _ _)
  have hRV : RW (w.alloc (.cells #[.int .i64 t.kind, .int .i64 t.at_, .string t.name, .int .u64 t.num, .string t.op, .slice A t.kids.length cap] 31)) B pt mu mv nv s := hr.fr hWV
  have HFV := Lib.hid (show Fr (SR mu mv) w (w.alloc (.cells #[.int .i64 t.kind, .int .i64 t.at_, .string t.name, .int .u64 t.num, .string t.op, .slice A t.kids.length cap] 31)) from Fr.of_below hWV)
  have RV := Lib.hid hRV
  have hpl := hr.blk.lt
  have hn2 : w.heap.size ≠ pt := by omega
  obtain ⟨cpu, cpv⟩ := hr.cells
  unfold RP
  rw [hkind] at RV HFV ⊢
  clear hgo hr hd hk hWV hRV G hcl hcm hA hkind hwf
  by_cases h0 : t.kids.length = 0
  · rw [h0] at RV HFV ⊢
    clear h0
    go_enter Tryd.func36, Tryd.ntmps36
    go_wp2
    go_ret
    exact ⟨rfl, RV.out, HFV.out⟩
  · have q : ((t.kids.length : Int) == 0) = false := by simpa using h0
    rw [show decide (t.kids.length = 0) = false by simp [h0]]
    clear h0
    go_enter Tryd.func36, Tryd.ntmps36
    go_wp2
    go_ret
    exact ⟨rfl, RV.out, HFV.out⟩
set_option maxRecDepth 100000 in
set_option maxHeartbeats 8000000 in
theorem ex5 {F : RF} {n : Nat} (G : GoodR F n) (w : World) (B pt mu mv : Nat) (nv : Value) (s : Pl) (t : Tr) (kv : Value) (gen : Bool) (hr : RW w B pt mu mv nv s) (hd : t.fitsD (n + 1) = true) (hwf : t.wf1) (hk : KidsAt w B kv t.kids) (hkind : t.kind = 5) :
    Calls Tryd.prog 36 #[.pointer (some ⟨pt, 0, none⟩), .agg #[.int .i64 t.kind, .int .i64 t.at_, .string t.name, .int .u64 t.num, .string t.op, kv], .bool gen] w (RP w B pt mu mv nv (exP F t gen s)) := by
  have hgo : exP F t gen s = (decide (t.kids.length = 0), s) := by unfold exP; rw [hkind]; rfl
  rw [hgo]
  obtain ⟨A, cap, rfl, hcl, hcm, hA⟩ := hk.slice
  have hWV : Below w.heap.size w (w.alloc (.cells #[.int .i64 t.kind, .int .i64 t.at_, .string t.name, .int .u64 t.num, .string t.op, .slice A t.kids.length cap] 31)) := below_alloc (Below.refl _ _)
  have hRV : RW (w.alloc (.cells #[.int .i64 t.kind, .int .i64 t.at_, .string t.name, .int .u64 t.num, .string t.op, .slice A t.kids.length cap] 31)) B pt mu mv nv s := hr.fr hWV
  have HFV := Lib.hid (show Fr (SR mu mv) w (w.alloc (.cells #[.int .i64 t.kind, .int .i64 t.at_, .string t.name, .int .u64 t.num, .string t.op, .slice A t.kids.length cap] 31)) from Fr.of_below hWV)
  have RV := Lib.hid hRV
  have hpl := hr.blk.lt
  have hn2 : w.heap.size ≠ pt := by omega
  obtain ⟨cpu, cpv⟩ := hr.cells
  unfold RP
  rw [hkind] at RV HFV ⊢
  clear hgo hr hd hk hWV hRV G hcl hcm hA hkind hwf
  by_cases h0 : t.kids.length = 0
  · rw [h0] at RV HFV ⊢
    clear h0
    go_enter Tryd.func36, Tryd.ntmps36
    go_wp2
    go_ret
    exact ⟨rfl, RV.out, HFV.out⟩
  · have q : ((t.kids.length : Int) == 0) = false := by simpa using h0
    rw [show decide (t.kids.length = 0) = false by simp [h0]]
    clear h0
    go_enter Tryd.func36, Tryd.ntmps36
    go_wp2
    go_ret
    exact ⟨rfl, RV.out, HFV.out⟩
set_option maxRecDepth 100000 in
set_option maxHeartbeats 8000000 in
theorem ex6 {F : RF} {n : Nat} (G : GoodR F n) (w : World) (B pt mu mv : Nat) (nv : Value) (s : Pl) (t : Tr) (kv : Value) (gen : Bool) (hr : RW w B pt mu mv nv s) (hd : t.fitsD (n + 1) = true) (hwf : t.wf1) (hk : KidsAt w B kv t.kids) (hkind : t.kind = 6) :
    Calls Tryd.prog 36 #[.pointer (some ⟨pt, 0, none⟩), .agg #[.int .i64 t.kind, .int .i64 t.at_, .string t.name, .int .u64 t.num, .string t.op, kv], .bool gen] w (RP w B pt mu mv nv (exP F t gen s)) := by
  have hgo : exP F t gen s = (decide (t.kids.length = 0), s) := by unfold exP; rw [hkind]; rfl
  rw [hgo]
  obtain ⟨A, cap, rfl, hcl, hcm, hA⟩ := hk.slice
  have hWV : Below w.heap.size w (w.alloc (.cells #[.int .i64 t.kind, .int .i64 t.at_, .string t.name, .int .u64 t.num, .string t.op, .slice A t.kids.length cap] 31)) := below_alloc (Below.refl _ _)
  have hRV : RW (w.alloc (.cells #[.int .i64 t.kind, .int .i64 t.at_, .string t.name, .int .u64 t.num, .string t.op, .slice A t.kids.length cap] 31)) B pt mu mv nv s := hr.fr hWV
  have HFV := Lib.hid (show Fr (SR mu mv) w (w.alloc (.cells #[.int .i64 t.kind, .int .i64 t.at_, .string t.name, .int .u64 t.num, .string t.op, .slice A t.kids.length cap] 31)) from Fr.of_below hWV)
  have RV := Lib.hid hRV
  have hpl := hr.blk.lt
  have hn2 : w.heap.size ≠ pt := by omega
  obtain ⟨cpu, cpv⟩ := hr.cells
  unfold RP
  rw [hkind] at RV HFV ⊢
  clear hgo hr hd hk hWV hRV G hcl hcm hA hkind hwf
  by_cases h0 : t.kids.length = 0
  · rw [h0] at RV HFV ⊢
    clear h0
    go_enter Tryd.func36, Tryd.ntmps36
    go_wp2
    go_ret
    exact ⟨rfl, RV.out, HFV.out⟩
  · have q : ((t.kids.length : Int) == 0) = false := by simpa using h0
    rw [show decide (t.kids.length = 0) = false by simp [h0]]
    clear h0
    go_enter Tryd.func36, Tryd.ntmps36
    go_wp2
    go_ret
    exact ⟨rfl, RV.out, HFV.out⟩
set_option maxRecDepth 100000 in
set_option maxHeartbeats 8000000 in
theorem ex7 {F : RF} {n : Nat} (G : GoodR F n) (w : World) (B pt mu mv : Nat) (nv : Value) (s : Pl) (t : Tr) (kv : Value) (gen : Bool) (hr : RW w B pt mu mv nv s) (hd : t.fitsD (n + 1) = true) (hwf : t.wf1) (hk : KidsAt w B kv t.kids) (hkind : t.kind = 7) :
    Calls Tryd.prog 36 #[.pointer (some ⟨pt, 0, none⟩), .agg #[.int .i64 t.kind, .int .i64 t.at_, .string t.name, .int .u64 t.num, .string t.op, kv], .bool gen] w (RP w B pt mu mv nv (exP F t gen s)) := by
  have hgo : exP F t gen s = (decide (t.kids.length = 0), s) := by unfold exP; rw [hkind]; rfl
  rw [hgo]
  obtain ⟨A, cap, rfl, hcl, hcm, hA⟩ := hk.slice
  have hWV : Below w.heap.size w (w.alloc (.cells #[.int .i64 t.kind, .int .i64 t.at_, .string t.name, .int .u64 t.num, .string t.op, .slice A t.kids.length cap] 31)) := below_alloc (Below.refl _ _)
  have hRV : RW (w.alloc (.cells #[.int .i64 t.kind, .int .i64 t.at_, .string t.name, .int .u64 t.num, .string t.op, .slice A t.kids.length cap] 31)) B pt mu mv nv s := hr.fr hWV
  have HFV := Lib.hid (show Fr (SR mu mv) w (w.alloc (.cells #[.int .i64 t.kind, .int .i64 t.at_, .string t.name, .int .u64 t.num, .string t.op, .slice A t.kids.length cap] 31)) from Fr.of_below hWV)
  have RV := Lib.hid hRV
  have hpl := hr.blk.lt
  have hn2 : w.heap.size ≠ pt := by omega
  obtain ⟨cpu, cpv⟩ := hr.cells
  unfold RP
  rw [hkind] at RV HFV ⊢
  clear hgo hr hd hk hWV hRV G hcl hcm hA hkind hwf
  by_cases h0 : t.kids.length = 0
  · rw [h0] at RV HFV ⊢
    clear h0
    go_enter Tryd.func36, Tryd.ntmps36
    go_wp2
    go_ret
    exact ⟨rfl, RV.out, HFV.out⟩
  · have q : ((t.kids.length : Int) == 0) = false := by simpa using h0
    rw [show decide (t.kids.length = 0) = false by simp [h0]]
    clear h0
    go_enter Tryd.func36, Tryd.ntmps36
    go_wp2
    go_ret
    exact ⟨rfl, RV.out, HFV.out⟩
set_option maxRecDepth 100000 in
set_option maxHeartbeats 8000000 in
theorem ex8 {F : RF} {n : Nat} (G : GoodR F n) (w : World) (B pt mu mv : Nat) (nv : Value) (s : Pl) (t : Tr) (kv : Value) (gen : Bool) (hr : RW w B pt mu mv nv s) (hd : t.fitsD (n + 1) = true) (hwf : t.wf1) (hk : KidsAt w B kv t.kids) (hkind : t.kind = 8) :
    Calls Tryd.prog 36 #[.pointer (some ⟨pt, 0, none⟩), .agg #[.int .i64 t.kind, .int .i64 t.at_, .string t.name, .int .u64 t.num, .string t.op, kv], .bool gen] w (RP w B pt mu mv nv (exP F t gen s)) := by
  have hgo : exP F t gen s = (decide (t.kids.length = 0), s) := by unfold exP; rw [hkind]; rfl
  rw [hgo]
  obtain ⟨A, cap, rfl, hcl, hcm, hA⟩ := hk.slice
  have hWV : Below w.heap.size w (w.alloc (.cells #[.int .i64 t.kind, .int .i64 t.at_, .string t.name, .int .u64 t.num, .string t.op, .slice A t.kids.length cap] 31)) := below_alloc (Below.refl _ _)
  have hRV : RW (w.alloc (.cells #[.int .i64 t.kind, .int .i64 t.at_, .string t.name, .int .u64 t.num, .string t.op, .slice A t.kids.length cap] 31)) B pt mu mv nv s := hr.fr hWV
  have HFV := Lib.hid (show Fr (SR mu mv) w (w.alloc (.cells #[.int .i64 t.kind, .int .i64 t.at_, .string t.name, .int .u64 t.num, .string t.op, .slice A t.kids.length cap] 31)) from Fr.of_below hWV)
  have RV := Lib.hid hRV
  have hpl := hr.blk.lt
  have hn2 : w.heap.size ≠ pt := by omega
  obtain ⟨cpu, cpv⟩ := hr.cells
  unfold RP
  rw [hkind] at RV HFV ⊢
  clear hgo hr hd hk hWV hRV G hcl hcm hA hkind hwf
  by_cases h0 : t.kids.length = 0
  · rw [h0] at RV HFV ⊢
    clear h0
    go_enter Tryd.func36, Tryd.ntmps36
    go_wp2
    go_ret
    exact ⟨rfl, RV.out, HFV.out⟩
  · have q : ((t.kids.length : Int) == 0) = false := by simpa using h0
    rw [show decide (t.kids.length = 0) = false by simp [h0]]
    clear h0
    go_enter Tryd.func36, Tryd.ntmps36
    go_wp2
    go_ret
    exact ⟨rfl, RV.out, HFV.out⟩
set_option maxRecDepth 100000 in
set_option maxHeartbeats 8000000 in
theorem exno {F : RF} {n : Nat} (G : GoodR F n) (w : World) (B pt mu mv : Nat) (nv : Value) (s : Pl) (t : Tr) (kv : Value) (gen : Bool) (hr : RW w B pt mu mv nv s) (hd : t.fitsD (n + 1) = true) (hwf : t.wf1) (hk : KidsAt w B kv t.kids) (h1 : ¬ t.kind = 1) (h2 : ¬ t.kind = 2) (h3 : ¬ t.kind = 3) (h4 : ¬ t.kind = 4) (h5 : ¬ t.kind = 5) (h6 : ¬ t.kind = 6) (h7 : ¬ t.kind = 7) (h8 : ¬ t.kind = 8) (h9 : ¬ t.kind = 9) (h10 : ¬ t.kind = 10) (h12 : ¬ t.kind = 12) (h13 : ¬ t.kind = 13) (h14 : ¬ t.kind = 14) (h15 : ¬ t.kind = 15) (h16 : ¬ t.kind = 16) (h17 : ¬ t.kind = 17) (h18 : ¬ t.kind = 18) (h19 : ¬ t.kind = 19) (h20 : ¬ t.kind = 20) (h21 : ¬ t.kind = 21) (h22 : ¬ t.kind = 22) :
    Calls Tryd.prog 36 #[.pointer (some ⟨pt, 0, none⟩), .agg #[.int .i64 t.kind, .int .i64 t.at_, .string t.name, .int .u64 t.num, .string t.op, kv], .bool gen] w (RP w B pt mu mv nv (exP F t gen s)) := by
  have hgo : exP F t gen s = (false, s) := by unfold exP; simp [h1, h2, h3, h4, h5, h6, h7, h8, h9, h10, h12, h13, h14, h15, h16, h17, h18, h19, h20, h21, h22, okM]
  rw [hgo]
  obtain ⟨A, cap, rfl, hcl, hcm, hA⟩ := hk.slice
  have hWV : Below w.heap.size w (w.alloc (.cells #[.int .i64 t.kind, .int .i64 t.at_, .string t.name, .int .u64 t.num, .string t.op, .slice A t.kids.length cap] 31)) := below_alloc (Below.refl _ _)
  have hRV : RW (w.alloc (.cells #[.int .i64 t.kind, .int .i64 t.at_, .string t.name, .int .u64 t.num, .string t.op, .slice A t.kids.length cap] 31)) B pt mu mv nv s := hr.fr hWV
  have HFV := Lib.hid (show Fr (SR mu mv) w (w.alloc (.cells #[.int .i64 t.kind, .int .i64 t.at_, .string t.name, .int .u64 t.num, .string t.op, .slice A t.kids.length cap] 31)) from Fr.of_below hWV)
  have RV := Lib.hid hRV
  have hpl := hr.blk.lt
  have hn2 : w.heap.size ≠ pt := by omega
  obtain ⟨cpu, cpv⟩ := hr.cells
  unfold RP
  have q1 : (t.kind == 1) = false := by simp [h1]
  have q2 : (t.kind == 2) = false := by simp [h2]
  have q3 : (t.kind == 3) = false := by simp [h3]
  have q4 : (t.kind == 4) = false := by simp [h4]
  have q5 : (t.kind == 5) = false := by simp [h5]
  have q6 : (t.kind == 6) = false := by simp [h6]
  have q7 : (t.kind == 7) = false := by simp [h7]
  have q8 : (t.kind == 8) = false := by simp [h8]
  have q9 : (t.kind == 9) = false := by simp [h9]
  have q10 : (t.kind == 10) = false := by simp [h10]
  have q12 : (t.kind == 12) = false := by simp [h12]
  have q13 : (t.kind == 13) = false := by simp [h13]
  have q14 : (t.kind == 14) = false := by simp [h14]
  have q15 : (t.kind == 15) = false := by simp [h15]
  have q16 : (t.kind == 16) = false := by simp [h16]
  have q17 : (t.kind == 17) = false := by simp [h17]
  have q18 : (t.kind == 18) = false := by simp [h18]
  have q19 : (t.kind == 19) = false := by simp [h19]
  have q20 : (t.kind == 20) = false := by simp [h20]
  have q21 : (t.kind == 21) = false := by simp [h21]
  have q22 : (t.kind == 22) = false := by simp [h22]
  clear hgo hr hd hk hWV hRV G hcl hcm hA hwf h1 h2 h3 h4 h5 h6 h7 h8 h9 h10 h12 h13 h14 h15 h16 h17 h18 h19 h20 h21 h22
  go_enter Tryd.func36, Tryd.ntmps36
  go_wp2
  go_ret
  exact ⟨rfl, RV.out, HFV.out⟩
set_option maxRecDepth 100000 in
set_option maxHeartbeats 8000000 in
theorem exbad13 {F : RF} {n : Nat} (G : GoodR F n) (w : World) (B pt mu mv : Nat) (nv : Value) (s : Pl) (t : Tr) (kv : Value) (gen : Bool) (hr : RW w B pt mu mv nv s) (hd : t.fitsD (n + 1) = true) (hwf : t.wf1) (hk : KidsAt w B kv t.kids) (hkind : t.kind = 13) (hlen : ¬ t.kids.length = 2) :
    Calls Tryd.prog 36 #[.pointer (some ⟨pt, 0, none⟩), .agg #[.int .i64 t.kind, .int .i64 t.at_, .string t.name, .int .u64 t.num, .string t.op, kv], .bool gen] w (RP w B pt mu mv nv (exP F t gen s)) := by
  have hgo : exP F t gen s = (false, s) := by unfold exP; rw [hkind]; simp [hlen, okM]
  rw [hgo]
  obtain ⟨A, cap, rfl, hcl, hcm, hA⟩ := hk.slice
  have hWV : Below w.heap.size w (w.alloc (.cells #[.int .i64 t.kind, .int .i64 t.at_, .string t.name, .int .u64 t.num, .string t.op, .slice A t.kids.length cap] 31)) := below_alloc (Below.refl _ _)
  have hRV : RW (w.alloc (.cells #[.int .i64 t.kind, .int .i64 t.at_, .string t.name, .int .u64 t.num, .string t.op, .slice A t.kids.length cap] 31)) B pt mu mv nv s := hr.fr hWV
  have HFV := Lib.hid (show Fr (SR mu mv) w (w.alloc (.cells #[.int .i64 t.kind, .int .i64 t.at_, .string t.name, .int .u64 t.num, .string t.op, .slice A t.kids.length cap] 31)) from Fr.of_below hWV)
  have RV := Lib.hid hRV
  have hpl := hr.blk.lt
  have hn2 : w.heap.size ≠ pt := by omega
  obtain ⟨cpu, cpv⟩ := hr.cells
  unfold RP
  rw [hkind] at RV HFV ⊢
  have q : ((t.kids.length : Int) == 2) = false := by simp; omega
  clear hgo hr hd hk hWV hRV G hcl hcm hA hkind hwf hlen
  go_enter Tryd.func36, Tryd.ntmps36
  go_wp2
  go_ret
  exact ⟨rfl, RV.out, HFV.out⟩
set_option maxRecDepth 100000 in
set_option maxHeartbeats 8000000 in
theorem exbad16 {F : RF} {n : Nat} (G : GoodR F n) (w : World) (B pt mu mv : Nat) (nv : Value) (s : Pl) (t : Tr) (kv : Value) (gen : Bool) (hr : RW w B pt mu mv nv s) (hd : t.fitsD (n + 1) = true) (hwf : t.wf1) (hk : KidsAt w B kv t.kids) (hkind : t.kind = 16) (hlen : ¬ t.kids.length = 1) :
    Calls Tryd.prog 36 #[.pointer (some ⟨pt, 0, none⟩), .agg #[.int .i64 t.kind, .int .i64 t.at_, .string t.name, .int .u64 t.num, .string t.op, kv], .bool gen] w (RP w B pt mu mv nv (exP F t gen s)) := by
  have hgo : exP F t gen s = (false, s) := by unfold exP; rw [hkind]; simp [hlen, okM]
  rw [hgo]
  obtain ⟨A, cap, rfl, hcl, hcm, hA⟩ := hk.slice
  have hWV : Below w.heap.size w (w.alloc (.cells #[.int .i64 t.kind, .int .i64 t.at_, .string t.name, .int .u64 t.num, .string t.op, .slice A t.kids.length cap] 31)) := below_alloc (Below.refl _ _)
  have hRV : RW (w.alloc (.cells #[.int .i64 t.kind, .int .i64 t.at_, .string t.name, .int .u64 t.num, .string t.op, .slice A t.kids.length cap] 31)) B pt mu mv nv s := hr.fr hWV
  have HFV := Lib.hid (show Fr (SR mu mv) w (w.alloc (.cells #[.int .i64 t.kind, .int .i64 t.at_, .string t.name, .int .u64 t.num, .string t.op, .slice A t.kids.length cap] 31)) from Fr.of_below hWV)
  have RV := Lib.hid hRV
  have hpl := hr.blk.lt
  have hn2 : w.heap.size ≠ pt := by omega
  obtain ⟨cpu, cpv⟩ := hr.cells
  unfold RP
  rw [hkind] at RV HFV ⊢
  have q : ((t.kids.length : Int) == 1) = false := by simp; omega
  clear hgo hr hd hk hWV hRV G hcl hcm hA hkind hwf hlen
  go_enter Tryd.func36, Tryd.ntmps36
  go_wp2
  go_ret
  exact ⟨rfl, RV.out, HFV.out⟩
set_option maxRecDepth 100000 in
set_option maxHeartbeats 8000000 in
theorem exbad18 {F : RF} {n : Nat} (G : GoodR F n) (w : World) (B pt mu mv : Nat) (nv : Value) (s : Pl) (t : Tr) (kv : Value) (gen : Bool) (hr : RW w B pt mu mv nv s) (hd : t.fitsD (n + 1) = true) (hwf : t.wf1) (hk : KidsAt w B kv t.kids) (hkind : t.kind = 18) (hlen : ¬ t.kids.length = 2) :
    Calls Tryd.prog 36 #[.pointer (some ⟨pt, 0, none⟩), .agg #[.int .i64 t.kind, .int .i64 t.at_, .string t.name, .int .u64 t.num, .string t.op, kv], .bool gen] w (RP w B pt mu mv nv (exP F t gen s)) := by
  have hgo : exP F t gen s = (false, s) := by unfold exP; rw [hkind]; simp [hlen, okM]
  rw [hgo]
  obtain ⟨A, cap, rfl, hcl, hcm, hA⟩ := hk.slice
  have hWV : Below w.heap.size w (w.alloc (.cells #[.int .i64 t.kind, .int .i64 t.at_, .string t.name, .int .u64 t.num, .string t.op, .slice A t.kids.length cap] 31)) := below_alloc (Below.refl _ _)
  have hRV : RW (w.alloc (.cells #[.int .i64 t.kind, .int .i64 t.at_, .string t.name, .int .u64 t.num, .string t.op, .slice A t.kids.length cap] 31)) B pt mu mv nv s := hr.fr hWV
  have HFV := Lib.hid (show Fr (SR mu mv) w (w.alloc (.cells #[.int .i64 t.kind, .int .i64 t.at_, .string t.name, .int .u64 t.num, .string t.op, .slice A t.kids.length cap] 31)) from Fr.of_below hWV)
  have RV := Lib.hid hRV
  have hpl := hr.blk.lt
  have hn2 : w.heap.size ≠ pt := by omega
  obtain ⟨cpu, cpv⟩ := hr.cells
  unfold RP
  rw [hkind] at RV HFV ⊢
  have q : ((t.kids.length : Int) == 2) = false := by simp; omega
  clear hgo hr hd hk hWV hRV G hcl hcm hA hkind hwf hlen
  go_enter Tryd.func36, Tryd.ntmps36
  go_wp2
  go_ret
  exact ⟨rfl, RV.out, HFV.out⟩
set_option maxRecDepth 100000 in
set_option maxHeartbeats 8000000 in
theorem exbad19 {F : RF} {n : Nat} (G : GoodR F n) (w : World) (B pt mu mv : Nat) (nv : Value) (s : Pl) (t : Tr) (kv : Value) (gen : Bool) (hr : RW w B pt mu mv nv s) (hd : t.fitsD (n + 1) = true) (hwf : t.wf1) (hk : KidsAt w B kv t.kids) (hkind : t.kind = 19) (hlen : ¬ t.kids.length = 2) :
    Calls Tryd.prog 36 #[.pointer (some ⟨pt, 0, none⟩), .agg #[.int .i64 t.kind, .int .i64 t.at_, .string t.name, .int .u64 t.num, .string t.op, kv], .bool gen] w (RP w B pt mu mv nv (exP F t gen s)) := by
  have hgo : exP F t gen s = (false, s) := by unfold exP; rw [hkind]; simp [hlen, okM]
  rw [hgo]
  obtain ⟨A, cap, rfl, hcl, hcm, hA⟩ := hk.slice
  have hWV : Below w.heap.size w (w.alloc (.cells #[.int .i64 t.kind, .int .i64 t.at_, .string t.name, .int .u64 t.num, .string t.op, .slice A t.kids.length cap] 31)) := below_alloc (Below.refl _ _)
  have hRV : RW (w.alloc (.cells #[.int .i64 t.kind, .int .i64 t.at_, .string t.name, .int .u64 t.num, .string t.op, .slice A t.kids.length cap] 31)) B pt mu mv nv s := hr.fr hWV
  have HFV := Lib.hid (show Fr (SR mu mv) w (w.alloc (.cells #[.int .i64 t.kind, .int .i64 t.at_, .string t.name, .int .u64 t.num, .string t.op, .slice A t.kids.length cap] 31)) from Fr.of_below hWV)
  have RV := Lib.hid hRV
  have hpl := hr.blk.lt
  have hn2 : w.heap.size ≠ pt := by omega
  obtain ⟨cpu, cpv⟩ := hr.cells
  unfold RP
  rw [hkind] at RV HFV ⊢
  have q : ((t.kids.length : Int) == 2) = false := by simp; omega
  clear hgo hr hd hk hWV hRV G hcl hcm hA hkind hwf hlen
  go_enter Tryd.func36, Tryd.ntmps36
  go_wp2
  go_ret
  exact ⟨rfl, RV.out, HFV.out⟩
set_option maxRecDepth 100000 in
set_option maxHeartbeats 8000000 in
theorem exbad20 {F : RF} {n : Nat} (G : GoodR F n) (w : World) (B pt mu mv : Nat) (nv : Value) (s : Pl) (t : Tr) (kv : Value) (gen : Bool) (hr : RW w B pt mu mv nv s) (hd : t.fitsD (n + 1) = true) (hwf : t.wf1) (hk : KidsAt w B kv t.kids) (hkind : t.kind = 20) (hlen : ¬ t.kids.length = 3) :
    Calls Tryd.prog 36 #[.pointer (some ⟨pt, 0, none⟩), .agg #[.int .i64 t.kind, .int .i64 t.at_, .string t.name, .int .u64 t.num, .string t.op, kv], .bool gen] w (RP w B pt mu mv nv (exP F t gen s)) := by
  have hgo : exP F t gen s = (false, s) := by unfold exP; rw [hkind]; simp [hlen, okM]
  rw [hgo]
  obtain ⟨A, cap, rfl, hcl, hcm, hA⟩ := hk.slice
  have hWV : Below w.heap.size w (w.alloc (.cells #[.int .i64 t.kind, .int .i64 t.at_, .string t.name, .int .u64 t.num, .string t.op, .slice A t.kids.length cap] 31)) := below_alloc (Below.refl _ _)
  have hRV : RW (w.alloc (.cells #[.int .i64 t.kind, .int .i64 t.at_, .string t.name, .int .u64 t.num, .string t.op, .slice A t.kids.length cap] 31)) B pt mu mv nv s := hr.fr hWV
  have HFV := Lib.hid (show Fr (SR mu mv) w (w.alloc (.cells #[.int .i64 t.kind, .int .i64 t.at_, .string t.name, .int .u64 t.num, .string t.op, .slice A t.kids.length cap] 31)) from Fr.of_below hWV)
  have RV := Lib.hid hRV
  have hpl := hr.blk.lt
  have hn2 : w.heap.size ≠ pt := by omega
  obtain ⟨cpu, cpv⟩ := hr.cells
  unfold RP
  rw [hkind] at RV HFV ⊢
  have q : ((t.kids.length : Int) == 3) = false := by simp; omega
  clear hgo hr hd hk hWV hRV G hcl hcm hA hkind hwf hlen
  go_enter Tryd.func36, Tryd.ntmps36
  go_wp2
  go_ret
  exact ⟨rfl, RV.out, HFV.out⟩
set_option maxRecDepth 100000 in
set_option maxHeartbeats 8000000 in
theorem exbad14 {F : RF} {n : Nat} (G : GoodR F n) (w : World) (B pt mu mv : Nat) (nv : Value) (s : Pl) (t : Tr) (kv : Value) (gen : Bool) (hr : RW w B pt mu mv nv s) (hd : t.fitsD (n + 1) = true) (hwf : t.wf1) (hk : KidsAt w B kv t.kids) (hkind : t.kind = 14) (hlen : ¬ 0 < t.kids.length) :
    Calls Tryd.prog 36 #[.pointer (some ⟨pt, 0, none⟩), .agg #[.int .i64 t.kind, .int .i64 t.at_, .string t.name, .int .u64 t.num, .string t.op, kv], .bool gen] w (RP w B pt mu mv nv (exP F t gen s)) := by
  have hgo : exP F t gen s = (false, s) := by unfold exP; rw [hkind]; simp [show t.kids.length = 0 by omega, okM]; first | done | (intro h; omega)
  rw [hgo]
  obtain ⟨A, cap, rfl, hcl, hcm, hA⟩ := hk.slice
  have hWV : Below w.heap.size w (w.alloc (.cells #[.int .i64 t.kind, .int .i64 t.at_, .string t.name, .int .u64 t.num, .string t.op, .slice A t.kids.length cap] 31)) := below_alloc (Below.refl _ _)
  have hRV : RW (w.alloc (.cells #[.int .i64 t.kind, .int .i64 t.at_, .string t.name, .int .u64 t.num, .string t.op, .slice A t.kids.length cap] 31)) B pt mu mv nv s := hr.fr hWV
  have HFV := Lib.hid (show Fr (SR mu mv) w (w.alloc (.cells #[.int .i64 t.kind, .int .i64 t.at_, .string t.name, .int .u64 t.num, .string t.op, .slice A t.kids.length cap] 31)) from Fr.of_below hWV)
  have RV := Lib.hid hRV
  have hpl := hr.blk.lt
  have hn2 : w.heap.size ≠ pt := by omega
  obtain ⟨cpu, cpv⟩ := hr.cells
  unfold RP
  rw [hkind] at RV HFV ⊢
  obtain hl : t.kids.length = 0 := by omega
  rw [hl] at RV HFV ⊢
  clear hgo hr hd hk hWV hRV G hcl hcm hA hkind hwf hlen hl
  go_enter Tryd.func36, Tryd.ntmps36
  go_wp2
  go_ret
  exact ⟨rfl, RV.out, HFV.out⟩
set_option maxRecDepth 100000 in
set_option maxHeartbeats 8000000 in
theorem exbad15 {F : RF} {n : Nat} (G : GoodR F n) (w : World) (B pt mu mv : Nat) (nv : Value) (s : Pl) (t : Tr) (kv : Value) (gen : Bool) (hr : RW w B pt mu mv nv s) (hd : t.fitsD (n + 1) = true) (hwf : t.wf1) (hk : KidsAt w B kv t.kids) (hkind : t.kind = 15) (hlen : ¬ 0 < t.kids.length) :
    Calls Tryd.prog 36 #[.pointer (some ⟨pt, 0, none⟩), .agg #[.int .i64 t.kind, .int .i64 t.at_, .string t.name, .int .u64 t.num, .string t.op, kv], .bool gen] w (RP w B pt mu mv nv (exP F t gen s)) := by
  have hgo : exP F t gen s = (false, s) := by unfold exP; rw [hkind]; simp [show t.kids.length = 0 by omega, okM]; first | done | (intro h; omega)
  rw [hgo]
  obtain ⟨A, cap, rfl, hcl, hcm, hA⟩ := hk.slice
  have hWV : Below w.heap.size w (w.alloc (.cells #[.int .i64 t.kind, .int .i64 t.at_, .string t.name, .int .u64 t.num, .string t.op, .slice A t.kids.length cap] 31)) := below_alloc (Below.refl _ _)
  have hRV : RW (w.alloc (.cells #[.int .i64 t.kind, .int .i64 t.at_, .string t.name, .int .u64 t.num, .string t.op, .slice A t.kids.length cap] 31)) B pt mu mv nv s := hr.fr hWV
  have HFV := Lib.hid (show Fr (SR mu mv) w (w.alloc (.cells #[.int .i64 t.kind, .int .i64 t.at_, .string t.name, .int .u64 t.num, .string t.op, .slice A t.kids.length cap] 31)) from Fr.of_below hWV)
  have RV := Lib.hid hRV
  have hpl := hr.blk.lt
  have hn2 : w.heap.size ≠ pt := by omega
  obtain ⟨cpu, cpv⟩ := hr.cells
  unfold RP
  rw [hkind] at RV HFV ⊢
  obtain hl : t.kids.length = 0 := by omega
  rw [hl] at RV HFV ⊢
  clear hgo hr hd hk hWV hRV G hcl hcm hA hkind hwf hlen hl
  go_enter Tryd.func36, Tryd.ntmps36
  go_wp2
  go_ret
  exact ⟨rfl, RV.out, HFV.out⟩
set_option maxRecDepth 100000 in
set_option maxHeartbeats 8000000 in
theorem exbad17 {F : RF} {n : Nat} (G : GoodR F n) (w : World) (B pt mu mv : Nat) (nv : Value) (s : Pl) (t : Tr) (kv : Value) (gen : Bool) (hr : RW w B pt mu mv nv s) (hd : t.fitsD (n + 1) = true) (hwf : t.wf1) (hk : KidsAt w B kv t.kids) (hkind : t.kind = 17) (hlen : ¬ t.kids.length = 1) :
    Calls Tryd.prog 36 #[.pointer (some ⟨pt, 0, none⟩), .agg #[.int .i64 t.kind, .int .i64 t.at_, .string t.name, .int .u64 t.num, .string t.op, kv], .bool gen] w (RP w B pt mu mv nv (exP F t gen s)) := by
  have hgo : exP F t gen s = (false, s) := by
    unfold exP; rw [hkind]
    rcases hks : t.kids with _ | ⟨x, _ | ⟨y, r⟩⟩
    all_goals first | (rw [hks] at hlen; exact absurd rfl hlen) | simp [okM]
  rw [hgo]
  obtain ⟨A, cap, rfl, hcl, hcm, hA⟩ := hk.slice
  have hWV : Below w.heap.size w (w.alloc (.cells #[.int .i64 t.kind, .int .i64 t.at_, .string t.name, .int .u64 t.num, .string t.op, .slice A t.kids.length cap] 31)) := below_alloc (Below.refl _ _)
  have hRV : RW (w.alloc (.cells #[.int .i64 t.kind, .int .i64 t.at_, .string t.name, .int .u64 t.num, .string t.op, .slice A t.kids.length cap] 31)) B pt mu mv nv s := hr.fr hWV
  have HFV := Lib.hid (show Fr (SR mu mv) w (w.alloc (.cells #[.int .i64 t.kind, .int .i64 t.at_, .string t.name, .int .u64 t.num, .string t.op, .slice A t.kids.length cap] 31)) from Fr.of_below hWV)
  have RV := Lib.hid hRV
  have hpl := hr.blk.lt
  have hn2 : w.heap.size ≠ pt := by omega
  obtain ⟨cpu, cpv⟩ := hr.cells
  unfold RP
  rw [hkind] at RV HFV ⊢
  have q : ((t.kids.length : Int) == 1) = false := by simp; omega
  clear hgo hr hd hk hWV hRV G hcl hcm hA hkind hwf hlen
  go_enter Tryd.func36, Tryd.ntmps36
  go_wp2
  go_ret
  exact ⟨rfl, RV.out, HFV.out⟩
set_option maxRecDepth 100000 in
set_option maxHeartbeats 8000000 in
theorem exbad21 {F : RF} {n : Nat} (G : GoodR F n) (w : World) (B pt mu mv : Nat) (nv : Value) (s : Pl) (t : Tr) (kv : Value) (gen : Bool) (hr : RW w B pt mu mv nv s) (hd : t.fitsD (n + 1) = true) (hwf : t.wf1) (hk : KidsAt w B kv t.kids) (hkind : t.kind = 21) (hlen : ¬ t.kids.length = 2) :
    Calls Tryd.prog 36 #[.pointer (some ⟨pt, 0, none⟩), .agg #[.int .i64 t.kind, .int .i64 t.at_, .string t.name, .int .u64 t.num, .string t.op, kv], .bool gen] w (RP w B pt mu mv nv (exP F t gen s)) := by
  have hgo : exP F t gen s = (false, s) := by
    unfold exP; rw [hkind]
    rcases hks : t.kids with _ | ⟨x, _ | ⟨y, _ | ⟨z, r⟩⟩⟩
    all_goals first | (rw [hks] at hlen; exact absurd rfl hlen) | simp [okM]
  rw [hgo]
  obtain ⟨A, cap, rfl, hcl, hcm, hA⟩ := hk.slice
  have hWV : Below w.heap.size w (w.alloc (.cells #[.int .i64 t.kind, .int .i64 t.at_, .string t.name, .int .u64 t.num, .string t.op, .slice A t.kids.length cap] 31)) := below_alloc (Below.refl _ _)
  have hRV : RW (w.alloc (.cells #[.int .i64 t.kind, .int .i64 t.at_, .string t.name, .int .u64 t.num, .string t.op, .slice A t.kids.length cap] 31)) B pt mu mv nv s := hr.fr hWV
  have HFV := Lib.hid (show Fr (SR mu mv) w (w.alloc (.cells #[.int .i64 t.kind, .int .i64 t.at_, .string t.name, .int .u64 t.num, .string t.op, .slice A t.kids.length cap] 31)) from Fr.of_below hWV)
  have RV := Lib.hid hRV
  have hpl := hr.blk.lt
  have hn2 : w.heap.size ≠ pt := by omega
  obtain ⟨cpu, cpv⟩ := hr.cells
  unfold RP
  rw [hkind] at RV HFV ⊢
  have q : ((t.kids.length : Int) == 2) = false := by simp; omega
  clear hgo hr hd hk hWV hRV G hcl hcm hA hkind hwf hlen
  go_enter Tryd.func36, Tryd.ntmps36
  go_wp2
  go_ret
  exact ⟨rfl, RV.out, HFV.out⟩
set_option maxRecDepth 100000 in
set_option maxHeartbeats 8000000 in
theorem exbad22 {F : RF} {n : Nat} (G : GoodR F n) (w : World) (B pt mu mv : Nat) (nv : Value) (s : Pl) (t : Tr) (kv : Value) (gen : Bool) (hr : RW w B pt mu mv nv s) (hd : t.fitsD (n + 1) = true) (hwf : t.wf1) (hk : KidsAt w B kv t.kids) (hkind : t.kind = 22) (hlen : ¬ t.kids.length = 1) :
    Calls Tryd.prog 36 #[.pointer (some ⟨pt, 0, none⟩), .agg #[.int .i64 t.kind, .int .i64 t.at_, .string t.name, .int .u64 t.num, .string t.op, kv], .bool gen] w (RP w B pt mu mv nv (exP F t gen s)) := by
  have hgo : exP F t gen s = (false, s) := by
    unfold exP; rw [hkind]
    rcases hks : t.kids with _ | ⟨x, _ | ⟨y, r⟩⟩
    all_goals first | (rw [hks] at hlen; exact absurd rfl hlen) | simp [okM]
  rw [hgo]
  obtain ⟨A, cap, rfl, hcl, hcm, hA⟩ := hk.slice
  have hWV : Below w.heap.size w (w.alloc (.cells #[.int .i64 t.kind, .int .i64 t.at_, .string t.name, .int .u64 t.num, .string t.op, .slice A t.kids.length cap] 31)) := below_alloc (Below.refl _ _)
  have hRV : RW (w.alloc (.cells #[.int .i64 t.kind, .int .i64 t.at_, .string t.name, .int .u64 t.num, .string t.op, .slice A t.kids.length cap] 31)) B pt mu mv nv s := hr.fr hWV
  have HFV := Lib.hid (show Fr (SR mu mv) w (w.alloc (.cells #[.int .i64 t.kind, .int .i64 t.at_, .string t.name, .int .u64 t.num, .string t.op, .slice A t.kids.length cap] 31)) from Fr.of_below hWV)
  have RV := Lib.hid hRV
  have hpl := hr.blk.lt
  have hn2 : w.heap.size ≠ pt := by omega
  obtain ⟨cpu, cpv⟩ := hr.cells
  unfold RP
  rw [hkind] at RV HFV ⊢
  have q : ((t.kids.length : Int) == 1) = false := by simp; omega
  clear hgo hr hd hk hWV hRV G hcl hcm hA hkind hwf hlen
  cases gen
  all_goals
    go_enter Tryd.func36, Tryd.ntmps36
    go_wp2
    go_ret
    exact ⟨rfl, RV.out, HFV.out⟩
set_option maxRecDepth 100000 in
set_option maxHeartbeats 8000000 in
theorem ex22n {F : RF} {n : Nat} (G : GoodR F n) (w : World) (B pt mu mv : Nat) (nv : Value) (s : Pl) (t : Tr) (kv : Value) (gen : Bool) (hr : RW w B pt mu mv nv s) (hd : t.fitsD (n + 1) = true) (hwf : t.wf1) (hk : KidsAt w B kv t.kids) (hkind : t.kind = 22) (hgen : gen = false) :
    Calls Tryd.prog 36 #[.pointer (some ⟨pt, 0, none⟩), .agg #[.int .i64 t.kind, .int .i64 t.at_, .string t.name, .int .u64 t.num, .string t.op, kv], .bool gen] w (RP w B pt mu mv nv (exP F t gen s)) := by
  have hgo : exP F t gen s = (false, s) := by
    unfold exP; rw [hkind, hgen]
    rcases hks : t.kids with _ | ⟨x, _ | ⟨y, r⟩⟩
    all_goals simp [okM]
  rw [hgo, hgen]
  obtain ⟨A, cap, rfl, hcl, hcm, hA⟩ := hk.slice
  have hWV : Below w.heap.size w (w.alloc (.cells #[.int .i64 t.kind, .int .i64 t.at_, .string t.name, .int .u64 t.num, .string t.op, .slice A t.kids.length cap] 31)) := below_alloc (Below.refl _ _)
  have hRV : RW (w.alloc (.cells #[.int .i64 t.kind, .int .i64 t.at_, .string t.name, .int .u64 t.num, .string t.op, .slice A t.kids.length cap] 31)) B pt mu mv nv s := hr.fr hWV
  have HFV := Lib.hid (show Fr (SR mu mv) w (w.alloc (.cells #[.int .i64 t.kind, .int .i64 t.at_, .string t.name, .int .u64 t.num, .string t.op, .slice A t.kids.length cap] 31)) from Fr.of_below hWV)
  have RV := Lib.hid hRV
  have hpl := hr.blk.lt
  have hn2 : w.heap.size ≠ pt := by omega
  obtain ⟨cpu, cpv⟩ := hr.cells
  unfold RP
  rw [hkind] at RV HFV ⊢
  clear hgo hr hd hk hWV hRV G hcl hcm hA hkind hwf
  go_enter Tryd.func36, Tryd.ntmps36
  go_wp2
  go_ret
  exact ⟨rfl, RV.out, HFV.out⟩
theorem all_calls' {F : RF} {n : Nat} (G : GoodR F n) (w : World) (B pt mu mv : Nat) (nv : Value) (s : Pl) (l : List Tr) (A : Option Addr) (cap : Nat) (gen : Bool) (m : Nat) (hm : l.length = m) (hr : RW w B pt mu mv nv s) (hd : ∀ t ∈ l, t.fitsD n = true) (hk : KidsAt w B (.slice A m cap) l) :
    Calls Tryd.prog 55 #[.pointer (some ⟨pt, 0, none⟩), .slice A m cap, .bool gen] w (RP w B pt mu mv nv (exsM F l gen s)) := by
  subst hm; exact all_calls G w B pt mu mv nv s l A cap gen hr hd hk
set_option maxRecDepth 100000 in
set_option maxHeartbeats 8000000 in
theorem ex9 {F : RF} {n : Nat} (G : GoodR F n) (w : World) (B pt mu mv : Nat) (nv : Value) (s : Pl) (t : Tr) (kv : Value) (gen : Bool) (hr : RW w B pt mu mv nv s) (hd : t.fitsD (n + 1) = true) (hwf : t.wf1) (hk : KidsAt w B kv t.kids) (hkind : t.kind = 9) :
    Calls Tryd.prog 36 #[.pointer (some ⟨pt, 0, none⟩), .agg #[.int .i64 t.kind, .int .i64 t.at_, .string t.name, .int .u64 t.num, .string t.op, kv], .bool gen] w (RP w B pt mu mv nv (exP F t gen s)) := by
  have hgo : exP F t gen s = exsM F t.kids gen s := by unfold exP; rw [hkind]; simp
  rw [hgo]
  obtain ⟨A, cap, rfl, hcl, hcm, hA⟩ := hk.slice
  have hWV : Below w.heap.size w (w.alloc (.cells #[.int .i64 t.kind, .int .i64 t.at_, .string t.name, .int .u64 t.num, .string t.op, .slice A t.kids.length cap] 31)) := below_alloc (Below.refl _ _)
  have hRV : RW (w.alloc (.cells #[.int .i64 t.kind, .int .i64 t.at_, .string t.name, .int .u64 t.num, .string t.op, .slice A t.kids.length cap] 31)) B pt mu mv nv s := hr.fr hWV
  have HFV := Lib.hid (show Fr (SR mu mv) w (w.alloc (.cells #[.int .i64 t.kind, .int .i64 t.at_, .string t.name, .int .u64 t.num, .string t.op, .slice A t.kids.length cap] 31)) from Fr.of_below hWV)
  have RV := Lib.hid hRV
  have hpl := hr.blk.lt
  have hn2 : w.heap.size ≠ pt := by omega
  obtain ⟨cpu, cpv⟩ := hr.cells
  have BC := all_calls G _ B pt mu mv nv s t.kids A cap gen hRV (fun k hk => Tr.fitsD_kid hd hk) (hk.under (hWV.mono hr.size))
  unfold RP at BC ⊢
  have BC := Lib.hid BC
  rw [hkind] at BC HFV ⊢
  generalize exsM F t.kids gen s = r at *
  clear hgo hr hd hk hWV hRV G hcl hcm hA hkind hwf RV
  go_enter Tryd.func36, Tryd.ntmps36
  go_wp2_with (first | (go_at_call 55; (with_reducible refine BC.out.mono ?_); rintro e v1 ⟨rfl, g1, g2⟩; have R1 := Lib.hid (And.intro g1 g2); clear g1 g2))
  go_ret
  exact ⟨rfl, R1.out.1, HFV.out.tr R1.out.2⟩
set_option maxRecDepth 100000 in
set_option maxHeartbeats 8000000 in
theorem ex14 {F : RF} {n : Nat} (G : GoodR F n) (w : World) (B pt mu mv : Nat) (nv : Value) (s : Pl) (t : Tr) (kv : Value) (gen : Bool) (hr : RW w B pt mu mv nv s) (hd : t.fitsD (n + 1) = true) (hwf : t.wf1) (hk : KidsAt w B kv t.kids) (hkind : t.kind = 14) (hlen : 0 < t.kids.length) :
    Calls Tryd.prog 36 #[.pointer (some ⟨pt, 0, none⟩), .agg #[.int .i64 t.kind, .int .i64 t.at_, .string t.name, .int .u64 t.num, .string t.op, kv], .bool gen] w (RP w B pt mu mv nv (exP F t gen s)) := by
  have hgo : exP F t gen s = exsM F t.kids gen s := by unfold exP; rw [hkind]; simp [hlen]
  rw [hgo]
  obtain ⟨A, cap, rfl, hcl, hcm, hA⟩ := hk.slice
  have hWV : Below w.heap.size w (w.alloc (.cells #[.int .i64 t.kind, .int .i64 t.at_, .string t.name, .int .u64 t.num, .string t.op, .slice A t.kids.length cap] 31)) := below_alloc (Below.refl _ _)
  have hRV : RW (w.alloc (.cells #[.int .i64 t.kind, .int .i64 t.at_, .string t.name, .int .u64 t.num, .string t.op, .slice A t.kids.length cap] 31)) B pt mu mv nv s := hr.fr hWV
  have HFV := Lib.hid (show Fr (SR mu mv) w (w.alloc (.cells #[.int .i64 t.kind, .int .i64 t.at_, .string t.name, .int .u64 t.num, .string t.op, .slice A t.kids.length cap] 31)) from Fr.of_below hWV)
  have RV := Lib.hid hRV
  have hpl := hr.blk.lt
  have hn2 : w.heap.size ≠ pt := by omega
  obtain ⟨cpu, cpv⟩ := hr.cells
  have BC := all_calls G _ B pt mu mv nv s t.kids A cap gen hRV (fun k hk => Tr.fitsD_kid hd hk) (hk.under (hWV.mono hr.size))
  unfold RP at BC ⊢
  have BC := Lib.hid BC
  rw [hkind] at BC HFV ⊢
  generalize exsM F t.kids gen s = r at *
  obtain ⟨N, hN⟩ : ∃ N, t.kids.length = N := ⟨_, rfl⟩
  rw [hN] at BC HFV hlen ⊢
  have q : (0 : Int) < (N : Int) := by omega
  clear hgo hr hd hk hWV hRV G hcl hcm hA hkind hwf RV hN
  go_enter Tryd.func36, Tryd.ntmps36
  go_wp2_with (first | (go_at_call 55; (with_reducible refine BC.out.mono ?_); rintro e v1 ⟨rfl, g1, g2⟩; have R1 := Lib.hid (And.intro g1 g2); clear g1 g2))
  go_ret
  exact ⟨rfl, R1.out.1, HFV.out.tr R1.out.2⟩
set_option maxRecDepth 100000 in
set_option maxHeartbeats 8000000 in
theorem ex15 {F : RF} {n : Nat} (G : GoodR F n) (w : World) (B pt mu mv : Nat) (nv : Value) (s : Pl) (t : Tr) (kv : Value) (gen : Bool) (hr : RW w B pt mu mv nv s) (hd : t.fitsD (n + 1) = true) (hwf : t.wf1) (hk : KidsAt w B kv t.kids) (hkind : t.kind = 15) (hlen : 0 < t.kids.length) :
    Calls Tryd.prog 36 #[.pointer (some ⟨pt, 0, none⟩), .agg #[.int .i64 t.kind, .int .i64 t.at_, .string t.name, .int .u64 t.num, .string t.op, kv], .bool gen] w (RP w B pt mu mv nv (exP F t gen s)) := by
  have hgo : exP F t gen s = exsM F t.kids gen s := by unfold exP; rw [hkind]; simp [hlen]
  rw [hgo]
  obtain ⟨A, cap, rfl, hcl, hcm, hA⟩ := hk.slice
  have hWV : Below w.heap.size w (w.alloc (.cells #[.int .i64 t.kind, .int .i64 t.at_, .string t.name, .int .u64 t.num, .string t.op, .slice A t.kids.length cap] 31)) := below_alloc (Below.refl _ _)
  have hRV : RW (w.alloc (.cells #[.int .i64 t.kind, .int .i64 t.at_, .string t.name, .int .u64 t.num, .string t.op, .slice A t.kids.length cap] 31)) B pt mu mv nv s := hr.fr hWV
  have HFV := Lib.hid (show Fr (SR mu mv) w (w.alloc (.cells #[.int .i64 t.kind, .int .i64 t.at_, .string t.name, .int .u64 t.num, .string t.op, .slice A t.kids.length cap] 31)) from Fr.of_below hWV)
  have RV := Lib.hid hRV
  have hpl := hr.blk.lt
  have hn2 : w.heap.size ≠ pt := by omega
  obtain ⟨cpu, cpv⟩ := hr.cells
  have BC := all_calls G _ B pt mu mv nv s t.kids A cap gen hRV (fun k hk => Tr.fitsD_kid hd hk) (hk.under (hWV.mono hr.size))
  unfold RP at BC ⊢
  have BC := Lib.hid BC
  rw [hkind] at BC HFV ⊢
  generalize exsM F t.kids gen s = r at *
  obtain ⟨N, hN⟩ : ∃ N, t.kids.length = N := ⟨_, rfl⟩
  rw [hN] at BC HFV hlen ⊢
  have q : (0 : Int) < (N : Int) := by omega
  clear hgo hr hd hk hWV hRV G hcl hcm hA hkind hwf RV hN
  go_enter Tryd.func36, Tryd.ntmps36
  go_wp2_with (first | (go_at_call 55; (with_reducible refine BC.out.mono ?_); rintro e v1 ⟨rfl, g1, g2⟩; have R1 := Lib.hid (And.intro g1 g2); clear g1 g2))
  go_ret
  exact ⟨rfl, R1.out.1, HFV.out.tr R1.out.2⟩
end Go.Proofs.YtlenhcmgcgccmaaDoor
