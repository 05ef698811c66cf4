/- Code: may a function be? the program's own. -/
import Derived.Test.YteagkdmefmpokaaDoorEd
import Derived.Deep.RegionHeld3
namespace Go.Proofs.YteagkdmefmpokaaDoor
open Go.RowKit Go
set_option linter.unusedVariables false
set_option linter.unusedSimpArgs false
/-- a letter. -/
def ltr (l : List UInt8) (j : Nat) : Int := ((l.getD j 0).toNat : Int)
/-- may an instruction be? -/
def okI (n : Nat) (F : Fn) (e : En) : Bool :=
  !(shp e.s).isEmpty && (opd n F e.o (ltr (shp e.s) 0) e.h && (opd n F e.o (ltr (shp e.s) 1) e.o && (opd n F e.o (ltr (shp e.s) 2) e.c && !((e.s == 60) && !F.hd.ge))))
/-- are the sizes right? -/
def okHead (h : Hd) : Bool := decide (0 < h.nc) && (decide (h.nc ≤ 65536) && (decide (h.nk ≤ 65536) && (decide (0 ≤ h.re) && (decide (h.re ≤ 400) && within h.pa (h.re + 1)))))
/-- does the last instruction end the code? -/
def lastE (F : Fn) : Bool := ((F.C[F.hd.nc - 1]?).map fun e => ends e.s).getD false
def tail (F : Fn) : Bool := lastE F && F.T.all (okH F.hd.nc)
def fnOk (n : Nat) (F : Fn) : Bool := okHead F.hd && (F.C.all (okI n F) && tail F)
theorem shp_letters : ∀ l ∈ tbl, Letter (ltr l 0) ∧ Letter (ltr l 1) ∧ Letter (ltr l 2) ∧ ltr l 0 ≠ 110 ∧ ltr l 1 ≠ 110 ∧ (ltr l 2 = 110 → ltr l 1 = 114) := by
  unfold Letter; decide
/-- an operation's letters are none, or three. -/
theorem shp_ways (op : Int) : shp op = [] ∨ ∃ a b c : UInt8, shp op = [a, b, c] ∧ Letter (a.toNat : Int) ∧ Letter (b.toNat : Int) ∧ Letter (c.toNat : Int) ∧ (a.toNat : Int) ≠ 110 ∧ (b.toNat : Int) ≠ 110 ∧ ((c.toNat : Int) = 110 → (b.toNat : Int) = 114) := by
  by_cases h : 0 ≤ op ∧ op < 63
  · right
    obtain ⟨k, rfl⟩ : ∃ k : Nat, op = k := ⟨op.toNat, by omega⟩
    obtain ⟨l, hl, hs, h3⟩ := shp_in (k := k) (by omega)
    have hm : l ∈ tbl := List.mem_of_getElem? hl
    have h6 := shp_letters l hm
    rw [hs]
    match l, h3 with
    | [a, b, c], _ => exact ⟨a, b, c, rfl, by simpa [ltr] using h6⟩
  · exact .inl (shp_out (by omega))
theorem shp_str (a b c : UInt8) : ∃ s : ByteArray, str [a, b, c] = s ∧ s.toList.isEmpty = false ∧ ∃ (h0 : 0 < s.size) (h1 : 1 < s.size) (h2 : 2 < s.size), s[0] = a ∧ s[1] = b ∧ s[2] = c :=
  ⟨_, rfl, by rw [ByteArray.toList_eq]; rfl, by show 0 < 3; omega, by show 1 < 3; omega, by show 2 < 3; omega, rfl, rfl, rfl⟩
theorem last14 {a b c d e f g h i j k l m n : Prop} (x : a ∧ b ∧ c ∧ d ∧ e ∧ f ∧ g ∧ h ∧ i ∧ j ∧ k ∧ l ∧ m ∧ n) : n := x.2.2.2.2.2.2.2.2.2.2.2.2.2
/-- two boxes: a program's, a function's. -/
abbrev box2 (w : World) (A : Option Addr) (n c : Nat) (h : Hd) : World := (w.alloc (.cells #[.slice A n c] 24)).alloc (.cells h.b 36)
theorem box2_cells {w wr : World} {A : Option Addr} {n c : Nat} {h : Hd} (b : Below (box2 w A n c h).heap.size (box2 w A n c h) wr) :
    Blk wr w.heap.size 24 #[.slice A n c] ∧ Blk wr (w.heap.size + 1) 36 h.b := by
  have B1 := (Blk.new w 24 #[.slice A n c]).alloc (.cells h.b 36)
  have B2 := Blk.new (w.alloc (.cells #[.slice A n c] 24)) 36 h.b
  rw [size_alloc] at B2
  exact ⟨B1.below b B1.lt, B2.below b B2.lt⟩
theorem below_box2 (w : World) (A : Option Addr) (n c : Nat) (h : Hd) : Below w.heap.size w (box2 w A n c h) := below_alloc (below_new _ _) _
/-- what a round of 'function' reads. -/
def RdS (g : Nat) (gi : Nat) (A : Option Addr) (n c : Nat) (h : Hd) (e : En) (W1 w : World) : Prop :=
  w.cell? ⟨g, 0, none⟩ = some (.slice A n c) ∧ w.cell? ⟨g + 1, 0, none⟩ = some (.string h.nm) ∧ w.cell? ⟨g + 1, 1, none⟩ = some (.int .i64 h.pa) ∧ w.cell? ⟨g + 1, 2, none⟩ = some (.int .i64 h.re) ∧ w.cell? ⟨g + 1, 3, none⟩ = some (.bool h.ge) ∧ w.cell? ⟨g + 1, 4, none⟩ = some (.slice h.Ac h.nc h.cc) ∧ w.cell? ⟨g + 1, 5, none⟩ = some (.slice h.Ak h.nk h.ck) ∧ w.cell? ⟨g + 1, 6, none⟩ = some (.slice h.Ap h.np h.cp) ∧ w.cell? ⟨g + 1, 7, none⟩ = some (.slice h.Ah h.nh h.ch) ∧
    w.cell? ⟨gi, 0, none⟩ = some (.int .i64 e.s) ∧ w.cell? ⟨gi, 1, none⟩ = some (.int .i64 e.h) ∧ w.cell? ⟨gi, 2, none⟩ = some (.int .i64 e.o) ∧ w.cell? ⟨gi, 3, none⟩ = some (.int .i64 e.c) ∧ Below W1.heap.size W1 w
theorem rdS_of {w wr w' : World} {A : Option Addr} {n c : Nat} {h : Hd} {e : En} (b : Below (box2 w A n c h).heap.size (box2 w A n c h) wr) (b' : Below (e.al wr 38).heap.size (e.al wr 38) w') : RdS w.heap.size wr.heap.size A n c h e (e.al wr 38) w' := by
  have bb := below_via (below_via b (below_new _ _)) b'
  obtain ⟨k1, k2⟩ := box2_cells bb
  obtain ⟨y0, y1, y2, y3, _⟩ := e.cells b'
  exact ⟨(k1.cell 0).trans rfl, (k2.cell 0).trans rfl, (k2.cell 1).trans rfl, (k2.cell 2).trans rfl, (k2.cell 3).trans rfl, (k2.cell 4).trans rfl, (k2.cell 5).trans rfl, (k2.cell 6).trans rfl, (k2.cell 7).trans rfl, y0, y1, y2, y3, b'⟩
theorem okI_eq (n : Nat) (F : Fn) (e : En) : okI n F e = (!(shp e.s).isEmpty && (opd n F e.o (ltr (shp e.s) 0) e.h && (opd n F e.o (ltr (shp e.s) 1) e.o && (opd n F e.o (ltr (shp e.s) 2) e.c && !((e.s == 60) && !F.hd.ge))))) := rfl
theorem within_wrap {pa re : Int} (h0 : 0 ≤ re) (h1 : re ≤ 400) : wrap64 (re + 1) = re + 1 := by unfold wrap64; omega
set_option maxRecDepth 100000 in
set_option maxHeartbeats 8000000 in
theorem function_head (w : World) (A : Option Addr) (n c : Nat) (F : Fn) (ho : okHead F.hd = false) :
    Calls Tryd.prog 20 #[pv A n c, F.hd.v] w fun r w' => r = .returned (.bool false) ∧ Below w.heap.size w w' := by
  have HB := Lib.hid (below_box2 w A n c F.hd)
  have KW := Lib.hid (fun (W : World) (a m : Int) (b : Bool) (e : within a m = b) => by have := within_calls W a m; rw [e] at this; exact this)
  unfold okHead at ho
  unfold box2 Hd.b at HB
  unfold Hd.v pv
  by_cases h1 : 0 < F.hd.nc
  · by_cases h2 : F.hd.nc ≤ 65536
    · by_cases h3 : F.hd.nk ≤ 65536
      · by_cases h4 : 0 ≤ F.hd.re
        · by_cases h5 : F.hd.re ≤ 400
          · simp only [h1, h2, h3, h4, h5, decide_true, Bool.true_and] at ho
            have KX := Lib.hid (fun W => KW.out W _ _ _ ho)
            clear KW ho
            go_enter Tryd.func20, Tryd.ntmps20
            go_wp2_with (go_at_call 24; (with_reducible refine (KX.out _).mono ?_); rintro r w' ⟨rfl, rfl⟩)
            go_ret
            exact ⟨rfl, HB.out⟩
          · clear ho KW
            go_enter Tryd.func20, Tryd.ntmps20
            go_wp2_with fail
            go_ret
            exact ⟨rfl, HB.out⟩
        · clear ho KW
          go_enter Tryd.func20, Tryd.ntmps20
          go_wp2_with fail
          go_ret
          exact ⟨rfl, HB.out⟩
      · clear ho KW
        go_enter Tryd.func20, Tryd.ntmps20
        go_wp2_with fail
        go_ret
        exact ⟨rfl, HB.out⟩
    · clear ho KW
      go_enter Tryd.func20, Tryd.ntmps20
      go_wp2_with fail
      go_ret
      exact ⟨rfl, HB.out⟩
  · have hz : ((F.hd.nc : Int) == 0) = true := by simp; omega
    clear ho KW h1
    go_enter Tryd.func20, Tryd.ntmps20
    go_wp2_with fail
    go_ret
    exact ⟨rfl, HB.out⟩
end Go.Proofs.YteagkdmefmpokaaDoor
