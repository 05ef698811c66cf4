/- Scope: what the walk through a program computes, in plain words. -/
import Derived.Test.YtlenhcmgcgccmaaDoorRh
namespace Go.Proofs.YtlenhcmgcgccmaaDoor
open Go.RowKit Go
set_option linter.unusedVariables false
set_option linter.unusedSimpArgs false
structure Sc where
  at_ : Int
  par : Int
  params : Int
  vars : Int
structure Vr where
  name : ByteArray
  at_ : Int
  kind : Int
  fn : Int
  slot : Int
  cap : Bool
structure Us where
  at_ : Int
  var : Int
structure Out where
  scopes : List Sc
  vars : List Vr
  uses : List Us
abbrev Bk := List (ByteArray × Int)
structure Env where
  fn : Nat
  labels : List (ByteArray × Bool)
  loops : Nat
  blocks : List Bk
abbrev Er := Int × Int
abbrev WM := Out → Except Er Out
def seqM (f g : WM) : WM := fun o => match f o with
  | .ok o' => g o'
  | .error e => .error e
def skipM : WM := fun o => .ok o
def failM (a c : Int) : WM := fun _ => .error (a, c)
def eachM (f : Tr → WM) : List Tr → WM
  | [] => skipM
  | t :: l => seqM (f t) (eachM f l)
def look (b : Bk) (nm : ByteArray) : Option Int := (b.find? fun e => decide (e.1 = nm)).map (·.2)
/-- innermost first. -/
def findB : List Bk → ByteArray → Option Int
  | [], _ => none
  | b :: l, nm => match look b nm with
    | some v => some v
    | none => findB l nm
def findP (bs : List Bk) (nm : ByteArray) (a : Int) : Except Er Int := match findB bs.reverse nm with
  | some v => .ok v
  | none => if (bi nm).2 = true then .ok (-1) else .error (a, 73)
def Out.vr (o : Out) (v : Int) : Vr := o.vars.getD v.toNat ⟨⟨#[]⟩, 0, 0, 0, 0, false⟩
def Out.scp (o : Out) (fn : Nat) : Sc := o.scopes.getD fn ⟨0, 0, 0, 0⟩
def constP (o : Out) (v : Int) : Bool := decide (v < 0) || (decide ((o.vr v).kind = 2) || decide ((o.vr v).kind = 5))
def capP (E : Env) (o : Out) (v : Int) : Bool := decide (0 ≤ v) && decide ((o.vr v).fn ≠ (E.fn : Int))
def useP (E : Env) (nm : ByteArray) (a : Int) (written : Bool) : WM := fun o => match findP E.blocks nm a with
  | .error e => .error e
  | .ok v => if (written && constP o v) = true then .error (a, 74) else
    .ok { o with vars := if capP E o v = true then o.vars.modify v.toNat (fun x => { x with cap := true }) else o.vars, uses := o.uses ++ [⟨a, v⟩] }
def incV (fn : Nat) (o : Out) : Out := { o with scopes := o.scopes.modify fn fun s => { s with vars := s.vars + 1 } }
def declareP (fn : Nat) (nm : ByteArray) (a kind : Int) (b : Bk) (o : Out) : Except Er (Bk × Out) :=
  if (look b nm).isSome = true then .error (a, 71)
  else if 200 ≤ (o.scp fn).vars then .error (a, 72)
  else .ok (b ++ [(nm, (o.vars.length : Int))], incV fn { o with vars := o.vars ++ [⟨nm, a, kind, fn, (o.scp fn).vars, false⟩] })
abbrev DM := Bk → Out → Except Er (Bk × Out)
def seqD (f g : DM) : DM := fun b o => match f b o with
  | .ok (b', o') => g b' o'
  | .error e => .error e
def noD : DM := fun b o => .ok (b, o)
def kindD (k : Int) : Int := if k = 31 then 1 else if k = 32 then 2 else 4
def declsP (fn : Nat) : List Tr → DM
  | [] => noD
  | t :: l => seqD (if t.kind = 31 ∨ t.kind = 32 ∨ t.kind = 33 then declareP fn t.name t.at_ (kindD t.kind) else noD) (declsP fn l)
def paramsP (fn : Nat) : List Tr → DM
  | [] => noD
  | t :: l => seqD (declareP fn t.name t.at_ 3) (paramsP fn l)
structure WF where
  st : Env → Tr → WM
  ex : Env → Tr → WM
def Env.push (E : Env) (b : Bk) : Env := { E with blocks := E.blocks ++ [b] }
def Env.inc (E : Env) : Env := { E with loops := E.loops + 1 }
section
variable (F : WF)
/-- a block: what is declared ahead, its own names, its statements. -/
def bodyW (E : Env) (ah : DM) (l : List Tr) : WM := fun o => match seqD ah (declsP E.fn l) [] o with
  | .ok (b, o') => eachM (F.st (E.push b)) l o'
  | .error e => .error e
def ownP (t : Tr) : Bool := decide (t.kind = 12) && decide (t.name ≠ ⟨#[]⟩)
def aheadP (own : Bool) (fn : Nat) (l : List Tr) : DM := seqD (paramsP fn l) fun b o => .ok (b, if own = true then incV fn o else o)
/-- what stands when a function's body begins. -/
def enterO (E : Env) (t : Tr) (o : Out) : Out :=
  { o with scopes := o.scopes ++ [⟨t.at_, E.fn, t.kids.dropLast.length, 0⟩], vars := if ownP t = true then o.vars ++ [⟨t.name, t.at_, 5, o.scopes.length, t.kids.dropLast.length, false⟩] else o.vars }
def enterE (E : Env) (t : Tr) (o : Out) : Env := ⟨o.scopes.length, [], 0, if ownP t = true then E.blocks ++ [[(t.name, (o.vars.length : Int))]] else E.blocks⟩
def functionW (E : Env) (t : Tr) : WM := fun o =>
  if 200 ≤ o.scopes.length then .error (t.at_, 72)
  else match t.kids.getLast? with
    | none => .ok o
    | some body => bodyW F (enterE E t o) (aheadP (ownP t) o.scopes.length t.kids.dropLast) body.kids (enterO E t o)
def jumpW (E : Env) (t : Tr) : WM :=
  if t.name = ⟨#[]⟩ then (if E.loops = 0 then failM t.at_ 75 else skipM)
  else match E.labels.find? (fun l => decide (l.1 = t.name)) with
    | none => failM t.at_ 75
    | some l => if t.kind = 40 ∧ l.2 = false then failM t.at_ 75 else skipM
def innerP : Nat → Tr → Tr
  | 0, t => t
  | n + 1, t => if t.kind = 41 then (match t.kids with
    | k :: _ => innerP n k
    | [] => t) else t
def loopP (t : Tr) : Bool := decide (t.kind = 36) || (decide (t.kind = 37) || decide (t.kind = 38))
def labelledW (E : Env) (t : Tr) (k : Tr) : WM :=
  if E.labels.any (fun l => decide (l.1 = t.name)) = true then failM t.at_ 75
  else F.st { E with labels := E.labels ++ [(t.name, loopP (innerP 300 k))] } k
def wConst : ByteArray := ⟨#[99, 111, 110, 115, 116]⟩
def catchP (E : Env) (t : Tr) : DM := declareP E.fn t.name t.at_ 6
def stW (E : Env) (t : Tr) : WM :=
  if t.kind = 33 then functionW F E t
  else if t.kind = 34 then (if E.fn = 0 then failM t.at_ 76 else (match t.kids with
    | [a] => F.ex E a
    | _ => skipM))
  else if t.kind = 35 then (match t.kids with
    | [a, b, c] => seqM (F.ex E a) (seqM (F.st E b) (F.st E c))
    | _ => skipM)
  else if t.kind = 36 then (match t.kids with
    | [a, b] => seqM (F.ex E a) (F.st E.inc b)
    | _ => skipM)
  else if t.kind = 37 then (match t.kids with
    | [a, b, c, d] => seqM (F.ex E a) (seqM (F.ex E b) (seqM (F.ex E c) (F.st E.inc d)))
    | _ => skipM)
  else if t.kind = 38 then (match t.kids with
    | [a, k] => seqM (F.ex E a) fun o => match declareP E.fn t.name t.at_ (if t.op = wConst then 2 else 1) [] o with
      | .ok (b, o') => F.st (E.push b).inc k o'
      | .error e => .error e
    | _ => skipM)
  else if t.kind = 39 ∨ t.kind = 40 then jumpW E t
  else if t.kind = 41 then (match t.kids with
    | [k] => labelledW F E t k
    | _ => skipM)
  else if t.kind = 43 then (match t.kids with
    | [a, b, c] => seqM (F.st E a) (seqM (if b.kind = 0 then skipM else bodyW F E (catchP E t) b.kids) (F.st E c))
    | _ => skipM)
  else if t.kind = 44 then bodyW F E noD t.kids
  else eachM (F.ex E) t.kids
def exW (E : Env) (t : Tr) : WM :=
  if t.kind = 3 then useP E t.name t.at_ false
  else if t.kind = 12 then functionW F E t
  else if t.kind = 17 ∨ t.kind = 21 then (match t.kids with
    | a :: l => seqM (if a.kind = 3 then useP E a.name a.at_ true else F.ex E a) (eachM (F.ex E) l)
    | [] => skipM)
  else eachM (F.ex E) t.kids
def stepW : WF := ⟨stW F, exW F⟩
end
def iterW : Nat → WF
  | 0 => ⟨fun _ _ => skipM, fun _ _ => skipM⟩
  | n + 1 => stepW (iterW n)
/-! which trees may be gone through: statements, expressions (and what is missing) -/
mutual
inductive OkS : Tr → Prop
  | miss (t : Tr) (h : missing t = true) : OkS t
  | block (t : Tr) (h : t.kind = 44) (hk : ∀ k ∈ t.kids, OkS k) : OkS t
  | fn (t : Tr) (h : t.kind = 33) (body : Tr) (hb : t.kids.getLast? = some body) (h44 : body.kind = 44) (hk : ∀ k ∈ body.kids, OkS k) (hp : ∀ k ∈ t.kids.dropLast, k.kind = 3 ∧ k.kids = []) : OkS t
  | one (t : Tr) (h : t.kind = 31 ∨ t.kind = 32 ∨ t.kind = 34 ∨ t.kind = 42 ∨ t.kind = 46) (a : Tr) (hk : t.kids = [a]) (ha : OkX a) : OkS t
  | label (t : Tr) (h : t.kind = 41) (a : Tr) (hk : t.kids = [a]) (ha : OkS a) : OkS t
  | two (t : Tr) (h : t.kind = 36 ∨ t.kind = 38) (a b : Tr) (hk : t.kids = [a, b]) (ha : OkX a) (hb : OkS b) : OkS t
  | if_ (t : Tr) (h : t.kind = 35) (a b c : Tr) (hk : t.kids = [a, b, c]) (ha : OkX a) (hb : OkS b) (hc : OkS c) : OkS t
  | for_ (t : Tr) (h : t.kind = 37) (a b c d : Tr) (hk : t.kids = [a, b, c, d]) (ha : OkX a) (hb : OkX b) (hc : OkX c) (hd : OkS d) : OkS t
  | try_ (t : Tr) (h : t.kind = 43) (a b c : Tr) (hk : t.kids = [a, b, c]) (ha : OkS a) (hb : OkS b) (hb0 : b.kind = 0 ∨ b.kind = 44) (hc : OkS c) : OkS t
  | none_ (t : Tr) (h : t.kind = 39 ∨ t.kind = 40 ∨ t.kind = 45) (hk : t.kids = []) : OkS t
inductive OkX : Tr → Prop
  | miss (t : Tr) (h : missing t = true) : OkX t
  | leaf (t : Tr) (h : t.kind = 1 ∨ t.kind = 2 ∨ t.kind = 3 ∨ t.kind = 4 ∨ t.kind = 5 ∨ t.kind = 6 ∨ t.kind = 7 ∨ t.kind = 8) (hk : t.kids = []) : OkX t
  | all_ (t : Tr) (h : t.kind = 9 ∨ t.kind = 10 ∨ t.kind = 11 ∨ t.kind = 13 ∨ t.kind = 14 ∨ t.kind = 15 ∨ t.kind = 16 ∨ t.kind = 18 ∨ t.kind = 19 ∨ t.kind = 20 ∨ t.kind = 22) (hk : ∀ k ∈ t.kids, OkX k) : OkX t
  | fn (t : Tr) (h : t.kind = 12) (body : Tr) (hb : t.kids.getLast? = some body) (h44 : body.kind = 44) (hk : ∀ k ∈ body.kids, OkS k) (hp : ∀ k ∈ t.kids.dropLast, k.kind = 3 ∧ k.kids = []) : OkX t
  | upd (t : Tr) (h : t.kind = 17) (a : Tr) (hk : t.kids = [a]) (ha : OkX a) : OkX t
  | asg (t : Tr) (h : t.kind = 21) (a x : Tr) (hk : t.kids = [a, x]) (ha : OkX a) (hx : OkX x) : OkX t
end
end Go.Proofs.YtlenhcmgcgccmaaDoor
