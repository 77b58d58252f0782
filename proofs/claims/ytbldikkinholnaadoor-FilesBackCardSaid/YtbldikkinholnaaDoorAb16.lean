/-
  A region whose order is open: one way through it serves all.
-/
import Derived.Test.YtbldikkinholnaaDoorAb15
namespace Go.Ab
set_option linter.unusedVariables false
set_option linter.unusedSimpArgs false

structure DI where
  op : AOper
  eff : Bool
  chk : List AOper

/-- what only looked reads as it did -/
def rechk : List AOper → St → Prop
  | [], _ => True
  | c :: cs, st => (match c.dst with | some d => evalP c st = some (st.env.get d) | none => ∃ v, evalP c st = some v) ∧ rechk cs st

/-- what only looks at once; then what acts -/
def runsD (P : Program) (Q : APost) : List DI → St → (St → Prop) → Prop
  | [], st, k => k st
  | i :: is, st, k => match i.eff with
    | true => runE P Q i.op st (fun r => rechk i.chk (st.put i.op.dst r) ∧ runsD P Q is (st.put i.op.dst r) k)
    | false => match evalP i.op st with
      | some v => runsD P Q is (st.put i.op.dst (v, st.σ, st.nx)) k
      | none => False

/-! what is asked of the region's text: sets are numbers -/
def bitOf (k : Nat) : Nat := 2 ^ k
def has (m k : Nat) : Bool := Nat.testBit m k
def sub (m d : Nat) : Bool := (m ||| d) == d
def maskOf : List Nat → Nat
  | [] => 0
  | k :: r => bitOf k ||| maskOf r

structure DRow where
  op : AOper
  eff : Bool
  ind : Bool
  bef : Nat
  slots : Nat

def rowsOf : List AOper → List Nat → List DRow
  | o :: l, b :: bs => ⟨o, !o.isPure, o.isIndep, b, maskOf o.slots⟩ :: rowsOf l bs
  | _, _ => []

def noRow : DRow := ⟨⟨none, .panic (.val .any), none⟩, true, false, 0, 0⟩

section
variable (l : List DRow)

def rowAt (i : Nat) : DRow := l.getD i noRow

/-- those that are looked at again behind x -/
def chkAt (done : List Nat) (x : Nat) : List Nat := done.filter fun p => !(rowAt l p).eff && !(rowAt l p).ind && !has (rowAt l x).bef p

def chkB (p : Nat) : List DRow → Bool
  | [] => true
  | r :: rs => (!has r.bef p || (match r.op.dst with | some t => !has (rowAt l p).slots t | none => true)) && chkB p rs

/-- the plan is good from here on -/
def goodB (done : List Nat) (dm : Nat) : List Nat → Bool
  | [] => true
  | x :: rest =>
    sub (rowAt l x).bef dm &&
    (!(rowAt l x).eff || (rest.all (fun p => if (rowAt l p).eff then has (rowAt l p).bef x else !sub (rowAt l p).bef dm) && (chkAt l done x).all (fun p => (match (rowAt l p).op.dst with | some t => !has (rowAt l p).slots t | none => true) && chkB l p l))) &&
    goodB (done ++ [x]) (dm ||| bitOf x) rest

def plan1 (done : List Nat) : List Nat → List DI
  | [] => []
  | x :: rest => ⟨(rowAt l x).op, (rowAt l x).eff, (chkAt l done x).map fun p => (rowAt l p).op⟩ :: plan1 (done ++ [x]) rest

/-- slots: each written once; who looks at one stands ahead of whom writes it, or behind -/
def slotB (i : Nat) (t : Nat) (ri : DRow) : Nat → List DRow → Bool
  | _, [] => true
  | j, r :: rs => (i == j || (r.op.dst != some t && (!has r.slots t || has r.bef i || has ri.bef j))) && slotB i t ri (j + 1) rs
def slotsB : Nat → List DRow → Bool
  | _, [] => true
  | i, r :: rs => (match r.op.dst with | some t => slotB i t r 0 l | none => true) && slotsB (i + 1) rs

end

/-- what stands ahead of what, through others too -/
def befOne (acc : List Nat) : List Edge → Nat
  | [] => 0
  | e :: es => if Region.binds .any e then (bitOf e.on ||| acc.getD e.on 0) ||| befOne acc es else befOne acc es
def befOf : List Nat → List Oper → List Nat
  | acc, [] => acc
  | acc, o :: os => befOf (acc ++ [befOne acc o.after.toList]) os
/-- each number is what its edges make; they lead back -/
def befB (bef : List Nat) : Nat → List Oper → List Nat → Bool
  | _, [], [] => true
  | i, o :: os, b :: bs => (b == befOne bef o.after.toList) && o.after.toList.all (fun e => !Region.binds .any e || decide (e.on < i)) && befB bef (i + 1) os bs
  | _, _, _ => false

def findR (l : List DRow) (dm : Nat) (pure : Bool) : List Nat → Option Nat
  | [] => none
  | i :: r => if (!pure || !(rowAt l i).eff) && sub (rowAt l i).bef dm then some i else findR l dm pure r

/-- the operations as they may be taken: those that only look first -/
def planGo (l : List DRow) : Nat → List Nat → Nat → List Nat → List Nat
  | 0, done, _, _ => done
  | n + 1, done, dm, todo =>
    match findR l dm true todo with
    | some i => planGo l n (done ++ [i]) (dm ||| bitOf i) (todo.filter (· != i))
    | none => match findR l dm false todo with
      | some i => planGo l n (done ++ [i]) (dm ||| bitOf i) (todo.filter (· != i))
      | none => done

def nodupB : Nat → Nat → List Nat → Bool
  | _, _, [] => true
  | n, m, k :: r => decide (k < n) && !has m k && nodupB n (m ||| bitOf k) r

def cDraw (P : Program) (n : Nat) (ops : Array Oper) : Option (List DI) :=
  match ops.toList.mapM (cOper P n ops) with
  | none => none
  | some l =>
    let bef := befOf [] ops.toList
    let rows := rowsOf l bef
    let plan := planGo rows l.length [] 0 (List.range l.length)
    if befB bef 0 ops.toList bef && slotsB rows 0 rows && goodB rows [] 0 plan && (List.range l.length).all (has (maskOf plan)) && nodupB l.length 0 plan then some (plan1 rows [] plan) else none

end Go.Ab
