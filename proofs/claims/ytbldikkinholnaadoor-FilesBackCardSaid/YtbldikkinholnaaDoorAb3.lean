/-
  Operations, abstractly: what is left of one when its types are looked up, and what it does to names.
-/
import Derived.Test.YtbldikkinholnaaDoorAb2
namespace Go.Ab

/-- a cell's value -/
def AV.scalar : AV → Bool
  | .any | .agg _ | .tup _ => false
  | _ => true
/-- a value of so many cells, each of which may be stored -/
def AV.fits (sz : Nat) (x : AV) : Bool := x.cells.length == sz && x.cells.all AV.scalar

/-- plain kinds of cells -/
inductive CK where
  | b | i | s
  deriving DecidableEq

inductive AOp where
  | mov (x : Opd)
  | pick (c a b : Opd)
  | alloc (zero : List AV)
  | box (x : Opd)
  | build (zero : List AV) (parts : List (Nat × Nat × Opd))
  | bslice (sz : Nat) (zero : AV) (len : Nat) (parts : List (Nat × Opd))
  | load (sz : Nat) (agg : Bool) (x : Opd)
  | store (sz : Nat) (x y : Opd)
  | nilck (x : Opd)
  | bin (op : BinOp) (x y : Opd)
  | eqs (neg : Bool) (ks : List CK) (x y : Opd)
  | eqb (neg : Bool) (x y : Opd)
  | un (op : UnOp) (x : Opd)
  | conv (k : IntKind) (x : Opd)
  | s2b (x : Opd)
  | b2s (x : Opd)
  | same (x : Opd)
  | mkI (t : TypeId) (x : Opd)
  | mkF (f : FuncId) (cs : List Opd)
  | mslice (sz : Nat) (zero : AV) (l c : Opd)
  | slc (sz : Nat) (x : Opd) (lo hi mx : Option Opd)
  | slcS (x : Opd) (lo hi : Option Opd)
  | fa (off : Nat) (x : Opd)
  | ia (sz : Nat) (x i : Opd)
  | idx (x i : Opd)
  | fld (off sz : Nat) (agg : Bool) (x : Opd)
  | tas (t : TypeId) (zero : AV) (ok : Bool) (x : Opd)
  | ext (x : Opd) (i : Nat)
  | len (x : Opd)
  | lenS (x : Opd)
  | app (sz : Nat) (s x : Opd)
  | mm (mx : Bool) (x y : Opd)

inductive AStep where
  | op (o : AOp)
  | call (f : FuncId) (args : List Opd)
  | callv (f : Opd) (args : List Opd)
  | panic (x : Opd)
  | nilq (k : Nat) (neg : Bool) (x : Opd)

/-! the values that operations answer -/

/-- a small number of elements -/
def roomy (n : Nat) : Bool := decide (n ≤ 68719476736)
/-- a place within -/
def inB (i : Int) (n : Nat) : Bool := decide (0 ≤ i ∧ i < n)
/-- a bound of a cut -/
def upB (i : Int) (n : Nat) : Bool := decide (0 ≤ i ∧ i ≤ n)

/-- the greater one, or the lesser one -/
def mmF (mx : Bool) (a b : Int) : Int := if mx then (if b > a then b else a) else (if b < a then b else a)

def cellsAt (σ : Store) : AV → Option (List AV)
  | .pf cs => some cs
  | .ptr l off => match σ.get l with
    | some (.var cs) => some (cs.drop off)
    | _ => none
  | .pel l i off => match σ.get l with
    | some (.arr _ es) => (es[i]?).map fun e => e.cells.drop off
    | _ => none
  | _ => none

def bundle (agg : Bool) (cs : List AV) : Option AV :=
  if agg then some (.agg cs) else cs.head?

def intOp (op : BinOp) (k : IntKind) (a b : Int) : Option AV :=
  match op with
  | .add => some (.int k (k.wrap (a + b)))
  | .sub => some (.int k (k.wrap (a - b)))
  | .mul => some (.int k (k.wrap (a * b)))
  | .quo => if b = 0 then none else some (.int k (k.wrap (a.tdiv b)))
  | .rem => if b = 0 then none else some (.int k (a.tmod b))
  | .eql => some (.bool (a == b))
  | .neq => some (.bool (a != b))
  | .lss => some (.bool (decide (a < b)))
  | .leq => some (.bool (decide (a ≤ b)))
  | .gtr => some (.bool (decide (a > b)))
  | .geq => some (.bool (decide (a ≥ b)))
  | .and => some (.int k (k.wrap (BitVec.ofInt k.bits a &&& BitVec.ofInt k.bits b).toNat))
  | .or => some (.int k (k.wrap (BitVec.ofInt k.bits a ||| BitVec.ofInt k.bits b).toNat))
  | .xor => some (.int k (k.wrap (BitVec.ofInt k.bits a ^^^ BitVec.ofInt k.bits b).toNat))
  | .andNot => some (.int k (k.wrap (BitVec.ofInt k.bits a &&& ~~~BitVec.ofInt k.bits b).toNat))
  | _ => none

def strOp (op : BinOp) (a b : List UInt8) : Option AV :=
  match op with
  | .add => if roomy (a.length + b.length) then some (.str (a ++ b)) else none
  | .eql => some (.bool (a == b))
  | .neq => some (.bool (!(a == b)))
  | .lss => some (.bool (Op.bytesLess a b))
  | .leq => some (.bool (Op.bytesLess a b || a == b))
  | .gtr => some (.bool (!(Op.bytesLess a b || a == b)))
  | .geq => some (.bool (!(Op.bytesLess a b)))
  | _ => none

def binF (op : BinOp) (x y : AV) : Option AV :=
  match op, x, y with
  | .shl, .int k a, .int _ b => if b < 0 then none else some (.int k (k.wrap (a * 2 ^ (min b.toNat k.bits))))
  | .shr, .int k a, .int _ b => if b < 0 then none else some (.int k (a.fdiv (2 ^ (min b.toNat k.bits))))
  | op, .int k a, .int k' b => if k = k' then intOp op k a b else none
  | op, .str a, .str b => strOp op a b
  | _, _, _ => none

/-- cells of plain kinds, held against each other -/
def cellEq : CK → AV → AV → Option Bool
  | .i, .int k a, .int k' b => if k = k' then some (a == b) else none
  | .b, .bool a, .bool b => some (a == b)
  | .s, .str a, .str b => some (a == b)
  | _, _, _ => none
def cellsEq : List CK → List AV → List AV → Option Bool
  | [], [], [] => some true
  | k :: ks, a :: as, b :: bs => match cellEq k a b, cellsEq ks as bs with
    | some r, some t => some (r && t)
    | _, _ => none
  | _, _, _ => none

def unF (op : UnOp) (x : AV) : Option AV :=
  match op, x with
  | .not, .bool b => some (.bool (!b))
  | .neg, .int k n => some (.int k (k.wrap (0 - n)))
  | _, _ => none

def fillF (zero : List AV) : List (Nat × Nat × AV) → Option (List AV)
  | [] => some zero
  | (off, sz, x) :: r => if x.fits sz && decide (off + sz ≤ zero.length) then fillF (zero.take off ++ x.cells ++ zero.drop (off + sz)) r else none

def fillE (sz : Nat) (es : List AV) : List (Nat × AV) → Option (List AV)
  | [] => some es
  | (i, x) :: r => if x.fits sz && decide (i < es.length) then fillE sz (es.set i x) r else none

def storeAt (σ : Store) (sz : Nat) (p x : AV) : Option Store :=
  if x.fits sz then
    match p with
    | .ptr l off => match σ.get l with
      | some (.var cs) => if off + sz ≤ cs.length then some (σ.set l (.var (cs.take off ++ x.cells ++ cs.drop (off + sz)))) else none
      | _ => none
    | .pel l i off => match σ.get l with
      | some (.arr s es) => match es[i]? with
        | some e => if off + sz ≤ e.cells.length then
            some (σ.set l (.arr s (es.set i (if off = 0 ∧ sz = e.cells.length then x else .agg (e.cells.take off ++ x.cells ++ e.cells.drop (off + sz)))))) else none
        | none => none
      | _ => none
    | _ => none
  else none

def highF (len : Nat) : Option AV → Option Nat
  | none => some len
  | some (.int _ h) => if upB h len then some h.toNat else none
  | _ => none
def lowF (hh : Nat) : Option AV → Option (Nat × Nat)
  | none => some (0, hh)
  | some (.int _ l) => if upB l hh then some (l.toNat, hh) else none
  | _ => none
def bounds (len : Nat) (lo hi : Option AV) : Option (Nat × Nat) :=
  match highF len hi with
  | none => none
  | some h => lowF h lo

def AV.sized (sz : Nat) (x : AV) : Bool := x.cells.length == sz

/-- a cut; with a third number it has to be the second one -/
def slcF (σ : Store) (sz : Nat) (x : AV) (lo hi mx : Option AV) : Option AV :=
  match x with
  | .ls es fl => if es.all (AV.sized sz) then match bounds es.length lo hi, hi, mx with
    | some (l, h), _, none => some (.ls ((es.take h).drop l) (fl && h == es.length))
    | some (l, h), some (.int _ a), some (.int _ b) => if a = b then some (.ls ((es.take h).drop l) true) else none
    | _, _, _ => none
    else none
  | .os ℓ off len => match σ.get ℓ with
    | some (.arr s _) => if s = sz then match bounds len lo hi, hi, mx with
      | some (l, h), _, none => some (.os ℓ (off + l) (h - l))
      | some (l, h), some (.int _ a), some (.int _ b) => if a = b then some (.os ℓ (off + l) (h - l)) else none
      | _, _, _ => none
      else none
    | _ => none
  | _ => none

/-- a slice's elements -/
def elems (σ : Store) (sz : Nat) : AV → Option (List AV)
  | .ls es _ => some es
  | .os ℓ off len => match σ.get ℓ with
    | some (.arr s es) => if s = sz ∧ off + len ≤ es.length then some ((es.take (off + len)).drop off) else none
    | _ => none
  | .str s => some (s.map fun b => .int .u8 b.toNat)
  | _ => none

/-- what is appended to, and the store without it -/
def appBase (σ : Store) (sz : Nat) : AV → Option (List AV × Store)
  | .ls [] true => some ([], σ)
  | .os ℓ off len => match σ.get ℓ with
    | some (.arr s es) => if s = sz ∧ off + len ≤ es.length then some ((es.take (off + len)).drop off, σ.del ℓ) else none
    | _ => none
  | _ => none

abbrev Res := AV × Store × Nat

def opF (o : AOp) (e : Env) (σ : Store) (nx : Nat) : Option Res :=
  match o with
  | .mov x => some (x.ev e, σ, nx)
  | .pick c a b => match c.ev e with
    | .bool t => some (if t then a.ev e else b.ev e, σ, nx)
    | _ => none
  | .alloc zero => some (.ptr nx 0, (nx, .var zero) :: σ, nx + 1)
  | .box x => match x.ev e with
    | .any => none
    | v => some (.ptr nx 0, (nx, .var v.cells) :: σ, nx + 1)
  | .build zero parts => (fillF zero (parts.map fun (o, s, x) => (o, s, x.ev e))).map fun cs => (.agg cs, σ, nx)
  | .bslice sz zero len parts => (fillE sz (List.replicate len zero) (parts.map fun (i, x) => (i, x.ev e))).map fun es => (.os nx 0 len, (nx, .arr sz es) :: σ, nx + 1)
  | .load sz agg x => match cellsAt σ (x.ev e) with
    | some cs => if sz ≤ cs.length then (bundle agg (cs.take sz)).map fun v => (v, σ, nx) else none
    | none => none
  | .store sz x y => (storeAt σ sz (x.ev e) (y.ev e)).map fun σ' => (.any, σ', nx)
  | .nilck x => match x.ev e with
    | .ptr l o => some (.ptr l o, σ, nx)
    | .pel l i o => some (.pel l i o, σ, nx)
    | .pf cs => some (.pf cs, σ, nx)
    | _ => none
  | .bin op x y => (binF op (x.ev e) (y.ev e)).map fun v => (v, σ, nx)
  | .eqs neg ks x y => match x.ev e, y.ev e with
    | .agg a, .agg b => (cellsEq ks a b).map fun t => (.bool (xor neg t), σ, nx)
    | _, _ => none
  | .eqb neg x y => match x.ev e, y.ev e with
    | .bool a, .bool b => some (.bool (xor neg (a == b)), σ, nx)
    | _, _ => none
  | .un op x => (unF op (x.ev e)).map fun v => (v, σ, nx)
  | .conv k x => match x.ev e with
    | .int _ n => some (.int k (k.wrap n), σ, nx)
    | _ => none
  | .same x => match x.ev e with
    | .str s => some (.str s, σ, nx)
    | _ => none
  | .s2b x => match x.ev e with
    | .str s => some (.os nx 0 s.length, (nx, .arr 1 (s.map fun b => .int .u8 b.toNat)) :: σ, nx + 1)
    | _ => none
  | .mkI t x => some (.ifc t (x.ev e), σ, nx)
  | .mkF f cs => some (.fn f (cs.map fun c => c.ev e), σ, nx)
  | .slc sz x lo hi mx => (slcF σ sz (x.ev e) (lo.map fun y => y.ev e) (hi.map fun y => y.ev e) (mx.map fun y => y.ev e)).map fun v => (v, σ, nx)
  | .slcS x lo hi => match x.ev e with
    | .str s => (bounds s.length (lo.map fun y => y.ev e) (hi.map fun y => y.ev e)).map fun (l, h) => (.str ((s.take h).drop l), σ, nx)
    | _ => none
  | .fa off x => match x.ev e with
    | .ptr l o => some (.ptr l (o + off), σ, nx)
    | .pel l i o => some (.pel l i (o + off), σ, nx)
    | .pf cs => if off ≤ cs.length then some (.pf (cs.drop off), σ, nx) else none
    | _ => none
  | .ia sz x i => match x.ev e, i.ev e with
    | .ls es _, .int _ i => if inB i es.length then match es[i.toNat]? with
        | some v => if v.cells.length = sz then some (.pf v.cells, σ, nx) else none
        | none => none
      else none
    | .os l off len, .int _ i => match σ.get l with
      | some (.arr s _) => if s = sz then if inB i len then some (.pel l (off + i.toNat) 0, σ, nx) else none else none
      | _ => none
    | _, _ => none
  | .idx x i => match x.ev e, i.ev e with
    | .str s, .int _ i => if inB i s.length then match s[i.toNat]? with
        | some b => some (.int .u8 b.toNat, σ, nx)
        | none => none
      else none
    | _, _ => none
  | .fld off sz agg x => match x.ev e with
    | .agg cs => if off + sz ≤ cs.length then (bundle agg ((cs.drop off).take sz)).map fun v => (v, σ, nx) else none
    | _ => none
  | .tas t zero ok x => match x.ev e with
    | .ifc u v => if u = t then some (if ok then .tup [v, .bool true] else v, σ, nx) else if ok then some (.tup [zero, .bool false], σ, nx) else none
    | .nili => if ok then some (.tup [zero, .bool false], σ, nx) else none
    | _ => none
  | .ext x i => match x.ev e with
    | .tup vs => match vs[i]? with
      | some v => some (v, σ, nx)
      | none => none
    | _ => none
  | .lenS x => match x.ev e with
    | .str s => some (.int .i64 s.length, σ, nx)
    | _ => none
  | .len x => match x.ev e with
    | .ls es _ => some (.int .i64 es.length, σ, nx)
    | .os _ _ n => some (.int .i64 n, σ, nx)
    | _ => none
  | .mslice sz zero x y => match x.ev e, y.ev e with
    | .int .i64 l, .int .i64 c => if upB l c.toNat && decide (0 ≤ c) && roomy c.toNat then some (.os nx 0 l.toNat, (nx, .arr sz (List.replicate l.toNat zero)) :: σ, nx + 1) else none
    | _, _ => none
  | .mm mx x y => match x.ev e, y.ev e with
    | .int k a, .int _ b => some (.int k (mmF mx a b), σ, nx)
    | _, _ => none
  | .app sz s x => match appBase σ sz (s.ev e), elems σ sz (x.ev e) with
    | some (es, σ'), some xs => if xs.all (AV.fits sz) && roomy (es.length + xs.length) then some (.os nx 0 (es.length + xs.length), (nx, .arr sz (es ++ xs)) :: σ', nx + 1) else none
    | _, _ => none
  | _ => none

/-! out of the machine's operations -/

def absZ : Value → Option AV
  | .agg cs => (cs.toList.mapM absV).map .agg
  | v => absV v

def cOpds (l : Array Operand) : Option (List Opd) := l.toList.mapM compOpd

def isAggD : TypeDesc → Bool
  | .struct _ | .array _ _ => true
  | _ => false

def plainKind (P : Program) (t : TypeId) : Option CK :=
  match P.underlying t with
  | some .bool => some .b
  | some (.int _) => some .i
  | some .string => some .s
  | _ => none

def cOp (P : Program) (o : Oper) : Option AOp :=
  match o.op with
  | .move x | .assign x => (compOpd x).map .mov
  | .pick c a b => do pure (.pick (← compOpd c) (← compOpd a) (← compOpd b))
  | .alloc t => do
    let i ← P.info? t
    let z ← absZ (← i.zero)
    pure (.alloc z.cells)
  | .box _ x => (compOpd x).map .box
  | .build t parts => do
    let i ← P.info? t
    let z ← absZ (← i.zero)
    match ← P.underlying t with
    | .struct fs => do
      let ps ← parts.toList.mapM fun (k, x) => do
        let f ← fs[k]?
        let j ← P.info? f.type
        pure (f.offset, j.size, ← compOpd x)
      if fs.toList.all (fun f => (P.info? f.type).isSome) then pure (.build z.cells ps) else none
    | _ => none
  | .buildSlice t len parts => do
    match ← P.underlying t with
    | .slice e => do
      let i ← P.info? e
      let z ← absZ (← i.zero)
      let ps ← parts.toList.mapM fun (k, x) => do pure (k, ← compOpd x)
      if i.size = z.cells.length ∧ 0 < i.size ∧ len * i.size ≤ 16777216 ∧ z.fits i.size then pure (.bslice i.size z len ps) else none
    | _ => none
  | .makeSlice t l c => do
    match ← P.underlying t with
    | .slice e => do
      let i ← P.info? e
      let z ← absZ (← i.zero)
      if i.size = z.cells.length ∧ 0 < i.size ∧ i.bytes ≤ 256 ∧ z.fits i.size then pure (.mslice i.size z (← compOpd l) (← compOpd c)) else none
    | _ => none
  | .load t x => do
    let d ← P.underlying t
    let i ← P.info? t
    if (isAggD d ∨ i.size = 1) ∧ 0 < i.size then pure (.load i.size (isAggD d) (← compOpd x)) else none
  | .store t x y => do
    let i ← P.info? t
    if 0 < i.size then pure (.store i.size (← compOpd x) (← compOpd y)) else none
  | .nilCheck x => (compOpd x).map .nilck
  | .binOp op t x y _ => do
    match ← P.underlying t with
    | .int _ | .string => pure (.bin op (← compOpd x) (← compOpd y))
    | .bool => if op = .eql ∨ op = .neq then pure (.eqb (op = .neq) (← compOpd x) (← compOpd y)) else none
    | .struct fs =>
      let ks ← fs.toList.mapM fun f => plainKind P f.type
      if (op = .eql ∨ op = .neq) ∧ P.stoodInHeld t = false ∧ P.eqGuardType P.depth t = false ∧ fs.toList.all (fun f => f.name != "_") ∧ (fs.toList.map (·.offset)) = List.range fs.size then
        pure (.eqs (op = .neq) ks (← compOpd x) (← compOpd y))
      else none
    | _ => none
  | .unOp op _ x => (compOpd x).map (.un op)
  | .convert s d x => do
    match ← P.underlying s, ← P.underlying d with
    | .int _, .int k => (compOpd x).map (.conv k)
    | .string, .string => (compOpd x).map .same
    | .string, .slice e => do
      match ← P.underlying e with
      | .int .u8 => (compOpd x).map .s2b
      | _ => none
    | _, _ => none
  | .makeInterface t x => do
    match ← P.underlying t with
    | .interface _ => none
    | _ => (compOpd x).map (.mkI t)
  | .makeFunc (.func f) first cs => if first.size = 0 then (cOpds cs).map (.mkF f) else none
  | .slice t x lo hi mx => do
    match ← P.underlying t with
    | .string => if mx.isNone then pure (.slcS (← compOpd x) (← lo.mapM compOpd) (← hi.mapM compOpd)) else none
    | .slice e => do
      let i ← P.info? e
      pure (.slc i.size (← compOpd x) (← lo.mapM compOpd) (← hi.mapM compOpd) (← mx.mapM compOpd))
    | _ => none
  | .fieldAddr t x k => do
    match ← P.underlying t with
    | .struct fs => do
      let f ← fs[k]?
      let i ← P.info? f.type
      if i.size = 0 then none else pure (.fa f.offset (← compOpd x))
    | _ => none
  | .indexAddr t x i => do
    match ← P.underlying t with
    | .slice e => do
      let j ← P.info? e
      pure (.ia j.size (← compOpd x) (← compOpd i))
    | _ => none
  | .index t x i => do
    match ← P.underlying t with
    | .string => pure (.idx (← compOpd x) (← compOpd i))
    | _ => none
  | .field t x k => do
    match ← P.underlying t with
    | .struct fs => do
      let f ← fs[k]?
      let j ← P.info? f.type
      let d ← P.underlying f.type
      if isAggD d ∨ j.size = 1 then pure (.fld f.offset j.size (isAggD d) (← compOpd x)) else none
    | _ => none
  | .typeAssert x _ t ok => do
    let i ← P.info? t
    let z ← absZ (← i.zero)
    match ← P.underlying t with
    | .interface _ => none
    | _ => pure (.tas t z ok (← compOpd x))
  | .extract x i => do pure (.ext (← compOpd x) i)
  | .call c => match c.callee with
    | .builtin .len => do
      let x ← c.args[0]?
      match ← P.underlying (← c.argTypes[0]?) with
      | .string => (compOpd x).map .lenS
      | .slice _ => (compOpd x).map .len
      | _ => none
    | .builtin .min => do
      if c.args.size = 2 then pure (.mm false (← compOpd (← c.args[0]?)) (← compOpd (← c.args[1]?))) else none
    | .builtin .max => do
      if c.args.size = 2 then pure (.mm true (← compOpd (← c.args[0]?)) (← compOpd (← c.args[1]?))) else none
    | .builtin .append => do
      let s ← c.args[0]?
      let x ← c.args[1]?
      match ← P.underlying (← c.argTypes[0]?), ← P.underlying (← c.argTypes[1]?) with
      | .slice e, .slice _ | .slice e, .string => do
        let j ← P.info? e
        if 0 < j.size ∧ 0 < j.bytes ∧ j.bytes ≤ 256 ∧ j.zero.map (fun z => z.cells.size) = some j.size then pure (.app j.size (← compOpd s) (← compOpd x)) else none
      | _, _ => none
    | _ => none
  | _ => none

/-- what is held against nil -/
def cNil (P : Program) (o : Oper) : Option AStep :=
  match o.op with
  | .binOp op t x (.const v) _ => if op = .eql ∨ op = .neq then match P.underlying t, v with
    | some (.slice _), .slice none _ _ => (compOpd x).map (.nilq 0 (op = .neq))
    | some (.pointer _), .pointer none => (compOpd x).map (.nilq 1 (op = .neq))
    | some (.func _ _ _), .nilFunc => (compOpd x).map (.nilq 2 (op = .neq))
    | some (.interface _), .nilIface => (compOpd x).map (.nilq 3 (op = .neq))
    | _, _ => none
    else none
  | _ => none

def cStep (P : Program) (o : Oper) : Option AStep :=
  match cNil P o with
  | some s => some s
  | none => match o.op with
  | .call ⟨.value (.func f), args, _⟩ => (cOpds args).map (.call f)
  | .call ⟨.value x, args, _⟩ => do pure (.callv (← compOpd x) (← cOpds args))
  | .panic x => (compOpd x).map .panic
  | _ => (cOp P o).map .op

structure AOper where
  dst : Option Nat
  op : AStep
  guard : Option (Nat × Bool)

def dstOk (n : Nat) : Option Nat → Bool
  | some d => decide (d < n)
  | none => true

/-- guards by slots -/
def cGuard (n : Nat) (ops : Array Oper) : Option (Nat × Bool) → Option (Option (Nat × Bool))
  | none => some none
  | some (j, b) => do
    let p ← ops[j]?
    let s ← p.dst
    if s < n then some (some (s, b)) else none

def cOper (P : Program) (n : Nat) (ops : Array Oper) (o : Oper) : Option AOper := do
  let a ← cStep P o
  let g ← cGuard n ops o.guard
  if dstOk n o.dst then some ⟨o.dst, a, g⟩ else none

end Go.Ab
