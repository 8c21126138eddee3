/-
  An abstract machine for the programs of the model: values, objects, compiling, running. Nothing is proved here.
-/
import GoSem.Step
namespace Go.VM
open Go

/-- a tree of things by numbers -/
inductive T (α : Type) where
  | e
  | n (v : α) (l r : T α)

variable {α β : Type}

noncomputable section

/-- the way to a number -/
def pthF : Nat → Nat → List Bool
  | 0, _ => []
  | f + 1, k => match k with
    | 0 => []
    | k + 1 => match Nat.mod k 2 with
      | 0 => false :: pthF f (Nat.div k 2)
      | _ + 1 => true :: pthF f (Nat.div k 2)
def pth (k : Nat) : List Bool := pthF k k

def T.getP (d : α) (t : T α) : List Bool → α :=
  @T.rec α (fun _ => List Bool → α) (fun _ => d)
    (fun v _ _ gl gr p => @List.rec Bool (fun _ => α) v (fun b p _ => @Bool.rec (fun _ => α) (gl p) (gr p) b) p) t

def T.setP (d x : α) (p : List Bool) : T α → T α :=
  @List.rec Bool (fun _ => T α → T α) (fun t => @T.rec α (fun _ => T α) (.n x .e .e) (fun _ l r _ _ => .n x l r) t)
    (fun b _ ih t => @Bool.rec (fun _ => T α)
      (@T.rec α (fun _ => T α) (.n d (ih .e) .e) (fun v l r _ _ => .n v (ih l) r) t)
      (@T.rec α (fun _ => T α) (.n d .e (ih .e)) (fun v l r _ _ => .n v l (ih r)) t) b) p

def T.get (d : α) (t : T α) (k : Nat) : α := t.getP d (pth k)
def T.set (d : α) (t : T α) (k : Nat) (x : α) : T α := T.setP d x (pth k) t

/-- abstract values -/
inductive AV where
  | top
  | int (k : IntKind) (n : Int)
  | rng (k : IntKind) (lo hi : Int)
  | bool (b : Bool)
  | str (s : List Nat)
  | ptr (b o : Nat)
  | nil
  | sl (b o len cap : Nat)
  | slo (b o len esz : Nat)
  | snil
  | sle
  | map (r : Nat)
  | mnil
  | fn (f : Nat) (first caps : List AV)
  | yld (l : Nat)
  | fnil
  | ifc (t : Nat) (v : AV)
  | inil
  | agg (cs : List AV)
  | tup (vs : List AV)
  deriving Inhabited

inductive Opd where
  | t (n : Nat)
  | c (v : AV)
  deriving Inhabited

inductive LenK where
  | str | arr (n : Nat) | sl | map
  deriving Inhabited
inductive SlK where
  | str | sl (esz : Nat) | arr (n esz : Nat)
  deriving Inhabited
inductive IxK where
  | str | arr (n esz : Nat) (agg : Bool)
  deriving Inhabited

inductive EqK where
  | num | bool | ptr | sl | map | fn | ifc | arr (n : Nat)
  deriving Inhabited

inductive KeyK where
  | num | str | arr (n : Nat)
  deriving Inhabited

inductive AOp where
  | mov (x : Opd)
  | pick (c a b : Opd)
  | alloc (elem : Nat) (zero : List AV)
  | box (elem : Nat) (x : Opd)
  | build (zero : List AV) (parts : List (Nat × Nat × Opd))
  | bsl (elem len esz : Nat) (zero : List AV) (parts : List (Nat × Opd))
  | load (n : Nat) (agg : Bool) (x : Opd)
  | store (n : Nat) (x v : Opd)
  | nilck (x : Opd)
  | bin (op : BinOp) (x y : Opd)
  | eq (neg : Bool) (k : EqK) (x y : Opd)
  | un (op : UnOp) (x : Opd)
  | cvI (k : IntKind) (x : Opd)
  | cvSB (elem : Nat) (x : Opd)
  | cvBS (x : Opd)
  | cvSS (x : Opd)
  | cvLL (x : Opd)
  | s2ap (n : Nat) (x : Opd)
  | mkI (t : Nat) (x : Opd)
  | mkF (f : Nat) (first caps : List Opd)
  | mkM
  | mkS (elem esz bytes : Nat) (zero : List AV) (len cap : Opd)
  | slc (k : SlK) (x : Opd) (lo hi mx : Option Opd)
  | fadr (off : Nat) (x : Opd)
  | fld (off n : Nat) (agg : Bool) (x : Opd)
  | iadr (arr : Option Nat) (esz : Nat) (x i : Opd)
  | idx (k : IxK) (x i : Opd)
  | lkp (kk : KeyK) (zero : AV) (x i : Opd) (ok : Bool)
  | mupd (kk : KeyK) (m k v : Opd)
  | mdel (kk : KeyK) (m k : Opd)
  | ment (zero : AV) (m k : Opd)
  | est (m s v : Opd)
  | tass (t : Nat) (zero : AV) (x : Opd) (ok : Bool)
  | ext (x : Opd) (i : Nat)
  | len (k : LenK) (x : Opd)
  | app (elem esz bytes : Nat) (s x : Opd)
  | cpy (esz : Nat) (d s : Opd)
  | mnx (mx : Bool) (xs : List Opd)
  | call (f : Nat) (args : List Opd)
  | callv (f : Opd) (args : List Opd)
  | bad (why : String)
  deriving Inhabited

structure AOpr where
  dst : Option Nat
  op : AOp
  guard : Option (Nat × Bool)
  pred : Nat
  mem : Bool
  deriving Inhabited

inductive ACode where
  | skip
  | region (ops : List AOpr) (draw : Bool)
  | seq (a b : ACode)
  | cond (c : Opd) (a b : ACode)
  | block (id : Nat) (b : ACode)
  | loop (b : ACode)
  | rangeF (f : Opd) (params : List Nat) (asg body : ACode)
  | exit (id : Nat)
  | ret
  | bad (why : String)
  deriving Inhabited

inductive ARes where
  | t (n : Nat)
  | cell (a n : Nat) (agg : Bool)
  deriving Inhabited

structure AFunc where
  body : ACode
  results : List ARes
  deriving Inhabited

inductive AObj where
  | non
  | cells (c : T AV) (n elem : Nat) (opn : Bool)
  | map (es : List (AV × AV))
  | loop (tm : T AV) (params : List Nat) (asg body : ACode) (st : Nat) (pend : Option ACode)
  | raw
  deriving Inhabited

/-- the state: the heap, the next name, the names written, hidden names -/
structure S where
  h : T AObj
  nx : Nat
  ws : List Nat
  hid : List (Nat × Nat)

/-! compile -/

def isAggD : TypeDesc → Bool
  | .struct _ | .array _ _ => true
  | _ => false

mutual
def toAV : Value → AV
  | .bool b => .bool b
  | .int k n => .int k n
  | .string s => .str (s.data.toList.map (·.toNat))
  | .pointer none => .nil
  | .slice none 0 0 => .snil
  | .map none => .mnil
  | .func (.func f) ⟨[]⟩ ⟨[]⟩ => .fn f [] []
  | .nilFunc => .fnil
  | .nilIface => .inil
  | .iface t v => .ifc t (toAV v)
  | .agg ⟨l⟩ => .agg (toAVs l)
  | .tuple ⟨l⟩ => .tup (toAVs l)
  | _ => .top
def toAVs : List Value → List AV
  | [] => []
  | v :: l => toAV v :: toAVs l
end

def AV.cells : AV → List AV
  | .agg cs => cs
  | v => [v]

def cOpd : Operand → Opd
  | .tmp t => .t t
  | .const v => .c (toAV v)
  | .global _ => .c .top
  | .func f => .c (.fn f [] [])

structure TyI where
  d : TypeDesc
  size : Nat
  bytes : Nat
  zero : AV

def tyI (P : Program) (t : Nat) : Option TyI := do
  let d ← P.underlying t
  let i ← P.info? t
  let z ← i.zero
  pure ⟨d, i.size, i.bytes, toAV z⟩

def orBad (o : Option AOp) (why : String) : AOp := o.getD (.bad why)

/-- a map's keys -/
def keyKind (P : Program) (t : TypeId) : Option KeyK :=
  match P.underlying t with
  | some (.map k _) => match P.underlying k with
    | some (.int _) => some .num
    | some .string => some .str
    | some (.array n e) => match P.underlying e, P.info? e with
      | some (.int _), some i => match Nat.beq i.size 1 with
        | true => some (.arr n)
        | false => none
      | _, _ => none
    | _ => none
  | _ => none

def cBuiltin (P : Program) (b : Builtin) (ats : Array Nat) (args : List Opd) : AOp :=
  match b, args with
  | .len, [x] => orBad (do
      let d ← P.underlying (← ats[0]?)
      match d with
      | .string => pure (.len .str x)
      | .array n _ => pure (.len (.arr n) x)
      | .pointer a => match P.underlying a with | some (.array n _) => pure (.len (.arr n) x) | _ => none
      | .slice _ => pure (.len .sl x)
      | .map _ _ => pure (.len .map x)
      | _ => none) "len"
  | .append, [s, x] => orBad (do
      let .slice e ← P.underlying (← ats[0]?) | none
      let i ← tyI P e
      let xt ← ats[1]?
      let d ← P.underlying xt
      match d with
      | .slice _ | .string => match Nat.beq i.zero.cells.length i.size with
        | true => some (.app e i.size i.bytes s x)
        | false => none
      | _ => none) "append"
  | .copy, [d, s] => orBad (do
      let .slice e ← P.underlying (← ats[0]?) | none
      let i ← P.info? e
      pure (.cpy i.size d s)) "copy"
  | .delete, [m, k] => orBad ((ats[0]?).bind fun t => (keyKind P t).map fun kk => .mdel kk m k) "delete"
  | .min, xs => .mnx false xs
  | .max, xs => .mnx true xs
  | _, _ => .bad "builtin"

/-- the parts of a struct, of an array -/
def partsS (P : Program) (fs : Array Field) : List (Nat × Operand) → Option (List (Nat × Nat × Opd))
  | [] => some []
  | (j, x) :: l => match fs[j]?, partsS P fs l with
    | some f, some r => some ((f.offset, P.cellsOf f.type, cOpd x) :: r)
    | _, _ => none
def partsA (P : Program) (e : TypeId) : List (Nat × Operand) → List (Nat × Nat × Opd)
  | [] => []
  | (j, x) :: l => (j * P.cellsOf e, P.cellsOf e, cOpd x) :: partsA P e l

def isC : Operand → Bool
  | .const _ => true
  | _ => false

/-- how are two values of a type held against each other? -/
def eqKind (P : Program) (t : TypeId) (x y : Operand) : Option EqK :=
  match P.underlying t with
  | some (.int _) => some .num
  | some .string => some .num
  | some .bool => some .bool
  | some (.pointer _) => some .ptr
  | some (.slice _) => some .sl
  | some (.map _ _) => some .map
  | some (.func _ _ _) => some .fn
  | some (.interface _) => match isC x || isC y with
    | true => some .ifc
    | false => none
  | some (.array n e) => match P.underlying e, P.info? e with
    | some (.int _), some i => match Nat.beq i.size 1 && !(P.eqGuardType P.depth t) with
      | true => some (.arr n)
      | false => none
    | _, _ => none
  | _ => none

def cOp (P : Program) (op : Op) : AOp :=
  match op with
  | .move x | .assign x => .mov (cOpd x)
  | .pick c a b => .pick (cOpd c) (cOpd a) (cOpd b)
  | .alloc e => orBad (do let i ← tyI P e; pure (.alloc e i.zero.cells)) "alloc"
  | .box e x => .box e (cOpd x)
  | .build t parts => orBad (do
      let i ← tyI P t
      match i.d with
      | .struct fs => bif fs.toList.all (fun f => (P.info? f.type).isSome) then
          (partsS P fs parts.toList).map (.build i.zero.cells) else none
      | .array _ e => bif (P.info? e).isSome then some (.build i.zero.cells (partsA P e parts.toList)) else none
      | _ => none) "build"
  | .buildSlice t len parts => orBad (do
      let .slice e ← P.underlying t | none
      let i ← tyI P e
      bif Nat.ble (len * i.size) (2 ^ 24) && Nat.beq i.zero.cells.length i.size then
        pure (.bsl e len i.size i.zero.cells (parts.toList.map fun (j, x) => (j, cOpd x)))
      else none) "buildSlice"
  | .load t a => orBad (do let d ← P.underlying t; let i ← P.info? t; pure (.load i.size (isAggD d) (cOpd a))) "load"
  | .store t a v => orBad (do let i ← P.info? t; pure (.store i.size (cOpd a) (cOpd v))) "store"
  | .nilCheck x => .nilck (cOpd x)
  | .binOp .eql t x y _ => match eqKind P t x y with
    | some k => .eq false k (cOpd x) (cOpd y)
    | none => .bad "eql"
  | .binOp .neq t x y _ => match eqKind P t x y with
    | some k => .eq true k (cOpd x) (cOpd y)
    | none => .bad "neq"
  | .binOp op _ x y _ => .bin op (cOpd x) (cOpd y)
  | .unOp op _ x => .un op (cOpd x)
  | .convert src dst x => orBad (do
      let s ← P.underlying src
      let d ← P.underlying dst
      match s, d with
      | .int _, .int k => pure (.cvI k (cOpd x))
      | .string, .string => pure (.cvSS (cOpd x))
      | .string, .slice e => match P.underlying e with | some (.int .u8) => pure (.cvSB e (cOpd x)) | _ => none
      | .slice e, .string => match P.underlying e with | some (.int .u8) => pure (.cvBS (cOpd x)) | _ => none
      | .slice _, .slice e => match Nat.beq src dst, P.underlying e with | true, some (.int .u8) => pure (.cvLL (cOpd x)) | _, _ => none
      | _, _ => none) "convert"
  | .sliceToArrayPointer t x => orBad (match P.underlying t with | some (.array n _) => some (.s2ap n (cOpd x)) | _ => none) "s2ap"
  | .makeInterface t x => match P.underlying t with
    | some (.interface _) => .bad "makeInterface"
    | some _ => .mkI t (cOpd x)
    | none => .bad "makeInterface"
  | .makeFunc (.func f) first caps => .mkF f (first.toList.map cOpd) (caps.toList.map cOpd)
  | .makeMap _ r => match r with
    | none => .mkM
    | some _ => .bad "makeMap"
  | .makeSlice t l c => orBad (do
      let .slice e ← P.underlying t | none
      let i ← tyI P e
      bif Nat.beq i.zero.cells.length i.size then
        pure (.mkS e i.size i.bytes i.zero.cells (cOpd l) (cOpd c))
      else none) "makeSlice"
  | .slice t x lo hi mx => orBad (do
      let k ← match P.underlying t with
        | some .string => some SlK.str
        | some (.slice e) => (P.info? e).map fun i => SlK.sl i.size
        | some (.array n e) => (P.info? e).map fun i => SlK.arr n i.size
        | some (.pointer a) => match P.underlying a with | some (.array n e) => (P.info? e).map fun i => SlK.arr n i.size | _ => none
        | _ => none
      pure (.slc k (cOpd x) (lo.map cOpd) (hi.map cOpd) (mx.map cOpd))) "slice"
  | .fieldAddr s x f => orBad (do
      let .struct fs ← P.underlying s | none
      let f ← fs[f]?
      if P.cellsOf f.type = 0 then none
      pure (.fadr f.offset (cOpd x))) "fieldAddr"
  | .field s x f => orBad (do
      let .struct fs ← P.underlying s | none
      let f ← fs[f]?
      let d ← P.underlying f.type
      pure (.fld f.offset (P.cellsOf f.type) (isAggD d) (cOpd x))) "field"
  | .indexAddr t x i => orBad (do
      match P.underlying t with
      | some (.array n e) => (P.info? e).map fun j => .iadr (some n) j.size (cOpd x) (cOpd i)
      | some (.slice e) => (P.info? e).map fun j => .iadr none j.size (cOpd x) (cOpd i)
      | _ => none) "indexAddr"
  | .index t x i => orBad (do
      match P.underlying t with
      | some .string => pure (.idx .str (cOpd x) (cOpd i))
      | some (.array n e) => let d ← P.underlying e; pure (.idx (.arr n (P.cellsOf e) (isAggD d)) (cOpd x) (cOpd i))
      | _ => none) "index"
  | .lookup t x i ok => orBad (do
      let .map _ e ← P.underlying t | none
      let i' ← tyI P e
      (keyKind P t).map fun kk => .lkp kk i'.zero (cOpd x) (cOpd i) ok) "lookup"
  | .mapUpdate t m k v => orBad ((keyKind P t).map fun kk => .mupd kk (cOpd m) (cOpd k) (cOpd v)) "mapUpdate"
  | .insert t m k v => orBad ((keyKind P t).map fun kk => .mupd kk (cOpd m) (cOpd k) (cOpd v)) "insert"
  | .mapEntry t m k => orBad (do
      let .map _ e ← P.underlying t | none
      let i' ← tyI P e
      pure (.ment i'.zero (cOpd m) (cOpd k))) "mapEntry"
  | .entryStore _ m s v => .est (cOpd m) (cOpd s) (cOpd v)
  | .typeAssert x _ t ok => orBad (do
      let i ← tyI P t
      match i.d with
      | .interface _ => none
      | _ => pure (.tass t i.zero (cOpd x) ok)) "typeAssert"
  | .extract x i => .ext (cOpd x) i
  | .call c => match c.callee with
    | .value (.func f) => .call f (c.args.toList.map cOpd)
    | .value f => .callv (cOpd f) (c.args.toList.map cOpd)
    | .builtin b => cBuiltin P b c.argTypes (c.args.toList.map cOpd)
    | .invoke _ m => .bad ("invoke " ++ m)
  | _ => .bad "op"

def isMem : AOp → Bool
  | .mov _ | .pick .. | .build .. | .nilck _ | .bin .. | .eq .. | .un .. | .cvI .. | .cvSS _ | .s2ap .. | .mkI .. | .mkF .. | .slc .. | .fadr .. | .fld .. | .iadr .. | .idx .. | .ext .. | .tass .. | .mnx .. => false
  | .len .map _ => true
  | .len .. => false
  | _ => true

def cOpr (P : Program) (ops : Array Oper) (b : Array Nat) (i : Nat) (o : Oper) : AOpr :=
  let a := cOp P o.op
  match o.guard with
  | none => ⟨o.dst, a, none, b.getD i 0, isMem a⟩
  | some (j, want) => match (ops[j]?).bind (·.dst) with
    | some t => ⟨o.dst, a, some (t, want), b.getD i 0, isMem a⟩
    | none => ⟨o.dst, .bad "guard", none, b.getD i 0, true⟩

/-- a region in any order: which operations come earlier, whatever the order? -/
def edgeM (acc : List Nat) (j : Nat) : List Edge → Nat → Nat
  | [], s => s
  | e :: l, s => match Region.binds .any e && Nat.blt e.on j with
    | true => edgeM acc j l (Nat.lor (Nat.lor s (Nat.shiftLeft 1 e.on)) (acc.getD (Nat.sub (Nat.sub j 1) e.on) 0))
    | false => edgeM acc j l s
def befL : List Oper → Nat → List Nat → List Nat
  | [], _, _ => []
  | o :: l, j, acc => match edgeM acc j o.after.toList 0 with
    | 0 => 0 :: befL l (Nat.succ j) (0 :: acc)
    | m + 1 => (m + 1) :: befL l (Nat.succ j) ((m + 1) :: acc)
def befA (ops : Array Oper) : Array Nat := ⟨befL ops.toList 0 []⟩

/-- the temporaries that an operation names -/
def oT : Opd → List Nat
  | .t n => [n]
  | .c _ => []
def oTs : List Opd → List Nat
  | [] => []
  | x :: l => oT x ++ oTs l
def oTo : Option Opd → List Nat
  | none => []
  | some x => oT x
def opT : AOp → List Nat
  | .mov x => oT x
  | .pick c a b => oT c ++ (oT a ++ oT b)
  | .alloc _ _ => []
  | .box _ x => oT x
  | .build _ parts => oTs (parts.map fun p => p.2.2)
  | .bsl _ _ _ _ parts => oTs (parts.map fun p => p.2)
  | .load _ _ x => oT x
  | .store _ x v => oT x ++ oT v
  | .nilck x => oT x
  | .bin _ x y => oT x ++ oT y
  | .eq _ _ x y => oT x ++ oT y
  | .un _ x => oT x
  | .cvI _ x => oT x
  | .cvSB _ x => oT x
  | .cvBS x => oT x
  | .cvSS x => oT x
  | .cvLL x => oT x
  | .s2ap _ x => oT x
  | .mkI _ x => oT x
  | .mkF _ first caps => oTs first ++ oTs caps
  | .mkM => []
  | .mkS _ _ _ _ l c => oT l ++ oT c
  | .slc _ x lo hi mx => oT x ++ (oTo lo ++ (oTo hi ++ oTo mx))
  | .fadr _ x => oT x
  | .fld _ _ _ x => oT x
  | .iadr _ _ x i => oT x ++ oT i
  | .idx _ x i => oT x ++ oT i
  | .lkp _ _ x i _ => oT x ++ oT i
  | .mupd _ m k v => oT m ++ (oT k ++ oT v)
  | .mdel _ m k => oT m ++ oT k
  | .ment _ m k => oT m ++ oT k
  | .est m s v => oT m ++ (oT s ++ oT v)
  | .tass _ _ x _ => oT x
  | .ext x _ => oT x
  | .len _ x => oT x
  | .app _ _ _ s x => oT s ++ oT x
  | .cpy _ d s => oT d ++ oT s
  | .mnx _ xs => oTs xs
  | .call _ args => oTs args
  | .callv f args => oT f ++ oTs args
  | .bad _ => []
def gT : Option (Nat × Bool) → List Nat
  | none => []
  | some (t, _) => [t]
def dT : Option Nat → List Nat
  | none => []
  | some t => [t]
def aT (o : AOpr) : List Nat := dT o.dst ++ (gT o.guard ++ opT o.op)
def noneOf : List Nat → List Nat → Bool
  | [], _ => true
  | x :: l, m => match m.all fun y => !Nat.beq x y with
    | true => noneOf l m
    | false => false
def apartL (a : AOpr) (i : Nat) : List AOpr → Bool
  | [] => true
  | b :: l => match Nat.testBit b.pred i || (noneOf (dT a.dst) (aT b) && noneOf (dT b.dst) (aT a)) with
    | true => apartL a i l
    | false => false
def apartAll : List AOpr → Nat → Bool
  | [], _ => true
  | a :: l, i => match apartL a i l with
    | true => apartAll l (Nat.succ i)
    | false => false

def drawL (P : Program) (ops : Array Oper) : List AOpr := (ops.toList.zipIdx).map fun (o, i) => cOpr P ops (befA ops) i o
/-- what must hold of it -/
def drawOk (P : Program) (ops : Array Oper) : Bool :=
  apartAll (drawL P ops) 0 && ops.toList.zipIdx.all fun (o, i) => o.after.toList.all fun e => !Region.binds .any e || Nat.blt e.on i

def cCode (P : Program) : Code → ACode
  | .skip => .skip
  | .region _ ops draw => match draw with
    | false => .region ((ops.toList.zipIdx).map fun (o, i) => cOpr P ops #[] i o) false
    | true => match drawOk P ops with
      | true => .region (drawL P ops) true
      | false => .bad "draw"
  | .seq a b => .seq (cCode P a) (cCode P b)
  | .cond c a b => .cond (cOpd c) (cCode P a) (cCode P b)
  | .block id b => .block id (cCode P b)
  | .loop b => .loop (cCode P b)
  | .rangeFunc f ps a b => .rangeF (cOpd f) ps.toList (cCode P a) (cCode P b)
  | .exit id => .exit id
  | .ret => .ret
  | .scope _ => .bad "scope"
  | .label _ => .skip
  | .goto _ => .bad "goto"
  | .refuse w => .bad w

def cRes (P : Program) : ResultVar → ARes
  | .tmp t => .t t
  | .cell a ty => .cell a (P.cellsOf ty) ((P.underlying ty).any isAggD)

def allLt (n : Nat) : List Nat → Bool
  | [] => true
  | x :: l => Nat.blt x n && allLt n l
def dOkO (n : Nat) : List AOpr → Bool
  | [] => true
  | o :: l => (match o.dst with | none => true | some d => Nat.blt d n) && dOkO n l
/-- the temporaries that a code writes are there -/
def dOk (n : Nat) : ACode → Bool
  | .region ops _ => dOkO n ops
  | .seq a b => dOk n a && dOk n b
  | .cond _ a b => dOk n a && dOk n b
  | .block _ b => dOk n b
  | .loop b => dOk n b
  | .rangeF _ ps a b => allLt n ps && (dOk n a && dOk n b)
  | _ => true
def resOk (P : Program) : ResultVar → Bool
  | .tmp _ => true
  | .cell _ ty => (P.underlying ty).isSome

def cFunc (P : Program) (fn : Func) : Option AFunc :=
  fn.body.bind fun b => match dOk fn.ntmps (cCode P b) && fn.results.toList.all (resOk P) with
    | true => some ⟨cCode P b, fn.results.toList.map (cRes P)⟩
    | false => none

/-! run -/

def gt (t : T AV) (k : Nat) : AV := t.get (.tup []) k
def st (t : T AV) (k : Nat) (v : AV) : T AV := t.set (.tup []) k v

def evalO (tm : T AV) : Opd → AV
  | .t n => gt tm n
  | .c v => v
def evs (tm : T AV) (l : List Opd) : List AV :=
  @List.rec Opd (fun _ => List AV) [] (fun x _ ih => evalO tm x :: ih) l

def hidden (x : Nat) (l : List (Nat × Nat)) : Bool :=
  @List.rec (Nat × Nat) (fun _ => Bool) false
    (fun p _ ih => @Bool.rec (fun _ => Bool) ih (@Bool.rec (fun _ => Bool) ih true (Nat.blt x p.2)) (Nat.ble p.1 x)) l

def S.get (s : S) (x : Nat) : AObj := match s with
  | ⟨h, nx, _, hid⟩ => match hidden x hid with
    | true => .non
    | false => match Nat.blt x nx with
      | true => h.get .non x
      | false => .non
def mem (x : Nat) (l : List Nat) : Bool :=
  @List.rec Nat (fun _ => Bool) false (fun y _ ih => @Bool.rec (fun _ => Bool) ih true (Nat.beq x y)) l
def ins (x : Nat) (l : List Nat) : List Nat := match mem x l with
  | true => l
  | false => x :: l
def insAll : List Nat → List Nat → List Nat
  | [], l => l
  | x :: r, l => insAll r (ins x l)
/-- the names below a bound -/
def below (n : Nat) (l : List Nat) : List Nat :=
  @List.rec Nat (fun _ => List Nat) [] (fun x _ ih => @Bool.rec (fun _ => List Nat) ih (x :: ih) (Nat.blt x n)) l
def S.upd (s : S) (x : Nat) (o : AObj) : S := match s with
  | ⟨h, nx, ws, hid⟩ => ⟨h.set .non x o, nx, ins x ws, hid⟩

inductive Nx where
  | no
  | val (v : AV) (s : S)
  | call (f : Nat) (args : List AV)
  | yld (l : Nat) (args : List AV)

/-- a new block -/
def newB (s : S) (o : AObj) (k : Nat → AV) : Nx := match s with
  | ⟨h, nx, ws, hid⟩ => .val (k nx) ⟨h.set .non nx o, Nat.succ nx, ws, hid⟩

def valO (s : S) : Option AV → Nx
  | some v => .val v s
  | none => .no

/-- cells from a place on -/
def getN (c : T AV) (n : Nat) : Nat → List AV :=
  @Nat.rec (fun _ => Nat → List AV) (fun _ => []) (fun _ ih o => gt c o :: ih (Nat.succ o)) n
def setN (l : List AV) : Nat → T AV → T AV :=
  @List.rec AV (fun _ => Nat → T AV → T AV) (fun _ c => c) (fun v _ ih o c => ih (Nat.succ o) (st c o v)) l
def ofList (l : List AV) : T AV := setN l 0 .e

def loadN (s : S) (b o n : Nat) : Option (List AV) :=
  match s.get b with
  | .cells c m _ _ => match Nat.ble (Nat.add o n) m with
    | true => some (getN c n o)
    | false => none
  | _ => none
def load1 (s : S) (b o : Nat) : Option AV :=
  match s.get b with
  | .cells c m _ _ => match Nat.blt o m with
    | true => some (gt c o)
    | false => none
  | _ => none
/-- one cell's value? -/
def scal : AV → Bool
  | .agg _ => false
  | .tup _ => false
  | _ => true
def scals (l : List AV) : Bool := @List.rec AV (fun _ => Bool) true (fun v _ ih => @Bool.rec (fun _ => Bool) false ih (scal v)) l
def storeN (s : S) (b o : Nat) (vs : List AV) : Option S :=
  match s.get b with
  | .cells c m e p => match Nat.ble (Nat.add o vs.length) m with
    | true => match scals vs with
      | true => some (s.upd b (.cells (setN vs o c) m e p))
      | false => none
    | false => none
  | _ => none

def ile : Int → Int → Bool
  | .ofNat a => fun y => match y with
    | .ofNat b => Nat.ble a b
    | .negSucc _ => false
  | .negSucc a => fun y => match y with
    | .ofNat _ => true
    | .negSucc b => Nat.ble b a
def ilt (a b : Int) : Bool := match ile b a with
  | true => false
  | false => true
def ieq : Int → Int → Bool
  | .ofNat a => fun y => match y with
    | .ofNat b => Nat.beq a b
    | .negSucc _ => false
  | .negSucc a => fun y => match y with
    | .ofNat _ => false
    | .negSucc b => Nat.beq a b
def kmin : IntKind → Int
  | .i8 => .negSucc 127 | .i16 => .negSucc 32767 | .i32 => .negSucc 2147483647 | .i64 => .negSucc 9223372036854775807 | _ => .ofNat 0
def kmax : IntKind → Int
  | .i8 => .ofNat 127 | .i16 => .ofNat 32767 | .i32 => .ofNat 2147483647 | .i64 => .ofNat 9223372036854775807
  | .u8 => .ofNat 255 | .u16 => .ofNat 65535 | .u32 => .ofNat 4294967295 | .u64 => .ofNat 18446744073709551615
def kmod : IntKind → Nat
  | .i8 | .u8 => 256 | .i16 | .u16 => 65536 | .i32 | .u32 => 4294967296 | .i64 | .u64 => 18446744073709551616
def kno : IntKind → Nat
  | .i8 => 0 | .i16 => 1 | .i32 => 2 | .i64 => 3 | .u8 => 4 | .u16 => 5 | .u32 => 6 | .u64 => 7
def kEq (a b : IntKind) : Bool := Nat.beq (kno a) (kno b)
def isU : IntKind → Bool
  | .u8 | .u16 | .u32 | .u64 => true
  | _ => false
/-- an int of a kind -/
def wrN (k : IntKind) (x : Int) (u : Bool) : Int := match u with
  | true => match x with
    | .ofNat n => .ofNat (Nat.mod n (kmod k))
    | .negSucc n => match Nat.ble (Nat.succ n) (kmod k) with
      | true => .ofNat (Nat.sub (kmod k) (Nat.succ n))
      | false => k.wrap x
  | false => match ile (kmin k) x with
    | true => match ile x (kmax k) with
      | true => x
      | false => k.wrap x
    | false => k.wrap x
def wr (k : IntKind) (x : Int) : Int := wrN k x (isU k)
def full (k : IntKind) : AV := .rng k (kmin k) (kmax k)
def mkR (k : IntKind) (lo hi : Int) : AV := match ile (kmin k) lo with
  | true => match ile hi (kmax k) with
    | true => .rng k lo hi
    | false => full k
  | false => full k

def i0 : Int := .ofNat 0
def i1 : Int := .ofNat 1

abbrev F1 := IntKind → Int → Int → Option AV
abbrev F2 := IntKind → Int → Int → Int → Int → Option AV

def arith (f : F1) (g : F2) (x y : AV) : Option AV :=
  match x with
  | .int k a => match y with
    | .int k' b => match kEq k k' with
      | true => f k a b
      | false => none
    | .rng k' l h => match kEq k k' with
      | true => g k a a l h
      | false => none
    | _ => none
  | .rng k la ha => match y with
    | .int k' b => match kEq k k' with
      | true => g k la ha b b
      | false => none
    | .rng k' l h => match kEq k k' with
      | true => g k la ha l h
      | false => none
    | _ => none
  | _ => none

def fAdd : F1 := fun k a b => some (.int k (wr k (Int.add a b)))
def gAdd : F2 := fun k al ah bl bh => some (mkR k (Int.add al bl) (Int.add ah bh))
def fSub : F1 := fun k a b => some (.int k (wr k (Int.sub a b)))
def gSub : F2 := fun k al ah bl bh => some (mkR k (Int.sub al bh) (Int.sub ah bl))
def fMul : F1 := fun k a b => some (.int k (wr k (Int.mul a b)))
def gAny : F2 := fun k _ _ _ _ => some (full k)
def fQuo : F1 := fun k a b => match ieq b i0 with
  | true => none
  | false => some (.int k (wr k (Int.tdiv a b)))
def gQuo : F2 := fun k _ _ bl _ => match ilt i0 bl with
  | true => some (full k)
  | false => none
def fRem : F1 := fun k a b => match ieq b i0 with
  | true => none
  | false => some (.int k (Int.tmod a b))
def gRem : F2 := fun k al _ bl bh => match ilt i0 bl && ile i0 al with
  | true => some (.rng k i0 (Int.sub bh i1))
  | false => none
def kmaxN : IntKind → Nat
  | .i8 => 127 | .i16 => 32767 | .i32 => 2147483647 | .i64 => 9223372036854775807
  | .u8 => 255 | .u16 => 65535 | .u32 => 4294967295 | .u64 => 18446744073709551615
def kbits : IntKind → Nat
  | .i8 => 8 | .u8 => 8 | .i16 => 16 | .u16 => 16 | .i32 => 32 | .u32 => 32 | .i64 => 64 | .u64 => 64
def natF (f : Nat → Nat → Nat) : F1 := fun k a b => match a with
  | .ofNat m => match b with
    | .ofNat n => match Nat.ble m (kmaxN k) with
      | true => match Nat.ble n (kmaxN k) with
        | true => some (.int k (.ofNat (f m n)))
        | false => none
      | false => none
    | .negSucc _ => none
  | .negSucc _ => none
def fAnd : F1 := natF Nat.land
def gAnd : F2 := fun k _ _ bl bh => match ile i0 bl with
  | true => match ile bh (kmax k) with
    | true => some (.rng k i0 bh)
    | false => some (full k)
  | false => some (full k)
def fOr : F1 := natF Nat.lor
def fXor : F1 := natF Nat.xor
def fAndNot : F1 := natF fun m n => Nat.xor m (Nat.land m n)
def gBit : F2 := gAny

def boolO (b : Bool) : Option AV := some (.bool b)
def tri (a b : Bool) : Option AV := match a with
  | true => some (.bool true)
  | false => match b with
    | true => some (.bool false)
    | false => some .top
def fEql : F1 := fun _ a b => boolO (ieq a b)
def gEql : F2 := fun _ al ah bl bh => tri false (ilt ah bl || ilt bh al)
def fNeq : F1 := fun _ a b => boolO (!(ieq a b))
def gNeq : F2 := fun _ al ah bl bh => tri (ilt ah bl || ilt bh al) false
def fLss : F1 := fun _ a b => boolO (ilt a b)
def gLss : F2 := fun _ al ah bl bh => tri (ilt ah bl) (ile bh al)
def fLeq : F1 := fun _ a b => boolO (ile a b)
def gLeq : F2 := fun _ al ah bl bh => tri (ile ah bl) (ilt bh al)
def fGtr : F1 := fun _ a b => boolO (ilt b a)
def gGtr : F2 := fun _ al ah bl bh => tri (ilt bh al) (ile ah bl)
def fGeq : F1 := fun _ a b => boolO (ile b a)
def gGeq : F2 := fun _ al ah bl bh => tri (ile bh al) (ilt ah bl)

def fShl (k : IntKind) (a : Int) (m : Nat) : AV := .int k (wr k (Int.mul a (.ofNat (Nat.shiftLeft 1 m))))
def bShl (x y : AV) : Option AV := match y with
  | .int _ n => match n with
    | .ofNat m => match x with
      | .int k a => match Nat.ble m (kbits k) with
        | true => some (fShl k a m)
        | false => none
      | .rng k _ _ => some (full k)
      | _ => none
    | .negSucc _ => none
  | _ => none
def bShr (x y : AV) : Option AV := match y with
  | .int _ n => match n with
    | .ofNat m => match x with
      | .int k a => match a with
        | .ofNat x => match Nat.ble m (kbits k) with
          | true => some (.int k (.ofNat (Nat.shiftRight x m)))
          | false => none
        | .negSucc _ => none
      | .rng k l h => match ile i0 l with
        | true => some (.rng k i0 h)
        | false => none
      | _ => none
    | .negSucc _ => none
  | _ => none

def ltS : List Nat → List Nat → Bool
  | _, [] => false
  | [], _ :: _ => true
  | a :: x, b :: y => Nat.blt a b || (Nat.beq a b && ltS x y)
def eqS : List Nat → List Nat → Bool
  | [], [] => true
  | a :: x, b :: y => Nat.beq a b && eqS x y
  | _, _ => false

/-- two rows of ints -/
def eqIs : List AV → List AV → Option Bool
  | [], [] => some true
  | .int k a :: x, .int k' b :: y => match kEq k k' with
    | true => match ieq a b with
      | true => eqIs x y
      | false => some false
    | false => none
  | _, _ => none
/-- equality of two values of a kind; none: it can't be told -/
def eqW : EqK → AV → AV → Option Bool
  | .bool, .bool a, .bool b => some (a == b)
  | .ptr, .nil, .nil => some true
  | .ptr, .nil, .ptr _ _ => some false
  | .ptr, .ptr _ _, .nil => some false
  | .sl, .snil, .snil => some true
  | .sl, .snil, .sl .. => some false
  | .sl, .sl .., .snil => some false
  | .sl, .snil, .slo .. => some false
  | .sl, .slo .., .snil => some false
  | .map, .mnil, .mnil => some true
  | .map, .mnil, .map _ => some false
  | .map, .map _, .mnil => some false
  | .fn, .fnil, .fnil => some true
  | .fn, .fnil, .fn .. => some false
  | .fn, .fn .., .fnil => some false
  | .ifc, .inil, .inil => some true
  | .ifc, .inil, .ifc .. => some false
  | .ifc, .ifc .., .inil => some false
  | .arr n, .agg x, .agg y => match Nat.beq x.length n && Nat.beq y.length n with
    | true => eqIs x y
    | false => none
  | _, _, _ => none
/-- a key against a map's -/
def eqK : AV → AV → Option Bool
  | .agg x, .agg y => match Nat.beq x.length y.length with
    | true => eqIs x y
    | false => none
  | .str a, .str b => some (eqS a b)
  | .int k a, .int k' b => match kEq k k' with
    | true => some (ieq a b)
    | false => none
  | _, _ => none

def cmpV (f : F1) (g : F2) (h : List Nat → List Nat → Bool) (x y : AV) : Option AV :=
  match x with
  | .str a => match y with
    | .str b => boolO (h a b)
    | _ => none
  | x => arith f g x y
def bAdd (x y : AV) : Option AV := match x with
  | .str a => match y with
    | .str b => match Nat.ble (Nat.add a.length b.length) 1000000 with
      | true => some (.str (a ++ b))
      | false => none
    | _ => none
  | x => arith fAdd gAdd x y
def bNum (neg : Bool) (x y : AV) : Option AV := match neg with
  | false => cmpV fEql gEql eqS x y
  | true => cmpV fNeq gNeq (fun a b => !(eqS a b)) x y
def eqR (neg : Bool) (k : EqK) (x y : AV) : Option AV := match k with
  | .num => bNum neg x y
  | k => match eqW k x y with
    | some b => match neg with
      | false => boolO b
      | true => boolO (!b)
    | none => none

def binV : BinOp → AV → AV → Option AV
  | .add => bAdd
  | .sub => arith fSub gSub
  | .mul => arith fMul gAny
  | .quo => arith fQuo gQuo
  | .rem => arith fRem gRem
  | .and => arith fAnd gAnd
  | .or => arith fOr gBit
  | .xor => arith fXor gBit
  | .shl => bShl
  | .shr => bShr
  | .andNot => arith fAndNot gBit
  | .eql => fun _ _ => none
  | .neq => fun _ _ => none
  | .lss => cmpV fLss gLss ltS
  | .leq => cmpV fLeq gLeq fun a b => ltS a b || eqS a b
  | .gtr => cmpV fGtr gGtr fun a b => !(ltS a b || eqS a b)
  | .geq => cmpV fGeq gGeq fun a b => !ltS a b

def unV (op : UnOp) (x : AV) : Option AV :=
  match op, x with
  | .neg, .int k n => some (.int k (wr k (Int.sub i0 n)))
  | .neg, .rng k l h => some (mkR k (Int.sub i0 h) (Int.sub i0 l))
  | .not, .bool b => some (.bool !b)
  | .xor, .int k (.ofNat n) => match isU k && ile (.ofNat n) (kmax k) with | true => some (.int k (Int.sub (kmax k) (.ofNat n))) | false => none
  | .xor, .rng k _ _ => match isU k with | true => some (full k) | false => none
  | _, _ => none

def asNat : AV → Option Nat
  | .int _ n => match n with
    | .ofNat m => some m
    | .negSucc _ => none
  | _ => none

def bnd (d : Nat) : Option AV → Option Nat
  | none => some d
  | some v => asNat v

def hiOr (len : Nat) (hi mx : Option AV) : Option Nat := match hi with
  | some v => asNat v
  | none => match mx with
    | none => some len
    | some _ => none
def slBounds (lo hi mx : Option AV) (len cap : Nat) : Option (Nat × Nat × Nat) :=
  match bnd cap mx with
  | none => none
  | some m => match hiOr len hi mx with
    | none => none
    | some h => match bnd 0 lo with
      | none => none
      | some l => match Nat.ble m cap && Nat.ble h m && Nat.ble l h with
        | true => some (l, h, m)
        | false => none

def sameOr (m l o o' : Nat) : Nat := match Nat.beq m l with
  | true => o
  | false => o'

def slcV (k : SlK) (x : AV) (lo hi mx : Option AV) : Option AV :=
  match k, x with
  | .str, .str s => match mx with
    | some _ => none
    | none => match slBounds lo hi none s.length s.length with
      | some (l, h, _) => some (.str ((s.drop l).take (h - l)))
      | none => none
  | .sl esz, .sl b o len cap => match slBounds lo hi mx len cap with
    | some (l, h, m) => some (.sl b (sameOr m l o (o + l * esz)) (h - l) (m - l))
    | none => none
  | .sl esz, .slo b o len e => match Nat.beq esz e with
   | false => none
   | true => match mx with
    | some v => match slBounds lo hi (some v) len len with
      | some (l, h, m) => match Nat.beq m l with
        | true => none
        | false => some (.sl b (o + l * esz) (h - l) (m - l))
      | none => none
    | none => match slBounds lo hi none len len with
      | some (l, h, _) => match Nat.beq l len && !Nat.beq l 0 with
        | true => some .sle
        | false => some (.slo b (o + l * esz) (h - l) e)
      | none => none
  | .sl _, .snil => match slBounds lo hi mx 0 0 with
    | some _ => some .snil
    | none => none
  | .arr n esz, .ptr b o => match slBounds lo hi mx n n with
    | some (l, h, m) => some (.sl b (sameOr m l o (o + l * esz)) (h - l) (m - l))
    | none => none
  | _, _ => none

def lenV (s : S) : LenK → AV → Option Nat
  | .str => fun x => match x with
    | .str l => some l.length
    | _ => none
  | .arr n => fun _ => some n
  | .sl => fun x => match x with
    | .sl _ _ n _ => some n
    | .slo _ _ n _ => some n
    | .snil => some 0
    | .sle => some 0
    | _ => none
  | .map => fun x => match x with
    | .mnil => some 0
    | .map r => match s.get r with
      | .map es => some es.length
      | _ => none
    | _ => none

def lenOf : AV → Option Nat
  | .sl _ _ n _ => some n
  | .slo _ _ n _ => some n
  | .snil => some 0
  | .str l => some l.length
  | _ => none

/-- the first n elements of a slice or a text -/
def firstN (s : S) (esz n : Nat) : AV → Option (List AV)
  | .sl b o _ _ => loadN s b o (n * esz)
  | .slo b o _ _ => loadN s b o (n * esz)
  | .snil => some []
  | .str l => match Nat.beq esz 1 with
    | true => some ((l.take n).map fun c => .int .u8 (.ofNat c))
    | false => none
  | _ => none

def room : Nat := 1000000

def appNew (s : S) (elem esz n : Nat) (l : List AV) : Nx :=
  newB s (.cells (ofList l) l.length elem true) fun r => .slo r 0 n esz

def appV (s : S) (elem esz bytes : Nat) (x y : AV) : Nx :=
  match lenOf y with
  | none => .no
  | some n => match n with
    | 0 => match x with
      | .sl _ _ len cap => match Nat.ble len cap with
        | true => .val x s
        | false => .no
      | .slo .. => .val x s
      | .snil => .val x s
      | _ => .no
    | n + 1 => match firstN s esz (Nat.succ n) y with
      | none => .no
      | some new => match x with
        | .snil => match Nat.ble (Nat.mul (Nat.succ n) (Nat.succ bytes)) room with
          | true => appNew s elem esz (Nat.succ n) new
          | false => .no
        | .sl b o len cap => match Nat.ble (Nat.mul (Nat.add cap (Nat.add len (Nat.succ n))) (Nat.succ bytes)) room with
          | false => .no
          | true => match Nat.ble (Nat.add len (Nat.succ n)) cap with
            | true => match storeN s b (Nat.add o (Nat.mul len esz)) new with
              | some s => .val (.sl b o (Nat.add len (Nat.succ n)) cap) s
              | none => .no
            | false => match loadN s b o (Nat.mul len esz) with
              | some old => appNew s elem esz (Nat.add len (Nat.succ n)) (old ++ new)
              | none => .no
        | .slo b o len e => match Nat.ble (Nat.mul (Nat.add len (Nat.succ n)) (Nat.succ bytes)) room && Nat.beq e esz && scals new with
          | false => .no
          | true => match loadN s b o (Nat.mul len esz) with
            | some old => appNew (s.upd b .non) elem esz (Nat.add len (Nat.succ n)) (old ++ new)
            | none => .no
        | _ => .no

def cpyT (s : S) (esz : Nat) (b o n : Nat) (x : AV) : Nx :=
  match firstN s esz n x with
  | none => .no
  | some cs => match n with
    | 0 => .val (.int .i64 i0) s
    | n + 1 => match storeN s b o cs with
      | some s => .val (.int .i64 (.ofNat (Nat.succ n))) s
      | none => .no
def cpyV (s : S) (esz : Nat) (d x : AV) : Nx :=
  match lenOf x with
  | none => .no
  | some n => match d with
    | .sl b o len _ => cpyT s esz b o (Nat.min n len) x
    | .slo b o len _ => cpyT s esz b o (Nat.min n len) x
    | .snil => .val (.int .i64 i0) s
    | _ => .no

def findK (k : AV) : List (AV × AV) → Nat → Option (Option (Nat × AV))
  | [], _ => some none
  | (a, v) :: l, i => match eqK k a with
    | some true => some (some (i, v))
    | some false => findK k l (i + 1)
    | none => none

def allInt : List AV → Bool
  | [] => true
  | .int .. :: l => allInt l
  | _ => false
def keyOk (kk : KeyK) (v : AV) : Bool := match kk with
  | .num => match v with
    | .int .. => true
    | _ => false
  | .str => match v with
    | .str _ => true
    | _ => false
  | .arr n => match v with
    | .agg cs => match Nat.beq cs.length n with
      | true => allInt cs
      | false => false
    | _ => false

def fillP (tm : T AV) (tot : Nat) : List (Nat × Nat × Opd) → T AV → Option (T AV)
  | [], c => some c
  | (off, n, x) :: l, c => match Nat.beq (evalO tm x).cells.length n && Nat.ble (Nat.add off n) tot with
    | true => fillP tm tot l (setN (evalO tm x).cells off c)
    | false => none
def fillS (tm : T AV) (esz tot : Nat) : List (Nat × Opd) → T AV → Option (T AV)
  | [], c => some c
  | (j, x) :: l, c => match Nat.beq (evalO tm x).cells.length esz && Nat.ble (Nat.add (Nat.mul j esz) esz) tot with
    | true => fillS tm esz tot l (setN (evalO tm x).cells (Nat.mul j esz) c)
    | false => none

def rep (l : List AV) : Nat → List AV
  | 0 => []
  | n + 1 => l ++ rep l n

def partV (cs : List AV) (off n : Nat) (agg : Bool) : Option AV := match agg with
  | true => some (.agg ((cs.drop off).take n))
  | false => (cs.drop off).head?

def strOf : List AV → Option (List Nat)
  | [] => some []
  | .int .u8 (.ofNat n) :: l => match Nat.blt n 256 with
    | true => match strOf l with
      | some r => some (n :: r)
      | none => none
    | false => none
  | _ => none

def mnI (mx : Bool) (a b : Int) : Int := match mx with
  | true => match ilt a b with
    | true => b
    | false => a
  | false => match ilt b a with
    | true => b
    | false => a
def mnV (mx : Bool) : AV → List AV → Option AV
  | a, [] => some a
  | .int k a, .int _ b :: l => mnV mx (.int k (mnI mx a b)) l
  | _, _ => none

def rMov (x : Opd) (tm : T AV) (s : S) : Nx := .val (evalO tm x) s
def rPick (c a b : Opd) (tm : T AV) (s : S) : Nx := match evalO tm c with
  | .bool t => match t with
    | true => .val (evalO tm a) s
    | false => .val (evalO tm b) s
  | _ => .no
def rAlloc (e : Nat) (z : List AV) (_ : T AV) (s : S) : Nx := newB s (.cells (ofList z) z.length e false) fun r => .ptr r 0
def rBox (e : Nat) (x : Opd) (tm : T AV) (s : S) : Nx :=
  newB s (.cells (ofList (evalO tm x).cells) (evalO tm x).cells.length e false) fun r => .ptr r 0
def rBuild (z : List AV) (ps : List (Nat × Nat × Opd)) (tm : T AV) (s : S) : Nx :=
  match fillP tm z.length ps (ofList z) with
  | some c => .val (.agg (getN c z.length 0)) s
  | none => .no
def rBsl (e len esz : Nat) (z : List AV) (ps : List (Nat × Opd)) (tm : T AV) (s : S) : Nx :=
  match fillS tm esz (rep z len).length ps (ofList (rep z len)) with
  | some c => newB s (.cells c (rep z len).length e false) fun r => .sl r 0 len len
  | none => .no
def rLoad (n : Nat) (agg : Bool) (x : Opd) (tm : T AV) (s : S) : Nx := match evalO tm x with
  | .ptr b o => match agg with
    | true => match loadN s b o n with
      | some cs => .val (.agg cs) s
      | none => .no
    | false => valO s (load1 s b o)
  | _ => .no
def rStore (n : Nat) (x v : Opd) (tm : T AV) (s : S) : Nx := match evalO tm x with
  | .ptr b o => match Nat.beq (evalO tm v).cells.length n with
    | true => match storeN s b o (evalO tm v).cells with
      | some s => .val (.tup []) s
      | none => .no
    | false => .no
  | _ => .no
def rNilck (x : Opd) (tm : T AV) (s : S) : Nx := match evalO tm x with
  | .ptr b o => .val (.ptr b o) s
  | .fn f a b => .val (.fn f a b) s
  | .ifc t v => .val (.ifc t v) s
  | _ => .no
def rBin (op : BinOp) (x y : Opd) (tm : T AV) (s : S) : Nx := valO s (binV op (evalO tm x) (evalO tm y))
def rEq (neg : Bool) (k : EqK) (x y : Opd) (tm : T AV) (s : S) : Nx := valO s (eqR neg k (evalO tm x) (evalO tm y))
def rUn (op : UnOp) (x : Opd) (tm : T AV) (s : S) : Nx := valO s (unV op (evalO tm x))
def rCvI (k : IntKind) (x : Opd) (tm : T AV) (s : S) : Nx := match evalO tm x with
  | .int _ n => .val (.int k (wr k n)) s
  | .rng _ l h => .val (mkR k l h) s
  | _ => .no
def rCvSB (e : Nat) (x : Opd) (tm : T AV) (s : S) : Nx := match evalO tm x with
  | .str l => newB s (.cells (ofList (l.map fun c => AV.int .u8 (.ofNat c))) l.length e true) fun r => .slo r 0 l.length 1
  | _ => .no
def rCvBS (x : Opd) (tm : T AV) (s : S) : Nx :=
  let go (b o n : Nat) : Nx := match loadN s b o n with
    | some cs => match strOf cs with
      | some l => .val (.str l) s
      | none => .no
    | none => .no
  match evalO tm x with
  | .snil => .val (.str []) s
  | .sl b o n _ => go b o n
  | .slo b o n _ => go b o n
  | _ => .no
def rCvSS (x : Opd) (tm : T AV) (s : S) : Nx := match evalO tm x with
  | .str l => .val (.str l) s
  | _ => .no
def rCvLL (x : Opd) (tm : T AV) (s : S) : Nx := match evalO tm x with
  | .sl b o n c => match s.get b with
    | .cells ct m e p => .val (.sl b o n c) (s.upd b (.cells ct m e p))
    | _ => .no
  | .slo b o n z => match s.get b with
    | .cells ct m e p => .val (.slo b o n z) (s.upd b (.cells ct m e p))
    | _ => .no
  | _ => .no
def rS2ap (n : Nat) (x : Opd) (tm : T AV) (s : S) : Nx := match evalO tm x with
  | .sl b o len _ => match Nat.ble n len with
    | true => .val (.ptr b o) s
    | false => .no
  | .slo b o len _ => match Nat.ble n len with
    | true => .val (.ptr b o) s
    | false => .no
  | _ => .no
def rMkI (t : Nat) (x : Opd) (tm : T AV) (s : S) : Nx := .val (.ifc t (evalO tm x)) s
def rMkF (f : Nat) (a b : List Opd) (tm : T AV) (s : S) : Nx := .val (.fn f (evs tm a) (evs tm b)) s
def rMkM (_ : T AV) (s : S) : Nx := newB s (.map []) fun r => .map r
def rMkS (e _esz bytes : Nat) (z : List AV) (l c : Opd) (tm : T AV) (s : S) : Nx :=
  match asNat (evalO tm l), asNat (evalO tm c) with
  | some l, some c => match Nat.ble l c && Nat.ble (Nat.mul c (Nat.succ bytes)) room with
    | true => newB s (.cells (ofList (rep z c)) (rep z c).length e false) fun r => .sl r 0 l c
    | false => .no
  | _, _ => .no
def rSlc (k : SlK) (x : Opd) (lo hi mx : Option Opd) (tm : T AV) (s : S) : Nx :=
  valO s (slcV k (evalO tm x) (lo.map (evalO tm)) (hi.map (evalO tm)) (mx.map (evalO tm)))
def rFadr (off : Nat) (x : Opd) (tm : T AV) (s : S) : Nx := match evalO tm x with
  | .ptr b o => .val (.ptr b (Nat.add o off)) s
  | _ => .no
def rFld (off n : Nat) (agg : Bool) (x : Opd) (tm : T AV) (s : S) : Nx := match evalO tm x with
  | .agg cs => valO s (partV cs off n agg)
  | _ => .no
def rIadr (arr : Option Nat) (esz : Nat) (x i : Opd) (tm : T AV) (s : S) : Nx :=
  let go (b o i n : Nat) : Nx := match Nat.blt i n with
    | true => .val (.ptr b (Nat.add o (Nat.mul i esz))) s
    | false => .no
  match asNat (evalO tm i) with
  | none => .no
  | some i => match arr with
    | some n => match evalO tm x with
      | .ptr b o => go b o i n
      | _ => .no
    | none => match evalO tm x with
      | .sl b o len _ => go b o i len
      | .slo b o len _ => go b o i len
      | _ => .no
def rIdx (k : IxK) (x i : Opd) (tm : T AV) (s : S) : Nx :=
  match asNat (evalO tm i) with
  | none => .no
  | some i => match k with
    | .str => match evalO tm x with
      | .str l => match (l.drop i).head? with
        | some c => .val (.int .u8 (.ofNat c)) s
        | none => .no
      | _ => .no
    | .arr n esz agg => match evalO tm x with
      | .agg cs => match Nat.blt i n with
        | true => valO s (partV cs (Nat.mul i esz) esz agg)
        | false => .no
      | _ => .no
def lkpR (ok : Bool) (s : S) (v : AV) (is : Bool) : Nx := match ok with
  | true => .val (.tup [v, .bool is]) s
  | false => .val v s
def rLkp (kk : KeyK) (z : AV) (x i : Opd) (ok : Bool) (tm : T AV) (s : S) : Nx :=
  let k := evalO tm i
  let go (es : List (AV × AV)) : Nx := match findK k es 0 with
    | some (some (_, v)) => lkpR ok s v true
    | some none => lkpR ok s z false
    | none => .no
  match keyOk kk k with
  | false => .no
  | true => match evalO tm x with
    | .mnil => go []
    | .map r => match s.get r with
      | .map es => go es
      | _ => .no
    | _ => .no
def setV (v : AV) : List (AV × AV) → Nat → List (AV × AV)
  | [], _ => []
  | e :: l, 0 => (e.1, v) :: l
  | e :: l, i + 1 => e :: setV v l i
def delV : List (AV × AV) → Nat → List (AV × AV)
  | [], _ => []
  | _ :: l, 0 => l
  | e :: l, i + 1 => e :: delV l i
def rMupd (kk : KeyK) (m k v : Opd) (tm : T AV) (s : S) : Nx := match evalO tm m with
  | .map r => match s.get r with
    | .map es => match keyOk kk (evalO tm k) with
      | false => .no
      | true => match findK (evalO tm k) es 0 with
        | some (some (i, _)) => .val (.tup []) (s.upd r (.map (setV (evalO tm v) es i)))
        | some none => .val (.tup []) (s.upd r (.map (es ++ [(evalO tm k, evalO tm v)])))
        | none => .no
    | _ => .no
  | _ => .no
def rMdel (kk : KeyK) (m k : Opd) (tm : T AV) (s : S) : Nx := match evalO tm m with
  | .map r => match s.get r with
    | .map es => match keyOk kk (evalO tm k) with
      | false => .no
      | true => match findK (evalO tm k) es 0 with
        | some (some (i, _)) => .val (.tup []) (s.upd r (.map (delV es i)))
        | some none => .val (.tup []) s
        | none => .no
    | _ => .no
  | _ => .no
def rTass (t : Nat) (z : AV) (x : Opd) (ok : Bool) (tm : T AV) (s : S) : Nx := match evalO tm x with
  | .inil => match ok with
    | true => .val (.tup [z, .bool false]) s
    | false => .no
  | .ifc t' v => match Nat.beq t t' with
    | true => lkpR ok s v true
    | false => match ok with
      | true => .val (.tup [z, .bool false]) s
      | false => .no
  | _ => .no
def rExt (x : Opd) (i : Nat) (tm : T AV) (s : S) : Nx := match evalO tm x with
  | .tup vs => valO s (vs.drop i).head?
  | _ => .no
def rLen (k : LenK) (x : Opd) (tm : T AV) (s : S) : Nx := match lenV s k (evalO tm x) with
  | some n => .val (.int .i64 (.ofNat n)) s
  | none => .no
def rApp (e esz bytes : Nat) (x y : Opd) (tm : T AV) (s : S) : Nx := appV s e esz bytes (evalO tm x) (evalO tm y)
def rCpy (esz : Nat) (d x : Opd) (tm : T AV) (s : S) : Nx := cpyV s esz (evalO tm d) (evalO tm x)
def rMnx (mx : Bool) (xs : List Opd) (tm : T AV) (s : S) : Nx := match evs tm xs with
  | a :: l => valO s (mnV mx a l)
  | [] => .no
def rCall (f : Nat) (args : List Opd) (tm : T AV) (_ : S) : Nx := .call f (evs tm args)
def rCallv (f : Opd) (args : List Opd) (tm : T AV) (_ : S) : Nx := match evalO tm f with
  | .fn f first caps => .call f (first ++ evs tm args ++ caps)
  | .yld l => .yld l (evs tm args)
  | _ => .no
def rNo (_ : T AV) (_ : S) : Nx := .no

def runOp : AOp → T AV → S → Nx
  | .mov x => rMov x
  | .pick c a b => rPick c a b
  | .alloc e z => rAlloc e z
  | .box e x => rBox e x
  | .build z ps => rBuild z ps
  | .bsl e len esz z ps => rBsl e len esz z ps
  | .load n agg x => rLoad n agg x
  | .store n x v => rStore n x v
  | .nilck x => rNilck x
  | .bin op x y => rBin op x y
  | .eq n k x y => rEq n k x y
  | .un op x => rUn op x
  | .cvI k x => rCvI k x
  | .cvSB e x => rCvSB e x
  | .cvBS x => rCvBS x
  | .cvSS x => rCvSS x
  | .cvLL x => rCvLL x
  | .s2ap n x => rS2ap n x
  | .mkI t x => rMkI t x
  | .mkF f a b => rMkF f a b
  | .mkM => rMkM
  | .mkS e esz bytes z l c => rMkS e esz bytes z l c
  | .slc k x lo hi mx => rSlc k x lo hi mx
  | .fadr off x => rFadr off x
  | .fld off n agg x => rFld off n agg x
  | .iadr arr esz x i => rIadr arr esz x i
  | .idx k x i => rIdx k x i
  | .lkp kk z x i ok => rLkp kk z x i ok
  | .mupd kk m k v => rMupd kk m k v
  | .mdel kk m k => rMdel kk m k
  | .ment _ _ _ => rNo
  | .est _ _ _ => rNo
  | .tass t z x ok => rTass t z x ok
  | .ext x i => rExt x i
  | .len k x => rLen k x
  | .app e esz bytes x y => rApp e esz bytes x y
  | .cpy esz d x => rCpy esz d x
  | .mnx mx xs => rMnx mx xs
  | .call f args => rCall f args
  | .callv f args => rCallv f args
  | .bad _ => rNo

inductive RT where
  | no
  | ok (tm : T AV) (s : S)
inductive RX where
  | no
  | norm (tm : T AV) (s : S)
  | exit (id : Nat) (tm : T AV) (s : S)
  | ret (tm : T AV) (s : S)
inductive RV where
  | no
  | ok (v : AV) (s : S)

abbrev Prim := List AV → S → RV

structure Env where
  fns : T (Option AFunc)
  prim : Nat → Option Prim

structure Rec where
  exec : ACode → T AV → S → RX
  call : Nat → List AV → S → RV
  round : Nat → List AV → S → RV

def putD (d : Option Nat) (tm : T AV) (v : AV) : T AV := match d with
  | some d => st tm d v
  | none => tm

/-- what an operation has done in a region: its place, its predecessors, which older blocks it wrote, which it touched (none: it can't be told) -/
structure Log where
  i : Nat
  pred : Nat
  dirty : List Nat
  rd : Option (List Nat)

def blkOf : AV → List Nat
  | .ptr b _ => [b]
  | .sl b _ _ _ => [b]
  | .slo b _ _ _ => [b]
  | .map b => [b]
  | _ => []

/-- the blocks that an operation that is no call touches -/
def touches (tm : T AV) : AOp → Option (List Nat)
  | .load _ _ x => some (blkOf (evalO tm x))
  | .cvBS x => some (blkOf (evalO tm x))
  | .cvLL x => some (blkOf (evalO tm x))
  | .len .map x => some (blkOf (evalO tm x))
  | .store _ x _ => some (blkOf (evalO tm x))
  | .lkp _ _ x _ _ => some (blkOf (evalO tm x))
  | .mupd _ x _ _ => some (blkOf (evalO tm x))
  | .mdel _ x _ => some (blkOf (evalO tm x))
  | .app _ _ _ x y => some (blkOf (evalO tm x) ++ blkOf (evalO tm y))
  | .cpy _ x y => some (blkOf (evalO tm x) ++ blkOf (evalO tm y))
  | .call .. => none
  | .callv .. => none
  | .bad _ => none
  | .ment .. => none
  | .est .. => none
  | _ => some []

def disj : List Nat → List Nat → Bool
  | [], _ => true
  | x :: l, m => match mem x m with
    | true => false
    | false => disj l m

def clear (d : List Nat) (r : Option (List Nat)) : Bool := match d with
  | [] => true
  | x :: d => match r with
    | some r => disj (x :: d) r
    | none => false

/-- do two not disturb each other? -/
def calm (a b : Log) : Bool := match Nat.testBit a.pred b.i with
  | true => true
  | false => match Nat.testBit b.pred a.i with
    | true => true
    | false => match clear a.dirty b.rd with
      | true => clear b.dirty a.rd
      | false => false

def calmAll (a : Log) : List Log → Bool
  | [] => true
  | b :: l => match calm a b with
    | true => calmAll a l
    | false => false
def calmEach : List Log → Bool
  | [] => true
  | a :: l => match calmAll a l with
    | true => calmEach l
    | false => false

/-- which earlier operations' new names must an operation not see? -/
def hides (pred : Nat) : List (Nat × Nat × Nat) → List (Nat × Nat)
  | [] => []
  | (i, lo, hi) :: l => match Nat.testBit pred i with
    | true => hides pred l
    | false => (lo, hi) :: hides pred l

def wanted (g : Option (Nat × Bool)) (tm : T AV) : Option Bool := match g with
  | none => some true
  | some (t, w) => match gt tm t with
    | .bool b => match b with
      | true => some w
      | false => some (!w)
    | .tup l => match l with
      | [] => some false
      | _ :: _ => none
    | _ => none

def op1 (r : Rec) (o : AOpr) (tm : T AV) (s : S) : RT := match o with
  | ⟨dst, op, g, _, _⟩ => match wanted g tm with
    | none => .no
    | some w => match w with
      | false => .ok (putD dst tm (.tup [])) s
      | true => match runOp op tm s with
        | .no => .no
        | .val v s => .ok (putD dst tm v) s
        | .call f args => match r.call f args s with
          | .no => .no
          | .ok v s => .ok (putD dst tm v) s
        | .yld l args => match r.round l args s with
          | .no => .no
          | .ok v s => .ok (putD dst tm v) s

def ops1 (r : Rec) (l : List AOpr) : T AV → S → RT :=
  @List.rec AOpr (fun _ => T AV → S → RT) (fun tm s => .ok tm s)
    (fun o _ ih tm s => @RT.rec (fun _ => RT) .no ih (op1 r o tm s)) l

def opsEnd (any : Bool) (ls : List Log) (tm : T AV) (s : S) : RT := match any with
  | false => .ok tm s
  | true => match calmEach ls with
    | true => .ok tm s
    | false => .no

/-- a region in any order: i: the place; al: which operations made new names; ls: what was done; any: has any written an older block? -/
def opsD (r : Rec) (l : List AOpr) : Nat → List (Nat × Nat × Nat) → List Log → Bool → T AV → S → RT :=
  @List.rec AOpr (fun _ => Nat → List (Nat × Nat × Nat) → List Log → Bool → T AV → S → RT) (fun _ _ ls any tm s => opsEnd any ls tm s)
    (fun o _ ih i al ls any tm s => match s with
    | ⟨h, n0, ws, hid⟩ => match op1 r o tm ⟨h, n0, [], hides o.pred al ++ hid⟩ with
      | .no => .no
      | .ok tm' ⟨h', n1, ws', _⟩ =>
        match below n0 ws' with
        | [] => ih (Nat.succ i) (match Nat.beq n0 n1 with | true => al | false => (i, n0, n1) :: al)
            (match o.mem with | true => ⟨i, o.pred, [], touches tm o.op⟩ :: ls | false => ls) any tm' ⟨h', n1, ws, hid⟩
        | x :: d => ih (Nat.succ i) (match Nat.beq n0 n1 with | true => al | false => (i, n0, n1) :: al)
            (⟨i, o.pred, x :: d, touches tm o.op⟩ :: ls) true tm' ⟨h', n1, insAll (x :: d) ws, hid⟩) l

def xReg (r : Rec) (ops : List AOpr) (draw : Bool) (tm : T AV) (s : S) : RX := match draw with
  | false => match ops1 r ops tm s with
    | .no => .no
    | .ok tm s => .norm tm s
  | true => match opsD r ops 0 [] [] false tm s with
    | .no => .no
    | .ok tm s => .norm tm s

/-- no range over a function within -/
def flat (c : ACode) : Bool :=
  @ACode.rec (fun _ => Bool) true (fun _ _ => true) (fun _ _ ia ib => ia && ib) (fun _ _ _ ia ib => ia && ib) (fun _ _ ib => ib) (fun _ ib => ib)
    (fun _ _ _ _ _ _ => false) (fun _ => true) true (fun _ => true) c

def xRange (r : Rec) (x : Opd) (ps : List Nat) (asg body : ACode) (tm : T AV) (s : S) : RX :=
  match evalO tm x with
  | .fn g first caps => match flat asg && flat body with
    | false => .no
    | true => match s with
      | ⟨h, n, ws, hid⟩ => match r.call g (first ++ [.yld n] ++ caps) ⟨h.set .non n (.loop tm ps asg body 0 none), Nat.succ n, ws, hid⟩ with
        | .no => .no
        | .ok _ s => match s.get n with
          | .loop _ _ _ _ st pend => match Nat.beq st 1 with
            | true => .no
            | false => match pend with
              | none => .norm tm (s.upd n .non)
              | some c => match c with
                | .exit id => .exit id tm (s.upd n .non)
                | .ret => .ret tm (s.upd n .non)
                | _ => .no
          | _ => .no
  | _ => .no

def xSeq (a b : T AV → S → RX) (tm : T AV) (s : S) : RX :=
  @RX.rec (fun _ => RX) .no b .exit .ret (a tm s)
def xCond (x : Opd) (a b : T AV → S → RX) (tm : T AV) (s : S) : RX := match evalO tm x with
  | .bool t => @Bool.rec (fun _ => RX) (b tm s) (a tm s) t
  | _ => .no
def xBlock (id : Nat) (b : T AV → S → RX) (tm : T AV) (s : S) : RX :=
  @RX.rec (fun _ => RX) .no .norm (fun i tm s => @Bool.rec (fun _ => RX) (.exit i tm s) (.norm tm s) (Nat.beq i id)) .ret (b tm s)
def xNo (_ : T AV) (_ : S) : RX := .no

def execF (r : Rec) (c : ACode) : T AV → S → RX :=
  @ACode.rec (fun _ => T AV → S → RX)
    RX.norm
    (fun ops d => xReg r ops d)
    (fun _ _ ia ib => xSeq ia ib)
    (fun x _ _ ia ib => xCond x ia ib)
    (fun id _ ib => xBlock id ib)
    (fun b ib => xSeq ib (r.exec (.loop b)))
    (fun x ps asg body _ _ => xRange r x ps asg body)
    RX.exit
    RX.ret
    (fun _ => xNo)
    c

def res1 (tm : T AV) (s : S) : ARes → Option AV
  | .t n => some (gt tm n)
  | .cell a n agg => match gt tm a with
    | .ptr b o => match agg with
      | true => match loadN s b o n with
        | some cs => some (.agg cs)
        | none => none
      | false => load1 s b o
    | _ => none
def resV (tm : T AV) (s : S) : List ARes → Option (List AV)
  | [] => some []
  | x :: l => match res1 tm s x with
    | none => none
    | some v => match resV tm s l with
      | none => none
      | some vs => some (v :: vs)
def oneV : List AV → AV
  | [] => .tup []
  | v :: l => match l with
    | [] => v
    | w :: l => .tup (v :: w :: l)
def setPs : List Nat → List AV → T AV → T AV
  | [], _, tm => tm
  | p :: ps, vs, tm => match vs with
    | [] => tm
    | v :: vs => setPs ps vs (st tm p v)

def retV (n0 : Nat) (rs : List ARes) (tm : T AV) (s : S) : RV := match resV tm s rs with
  | none => .no
  | some vs => match s with
    | ⟨h, nx, ws, hid⟩ => .ok (oneV vs) ⟨h, nx, below n0 ws, hid⟩

def callF (E : Env) (r : Rec) (g : Nat) (args : List AV) (s : S) : RV := match E.prim g with
  | some p => p args s
  | none => match E.fns.get none g with
    | none => .no
    | some ⟨body, rs⟩ => match execF r body (setN args 0 .e) s with
      | .no => .no
      | .norm tm s' => retV s.nx rs tm s'
      | .exit _ _ _ => .no
      | .ret tm s' => retV s.nx rs tm s'

def endR (l : Nat) (b : Bool) (n : Nat) (pend : Option ACode) (s : S) : RV := match s.get l with
  | .loop tm ps asg body _ _ => .ok (.bool b) (s.upd l (.loop tm ps asg body n pend))
  | _ => .no
def bodyR (r : Rec) (l : Nat) (body : ACode) (tm : T AV) (s : S) : RV := match execF r body tm s with
  | .no => .no
  | .norm _ s => endR l true 0 none s
  | .exit id _ s => endR l false 2 (some (.exit id)) s
  | .ret _ s => endR l false 2 (some .ret) s
def begR (r : Rec) (l : Nat) (body : ACode) (tm : T AV) (s : S) : RV := match s.get l with
  | .loop tm0 ps asg body0 n pend => match n with
    | 0 => bodyR r l body tm (s.upd l (.loop tm0 ps asg body0 1 pend))
    | _ + 1 => .no
  | _ => .no
def roundF (r : Rec) (l : Nat) (args : List AV) (s : S) : RV := match s.get l with
  | .loop tm ps asg body _ _ => match Nat.beq ps.length args.length with
    | false => .no
    | true => match execF r asg (setPs ps args tm) s with
      | .norm tm' s => begR r l body tm' s
      | _ => .no
  | _ => .no

def vm (E : Env) (n : Nat) : Rec :=
  @Nat.rec (fun _ => Rec) ⟨fun _ _ _ => .no, fun _ _ _ => .no, fun _ _ _ => .no⟩
    (fun _ r => ⟨execF r, callF E r, roundF r⟩) n

end
end Go.VM

