/- The translation of the loaded code into the abstract interpreter's code. No condition. -/
import Derived.Test.YtfpknphncaopkaaDoorEn1
namespace Go.Eng
open Go

def ofC : Value → Option AV
  | .bool b => some (.bool b)
  | .int k n => some (.int k n)
  | .string s => some (.str s.data.toList)
  | .pointer none => some (.cst (.pointer none))
  | .slice none 0 0 => some (.cst (.slice none 0 0))
  | .map none => some (.cst (.map none))
  | .nilFunc => some (.cst .nilFunc)
  | .nilIface => some (.cst .nilIface)
  | _ => none

def mapOpt {α β : Type} (f : α → Option β) : List α → Option (List β)
  | [] => some []
  | a :: as => match f a with
    | some b => match mapOpt f as with
      | some bs => some (b :: bs)
      | none => none
    | none => none

def ofV : Value → Option AV
  | .agg cs => (mapOpt ofC cs.toList).map .agg
  | v => ofC v

def sizeO (P : Program) (t : TypeId) : Option Nat := (P.info? t).map (·.size)
def zeroO (P : Program) (t : TypeId) : Option (List AV) := match (P.info? t).bind (·.zero) with
  | some z => mapOpt ofC z.cells.toList
  | none => none
/-- 'some none': one cell; 'some (some n)': an aggregate of n cells. -/
def aggO (P : Program) (t : TypeId) : Option (Option Nat) := match P.underlying t with
  | some (.struct _) | some (.array _ _) => (sizeO P t).map some
  | some _ => some none
  | none => none

def trOpd : Operand → Option Opd
  | .tmp t => some (.t t)
  | .const v => (ofV v).map .k
  | .global g => some (.g g)
  | .func f => some (.fn f)

def trOpdO : Option Operand → Option (Option Opd)
  | none => some none
  | some x => (trOpd x).map some

def eqField (P : Program) (g : TypeId → Option EqT) (f : Field) : Option (Nat × EqT) :=
  if f.name == "_" then none else match aggO P f.type with
    | some none => (g f.type).map fun q => (f.offset, q)
    | _ => none

def eqtO (P : Program) : Nat → TypeId → Option EqT
  | 0, _ => none
  | d + 1, t => match P.underlying t with
    | some .bool => some .bool
    | some (.int _) => some .int
    | some .string => some .str
    | some (.interface _) => some .iface
    | some (.slice _) => some .nsl
    | some (.func ..) => some .nfn
    | some (.pointer _) => some .nptr
    | some (.struct fs) => if P.stoodInHeld t then none else
      (mapOpt (eqField P (eqtO P d)) fs.toList).map .struct
    | _ => none

def isK : Operand → Bool
  | .const _ => true
  | _ => false

def noGuard (P : Program) (t : TypeId) : Bool := match P.underlying t with
  | some (.struct _) | some (.array _ _) => !(P.eqGuardType P.depth t)
  | _ => true

def trOp (P : Program) : Op → Option AOp
  | .move x | .assign x => (trOpd x).map .mv
  | .pick c a b => match trOpd c, trOpd a, trOpd b with
    | some c, some a, some b => some (.pick c a b)
    | _, _, _ => none
  | .alloc t => (zeroO P t).map .alloc
  | .box _ x => (trOpd x).map .box
  | .build t parts => match zeroO P t, P.underlying t with
    | some z, some (.struct fs) => if fs.toList.all (fun f => (sizeO P f.type).isSome) = true then (mapOpt (fun (p : Nat × Operand) => match fs[p.1]?, trOpd p.2 with
        | some f, some x => (sizeO P f.type).map fun s => (f.offset, s, x)
        | _, _ => none) parts.toList).map (.build z) else none
    | some z, some (.array _ e) => match sizeO P e with
      | some s => (mapOpt (fun (p : Nat × Operand) => (trOpd p.2).map fun x => (p.1 * s, s, x)) parts.toList).map (.build z)
      | none => none
    | _, _ => none
  | .buildSlice t len parts => match P.underlying t with
    | some (.slice e) => match zeroO P e, sizeO P e with
      | some z, some s => if len * s ≤ 65536 ∧ z.length = s then (mapOpt (fun (p : Nat × Operand) => (trOpd p.2).map fun x => (p.1 * s, s, x)) parts.toList).map (.lit len s z) else none
      | _, _ => none
    | _ => none
  | .load t a => match aggO P t, trOpd a with
    | some n, some a => some (.load n a)
    | _, _ => none
  | .store t a x => match sizeO P t, trOpd a, trOpd x with
    | some n, some a, some x => some (.store n a x)
    | _, _, _ => none
  | .nilCheck x => (trOpd x).map .nilCheck
  | .binOp op t x y _ => match trOpd x, trOpd y with
    | some a, some b => match op with
      | .eql | .neq => match eqtO P 9 t with
        | some q => if noGuard P t then some (.bin op q (isK x || isK y) a b) else none
        | none => none
      | _ => some (.bin op .bool false a b)
    | _, _ => none
  | .unOp op _ x => (trOpd x).map (.un op)
  | .convert s d x => match P.underlying s, P.underlying d, trOpd x with
    | some (.int _), some (.int k), some x => some (.conv (.int k) x)
    | some .string, some (.slice e), some x => match P.underlying e with
      | some (.int .u8) => some (.conv .toBytes x)
      | _ => none
    | some (.slice e), some .string, some x => match P.underlying e, sizeO P e with
      | some (.int .u8), some 1 => some (.conv .ofBytes x)
      | _, _ => none
    | some .string, some .string, some x => some (.conv .same x)
    | _, _, _ => none
  | .makeInterface t x => match P.underlying t, trOpd x with
    | some (.interface _), _ => none
    | some _, some x => some (.mkIface t x)
    | _, _ => none
  | .makeFunc f a c => match mapOpt trOpd a.toList, mapOpt trOpd c.toList with
    | some a, some c => some (.mkFunc f a c)
    | _, _ => none
  | .makeSlice t l c => match P.underlying t with
    | some (.slice e) => match P.info? e, zeroO P e, trOpd l, trOpd c with
      | some i, some z, some l, some c => if z.length = i.size ∧ i.size ≠ 0 then some (.mkSlice i.size i.bytes z l c) else none
      | _, _, _, _ => none
    | _ => none
  | .slice t x lo hi mx => match trOpd x, trOpdO lo, trOpdO hi, trOpdO mx with
    | some x, some lo, some hi, some mx => match P.underlying t with
      | some .string => some (.slice .str x lo hi mx)
      | some (.slice e) => (sizeO P e).map fun s => .slice (.sl s) x lo hi mx
      | some (.array n e) => (sizeO P e).map fun s => .slice (.arr n s) x lo hi mx
      | some (.pointer arr) => match P.underlying arr with
        | some (.array n e) => (sizeO P e).map fun s => .slice (.arr n s) x lo hi mx
        | _ => none
      | _ => none
    | _, _, _, _ => none
  | .fieldAddr s x f => match P.underlying s, trOpd x with
    | some (.struct fs), some x => match fs[f]? with
      | some f => match sizeO P f.type with
        | some (_ + 1) => some (.faddr f.offset x)
        | _ => none
      | none => none
    | _, _ => none
  | .field s x f => match P.underlying s, trOpd x with
    | some (.struct fs), some x => match fs[f]? with
      | some f => (aggO P f.type).map fun n => .field f.offset n x
      | none => none
    | _, _ => none
  | .indexAddr t x i => match trOpd x, trOpd i with
    | some x, some i => match P.underlying t with
      | some (.array n e) => (sizeO P e).map fun s => .iaddr (some n) s x i
      | some (.slice e) => match sizeO P e with
        | some (s + 1) => some (.iaddr none (s + 1) x i)
        | _ => none
      | _ => none
    | _, _ => none
  | .index t x i => match trOpd x, trOpd i with
    | some x, some i => match P.underlying t with
      | some .string => some (.idxS x i)
      | some (.array n e) => match sizeO P e, aggO P e with
        | some s, some a => some (.idxA n s a x i)
        | _, _ => none
      | _ => none
    | _, _ => none
  | .extract x k => (trOpd x).map fun x => .extract x k
  | .typeAssert x _ t ok => match trOpd x, P.underlying t with
    | some x, some (.interface _) => match (P.info? t).bind (·.zero) with
      | some .nilIface => some (.tassert x (.ifc t) ok)
      | _ => none
    | some x, some _ => match (P.info? t).bind (·.zero) with
      | some z => (ofV z).map fun z => .tassert x (.conc t z) ok
      | none => none
    | _, _ => none
  | .call c => match mapOpt trOpd c.args.toList with
    | none => none
    | some args => match c.callee with
      | .value f => (trOpd f).map fun f => .call f args
      | .invoke x m => (trOpd x).map fun x => .invoke x m args
      | .builtin b => match b, args, c.argTypes.toList with
        | .len, [x], [t] => match P.underlying t with
          | some .string => some (.lenS x)
          | some (.slice _) => some (.len x)
          | some (.array n _) => some (.lenC n)
          | some (.pointer a) => match P.underlying a with
            | some (.array n _) => some (.lenC n)
            | _ => none
          | _ => none
        | .min, [x, y], _ => some (.min x y)
        | .max, [x, y], _ => some (.max x y)
        | .append, [x, y], [s, t] => match P.underlying s, P.underlying t with
          | some (.slice _), some (.int _) => none
          | some (.slice e), some _ => (P.info? e).bind fun i => match i.zero with
            | some z => if z.cells.size = i.size ∧ i.size ≠ 0 then some (.append i.size i.bytes x y) else none
            | none => none
          | _, _ => none
        | .copy, [x, y], s :: _ => match P.underlying s with
          | some (.slice e) => (sizeO P e).map fun s => .copy s x y
          | _ => none
        | _, _, _ => none
  | _ => none

def trOper (P : Program) (nt : Nat) (ops : Array Oper) (o : Oper) : AOper :=
  { dst := o.dst
    op := if (match o.dst with | some d => decide (d < nt) | none => true) = true then (trOp P o.op).getD .fail else .fail
    guard := match o.guard with
      | none => none
      | some (j, b) => some ((ops[j]?).bind (·.dst), b) }

def Opd.names : Opd → List Nat
  | .t n => [n]
  | _ => []
def Opd.namesO : Option Opd → List Nat
  | some x => x.names
  | none => []

/-- The slots that an operation reads. -/
def AOp.names : AOp → List Nat
  | .mv x | .box x | .load _ x | .nilCheck x | .un _ x | .conv _ x | .mkIface _ x | .faddr _ x | .field _ _ x | .extract x _ | .len x | .lenS x | .tassert x _ _ => x.names
  | .pick c a b => c.names ++ a.names ++ b.names
  | .alloc _ | .lenC _ | .fail => []
  | .build _ ps | .lit _ _ _ ps => ps.flatMap fun p => p.2.2.names
  | .store _ a x | .bin _ _ _ a x | .mkSlice _ _ _ a x | .iaddr _ _ a x | .idxS a x | .idxA _ _ _ a x | .min a x | .max a x | .append _ _ a x | .copy _ a x => a.names ++ x.names
  | .mkFunc _ a c => a.flatMap Opd.names ++ c.flatMap Opd.names
  | .slice _ x lo hi mx => x.names ++ Opd.namesO lo ++ Opd.namesO hi ++ Opd.namesO mx
  | .call f args => f.names ++ args.flatMap Opd.names
  | .invoke x _ args => x.names ++ args.flatMap Opd.names

def AOper.names (o : AOper) : List Nat := o.op.names ++ (match o.guard with
  | some (some t, _) => [t]
  | _ => [])

/-- In a drawn region: what one operation reads another one writes only ahead of it or behind it, by an edge; each slot is written once. -/
def drawOK (as : List AOper) (ops : Array Oper) : Bool :=
  as.length == ops.size &&
  (List.range ops.size).all fun i =>
    match as[i]?, ops[i]? with
    | some ai, some oi => (oi.after.all fun e => !(Region.binds .any e) || decide (e.on < i)) && (List.range ops.size).all fun k =>
        match as[k]?, ops[k]? with
        | some ak, some ok => (i == k) || (match ak.dst with
          | none => true
          | some d => ai.dst != some d && (!(ai.names.contains d) || (if k < i then oi.after.any (fun e => e.on == k && Region.binds .any e) else ok.after.any (fun e => e.on == i && Region.binds .any e))))
        | _, _ => false
    | _, _ => false

def trCode (P : Program) (nt : Nat) : Code → List (List Nat) → Option (ACode × List (List Nat))
  | .skip, l => some (.skip, l)
  | .label _, l => some (.skip, l)
  | .region _ ops d, l => if d then (if drawOK (ops.toList.map (trOper P nt ops)) ops && P.follows .mixedOrders then some (.draw (ops.toList.map (trOper P nt ops)), l) else some (.fail, l)) else some (.region (ops.toList.map (trOper P nt ops)), l)
  | .seq a b, l => match trCode P nt a l with
    | some (a, l) => match trCode P nt b l with
      | some (b, l) => some (.seq a b, l)
      | none => none
    | none => none
  | .cond c a b, l => match trOpd c, trCode P nt a l with
    | some c, some (a, l) => match trCode P nt b l with
      | some (b, l) => some (.cond c a b, l)
      | none => none
    | _, _ => none
  | .block id body, v :: l => match trCode P nt body l with
    | some (a, l) => some (.block id v a, l)
    | none => none
  | .loop body, v :: l => match trCode P nt body l with
    | some (a, l) => some (.loop v a, l)
    | none => none
  | .scope body, l => match trCode P nt body l with
    | some (a, l) => some (.scope a, l)
    | none => none
  | .exit id, l => some (.exit id, l)
  | .ret, l => some (.ret, l)
  | _, l => some (.fail, l)

def trRes (P : Program) : ResultVar → Option ResV
  | .tmp t => some (.tmp t)
  | .cell t ty => (aggO P ty).map fun n => .cell t n

def trFn (P : Program) (f : Func) (pure : Bool) (lives : List (List Nat)) : Option FDef :=
  match f.body with
  | some c => match trCode P f.ntmps c lives, mapOpt (trRes P) f.results.toList with
    | some (a, _), some rs => some (.code pure a rs)
    | _, _ => none
  | none => none
end Go.Eng
