/- The abstract interpreter: slices by value, a heap of rows for variables; fuel, and the fuel-free limit. The fuel-free limit of the abstract interpreter and its equations. The relation between abstract and concrete values and heaps; what steps keep. The translation of the loaded code into the abstract interpreter's code. Steps on rows: a new row; a row written, grown, moved or frozen. No condition. -/
import Derived.Calls
import Derived.Orders
import Derived.KernelRfl
import Derived.Tactics
import Derived.Laws.IdiomCopy
import Derived.WalkKit
namespace Go.Eng
open Go

/-- Abstract values. 'unk': nothing is known. 'cst': nil values and constant addresses. 'ptr i off g': cell 'off' of row 'i' at generation 'g'. 'ep cells': an address behind which these cells lie for good.
'sl full n e cells': a slice whose cells lie there for good ('full': no spare room). 'ms i off n e g': a slice of row 'i'. -/
inductive AV where
  | unk
  | bool (b : Bool)
  | int (k : IntKind) (n : Int)
  | str (s : List UInt8)
  | cst (v : Value)
  | ptr (i off g : Nat)
  | ep (cells : List AV)
  | sl (full : Bool) (n e : Nat) (cells : List AV)
  | ms (i off n e g : Nat)
  | fn (f : Fn) (first captured : List AV)
  | iface (t : TypeId) (x : AV)
  | agg (cells : List AV)
  | tup (xs : List AV)

instance : Inhabited AV := ⟨.unk⟩

abbrev AV.nil : AV := .cst .nilIface
abbrev AV.nils : AV := .cst (.slice none 0 0)
abbrev AV.nilp : AV := .cst (.pointer none)
/-- What an operation that did not run leaves. -/
abbrev AV.und : AV := .cst (.tuple #[])

def AV.cells : AV → List AV
  | .agg cs => cs
  | v => [v]

/-- What more is known of a row: nothing; it is the iterator over a string, at a place; its block is a row of a type. -/
inductive Kd where
  | no
  | it (s : List UInt8) (pos : Nat)
  | typ (t : TypeId)

structure AObj where
  cells : List AV
  gen : Nat
  live : Bool
  kd : Kd

abbrev Heap := List AObj

def hget (H : Heap) (i off n g : Nat) : Option (List AV) :=
  match H[i]? with
  | some o => if g = o.gen ∧ off + n ≤ o.cells.length then some ((o.cells.drop off).take n) else none
  | none => none

def splice (cs : List AV) (off : Nat) (vs : List AV) : List AV := cs.take off ++ vs ++ cs.drop (off + vs.length)

def hset (H : Heap) (i off g : Nat) (vs : List AV) : Option Heap :=
  match H[i]? with
  | some o => if g = o.gen ∧ o.live = true ∧ off + vs.length ≤ o.cells.length then some (H.set i { o with cells := splice o.cells off vs }) else none
  | none => none

/-- A row more, and its number. -/
def hnew (H : Heap) (cs : List AV) : Heap := H ++ [⟨cs, 0, true, .no⟩]
def hnewK (H : Heap) (k : Kd) (cs : List AV) : Heap := H ++ [⟨cs, 0, true, k⟩]
@[simp] theorem hnewK_no (H : Heap) (cs : List AV) : hnewK H .no cs = hnew H cs := rfl
/-- The type of a row that stands. -/
def typOf (H : Heap) (i g : Nat) : Option TypeId := match H[i]? with
  | some o => if g = o.gen ∧ o.live = true then (match o.kd with
    | .typ t => some t
    | _ => none) else none
  | none => none
/-- What is known of a row that grows from its place 'off' on. -/
def Kd.join (a b : Kd) (off : Nat) : Kd := match a, b with
  | .typ t, .typ u => bif t == u && off == 0 then .typ t else .no
  | _, _ => .no
@[simp] theorem Kd.join_no (b : Kd) (off : Nat) : Kd.join .no b off = .no := rfl
def decS (s : List UInt8) (pos : Nat) : Nat × Nat := Utf8.decode ⟨s.toArray⟩ pos

/-- May stand in one cell. -/
def AV.isCell : AV → Bool
  | .unk | .agg _ | .tup _ => false
  | .cst (.agg _) | .cst (.tuple _) => false
  | _ => true

/-! ### closed values, snapshots -/
mutual
def AV.closed : AV → Bool
  | .unk | .ptr .. | .ms .. => false
  | .bool _ | .int _ _ | .str _ | .cst _ => true
  | .ep cs => closedL cs
  | .sl _ _ _ cs => closedL cs
  | .fn _ a b => closedL a && closedL b
  | .iface _ x => x.closed
  | .agg cs => closedL cs
  | .tup cs => closedL cs
def closedL : List AV → Bool
  | [] => true
  | a :: as => a.closed && closedL as
end

def freeze (H : Heap) (i : Nat) : Heap :=
  match H[i]? with
  | some o => H.set i { o with live := false }
  | none => H

def mapS (f : Heap → AV → Option (AV × Heap)) : Heap → List AV → Option (List AV × Heap)
  | H, [] => some ([], H)
  | H, a :: as => match f H a with
    | some (a', H') => match mapS f H' as with
      | some (as', H'') => some (a' :: as', H'')
      | none => none
    | none => none

/-- A value as it is at this moment, for good: the rows that it leans on are frozen. -/
def snap : Nat → Heap → AV → Option (AV × Heap)
  | 0, _, _ => none
  | k + 1, H, v => match v with
    | .ms i off n e g => match hget H i off (n * e) g with
      | some cs => match mapS (snap k) H cs with
        | some (cs', H') => some (.sl false n e cs', freeze H' i)
        | none => none
      | none => none
    | .agg cs => match mapS (snap k) H cs with
      | some (cs', H') => some (.agg cs', H')
      | none => none
    | .tup cs => match mapS (snap k) H cs with
      | some (cs', H') => some (.tup cs', H')
      | none => none
    | .iface t x => match snap k H x with
      | some (x', H') => some (.iface t x', H')
      | none => none
    | .sl _ n e cs => bif closedL cs then some (.sl false n e cs, H) else match mapS (snap k) H cs with
      | some (cs', H') => some (.sl false n e cs', H')
      | none => none
    | v => bif v.closed then some (v, H) else none

/-! ### tables -/
inductive EqT where
  | bool
  | int
  | str
  | iface
  | nsl
  | nfn
  | nptr
  | struct (fs : List (Nat × EqT))

/-- How a type assertion asks: for a type (its zero value), or for an interface. -/
inductive TA where
  | conc (t : TypeId) (zero : AV)
  | ifc (t : TypeId)

inductive Opd where
  | t (n : Nat)
  | k (v : AV)
  | fn (f : FuncId)
  | g (n : Nat)

inductive CvT where
  | int (k : IntKind)
  | toBytes
  | ofBytes
  | same
  | ofRune
  | uns (t : TypeId) (k : Nat)

inductive SlT where
  | str
  | sl (e : Nat)
  | arr (n e : Nat)

inductive AOp where
  | mv (x : Opd)
  | pick (c a b : Opd)
  | alloc (k : Kd) (zero : List AV)
  | rangeS (x : Opd)
  | nextS (x : Opd)
  | cap (x : Opd)
  | sdata (x : Opd)
  | ustr (t : TypeId) (x n : Opd)
  | box (x : Opd)
  | build (zero : List AV) (parts : List (Nat × Nat × Opd))
  | lit (n e : Nat) (zero : List AV) (parts : List (Nat × Nat × Opd))
  | litM (n e : Nat) (zero : List AV) (parts : List (Nat × Nat × Opd))
  | reown (x : Opd)
  | load (n : Option Nat) (x : Opd)
  | store (n : Nat) (a x : Opd)
  | nilCheck (x : Opd)
  | bin (op : BinOp) (q : EqT) (c : Bool) (x y : Opd)
  | un (op : UnOp) (x : Opd)
  | conv (c : CvT) (x : Opd)
  | mkIface (t : TypeId) (x : Opd)
  | mkFunc (f : Fn) (first captured : List Opd)
  | mkSlice (e bytes : Nat) (zero : List AV) (l c : Opd)
  | slice (k : SlT) (x : Opd) (lo hi mx : Option Opd)
  | faddr (off : Nat) (x : Opd)
  | field (off : Nat) (n : Option Nat) (x : Opd)
  | iaddr (arr : Option Nat) (e : Nat) (x ix : Opd)
  | idxS (x ix : Opd)
  | idxA (len e : Nat) (n : Option Nat) (x ix : Opd)
  | extract (x : Opd) (k : Nat)
  | len (x : Opd)
  | lenS (x : Opd)
  | lenC (n : Nat)
  | min (x y : Opd)
  | max (x y : Opd)
  | append (k : Kd) (e bytes : Nat) (x y : Opd)
  | copy (e : Nat) (x y : Opd)
  | call (f : Opd) (args : List Opd)
  | invoke (x : Opd) (m : String) (args : List Opd)
  | tassert (x : Opd) (k : TA) (ok : Bool)
  | fail

structure AOper where
  dst : Option Nat
  op : AOp
  guard : Option (Option Nat × Bool)

inductive ACode where
  | skip
  | region (ops : List AOper)
  | draw (ops : List AOper)
  | drawE (effs : List Nat) (lates : List (Nat × AOper)) (earls : List (Nat × Nat)) (ops : List AOper)
  | seq (a b : ACode)
  | cond (c : Opd) (a b : ACode)
  | block (id : Nat) (live : List Nat) (body : ACode)
  | loop (live : List Nat) (body : ACode)
  | exit (id : Nat)
  | scope (body : ACode)
  | ret
  | fail

inductive AEx where
  | normal
  | exit (id : Nat)
  | ret

inductive ResV where
  | tmp (t : Nat)
  | cell (t : Nat) (n : Option Nat)

inductive FDef where
  | code (pure : Bool) (body : ACode) (res : List ResV)
  | prim (p : List AV → Heap → Option (AV × Heap))

structure Tab where
  fn : Nat → Option FDef
  glob : Nat → Option (List AV)
  meth : TypeId → String → Option (FuncId × Option Nat)
  via : Fn → Option FuncId
  eqt : TypeId → Option EqT
  impl : TypeId → TypeId → Option Bool

abbrev Env := List (Nat × AV)

def Env.get : Env → Nat → AV
  | [], _ => .unk
  | (d, v) :: r, t => bif d == t then v else Env.get r t

def Env.keep (live : List Nat) (e : Env) : Env := live.map fun t => (t, e.get t)

def ev (T : Tab) (e : Env) : Opd → AV
  | .t n => e.get n
  | .k v => v
  | .fn f => .fn (.func f) [] []
  | .g n => match T.glob n with
    | some cs => .ep cs
    | none => .unk

/-! ### plain operations -/
/-- A bound on what is made: 2 ^ 40. -/
def LIM : Nat := 1099511627776

def intBin (op : BinOp) (k : IntKind) (x y : Int) : Option AV :=
  match op with
  | .add => some (.int k (k.wrap (x + y)))
  | .sub => some (.int k (k.wrap (x - y)))
  | .mul => some (.int k (k.wrap (x * y)))
  | .quo => if y = 0 then none else some (.int k (k.wrap (x.tdiv y)))
  | .rem => if y = 0 then none else some (.int k (x.tmod y))
  | .and => some (.int k (k.wrap (BitVec.ofInt k.bits x &&& BitVec.ofInt k.bits y).toNat))
  | .or => some (.int k (k.wrap (BitVec.ofInt k.bits x ||| BitVec.ofInt k.bits y).toNat))
  | .xor => some (.int k (k.wrap (BitVec.ofInt k.bits x ^^^ BitVec.ofInt k.bits y).toNat))
  | .andNot => some (.int k (k.wrap (BitVec.ofInt k.bits x &&& ~~~ (BitVec.ofInt k.bits y)).toNat))
  | .eql => some (.bool (x == y))
  | .neq => some (.bool (x != y))
  | .lss => some (.bool (x < y))
  | .leq => some (.bool (x ≤ y))
  | .gtr => some (.bool (x > y))
  | .geq => some (.bool (x ≥ y))
  | .shl | .shr => none

def shiftOp (op : BinOp) (k : IntKind) (x y : Int) : Option AV :=
  if y < 0 then none else
    match op with
    | .shl => some (.int k (k.wrap (x * 2 ^ (min y.toNat k.bits))))
    | .shr => some (.int k (x.fdiv (2 ^ (min y.toNat k.bits))))
    | _ => none

def strBin (op : BinOp) (x y : List UInt8) : Option AV :=
  match op with
  | .add => if x.length + y.length ≤ LIM then some (.str (x ++ y)) else none
  | .eql => some (.bool (x == y))
  | .neq => some (.bool (!(x == y)))
  | .lss => some (.bool (Op.bytesLess x y))
  | .leq => some (.bool (Op.bytesLess x y || x == y))
  | .gtr => some (.bool (!(Op.bytesLess x y || x == y)))
  | .geq => some (.bool (!(Op.bytesLess x y)))
  | _ => none

/-- '==' of what is no number, string. 'c': one of the two is written 'nil'. -/
def aeq (T : Tab) : Nat → EqT → Bool → AV → AV → Option Bool
  | 0, _, _, _, _ => none
  | f + 1, q, c, x, y => match q, x, y with
    | .bool, .bool a, .bool b => some (a == b)
    | .int, .int k a, .int k' b => if k = k' then some (a == b) else none
    | .str, .str a, .str b => some (a == b)
    | .iface, .cst .nilIface, .cst .nilIface => bif c then some true else none
    | .iface, .cst .nilIface, .iface _ _ => some false
    | .iface, .iface _ _, .cst .nilIface => some false
    | .iface, .iface t x, .iface u y => if t = u then
        match T.eqt t with
        | some q => aeq T f q true x y
        | none => none
      else some false
    | .nsl, .cst (.slice none _ _), .cst (.slice none _ _) => some true
    | .nsl, .cst (.slice none _ _), .sl .. => some false
    | .nsl, .cst (.slice none _ _), .ms .. => some false
    | .nsl, .sl .., .cst (.slice none _ _) => some false
    | .nsl, .ms .., .cst (.slice none _ _) => some false
    | .nptr, .cst (.pointer none), .cst (.pointer none) => some true
    | .nptr, .cst (.pointer none), .ptr .. => some false
    | .nptr, .ptr .., .cst (.pointer none) => some false
    | .nfn, .cst .nilFunc, .cst .nilFunc => some true
    | .nfn, .cst .nilFunc, .fn .. => some false
    | .nfn, .fn .., .cst .nilFunc => some false
    | .struct fs, .agg xs, .agg ys => fs.foldr (fun (p : Nat × EqT) r =>
        match xs[p.1]?, ys[p.1]? with
        | some x, some y => match aeq T f p.2 true x y with
          | some true => r
          | some false => some false
          | none => none
        | _, _ => none) (some true)
    | _, _, _ => none

def aun (op : UnOp) : AV → Option AV
  | .int k n => match op with
    | .neg => some (.int k (k.wrap (0 - n)))
    | .xor => some (.int k (k.wrap (BitVec.ofInt k.bits (if k.signed then -1 else k.max) ^^^ BitVec.ofInt k.bits n).toNat))
    | _ => none
  | .bool b => match op with
    | .not => some (.bool (!b))
    | _ => none
  | _ => none

/-- The bytes of cells. -/
def bytesOf : List AV → Option (List UInt8)
  | [] => some []
  | .int .u8 n :: r => match bytesOf r with
    | some l => some (UInt8.ofNat n.toNat :: l)
    | none => none
  | _ => none

def bcells (s : List UInt8) : List AV := s.map fun b => .int .u8 b.toNat

/-- The cells of a slice or a string's bytes, and how many elements. -/
def viewOf (H : Heap) (e : Nat) : AV → Option (Nat × List AV)
  | .cst (.slice none 0 0) => some (0, [])
  | .str s => if e = 1 then some (s.length, bcells s) else none
  | .sl _ n e' cs => if e' = e then some (n, cs) else none
  | .ms i off n e' g => if e' = e then (hget H i off (n * e) g).map fun cs => (n, cs) else none
  | _ => none

def fillP (cs : List AV) : List (Nat × Nat × AV) → Option (List AV)
  | [] => some cs
  | (off, size, v) :: r => if v.cells.length = size ∧ off + size ≤ cs.length ∧ v.cells.all AV.isCell = true then fillP (splice cs off v.cells) r else none

def reps (n : Nat) (z : List AV) : List AV := match n with
  | 0 => []
  | n + 1 => z ++ reps n z

/-- Slice bounds: an int from 0 to m. -/
def bnd (m : Nat) : AV → Option Nat
  | .int _ i => if 0 ≤ i ∧ i ≤ m then some i.toNat else none
  | _ => none

def bndO (m : Nat) (d : Nat) : Option AV → Option Nat
  | none => some d
  | some v => bnd m v

def bndR (m : Nat) : Option AV → Option Nat
  | none => none
  | some v => bnd m v

def ix (m : Nat) : AV → Option Nat
  | .int _ i => if 0 ≤ i ∧ i < m then some i.toNat else none
  | _ => none

def partA (cs : List AV) (off : Nat) : Option Nat → Option AV
  | none => cs[off]?
  | some n => if off + n ≤ cs.length then some (.agg ((cs.drop off).take n)) else none

def aslice (H : Heap) (k : SlT) (x : AV) (lo hi mx : Option AV) : Option AV :=
  match k, x with
  | .str, .str s => match mx with
    | some _ => none
    | none => match bndO s.length s.length hi with
      | none => none
      | some h => match bndO h 0 lo with
        | none => none
        | some l => some (.str ((s.take h).drop l))
  | .sl e, .sl full n e' cs => if e = e' then
      match mx with
      | none => match bndO n n hi with
        | none => none
        | some h => match bndO h 0 lo with
          | none => none
          | some l => some (.sl (full && h == n) (h - l) e ((cs.drop (l * e)).take ((h - l) * e)))
      | some m => match bnd n m with
        | none => none
        | some m => match bndR m hi with
          | none => none
          | some h => match bndO h 0 lo with
            | none => none
            | some l => if h ≤ n then some (.sl (h == m) (h - l) e ((cs.drop (l * e)).take ((h - l) * e))) else none
    else none
  | .sl e, .ms i off n e' g => if e = e' then
      match mx with
      | none => match bndO n n hi with
        | none => none
        | some h => match bndO h 0 lo with
          | none => none
          | some l => some (.ms i (off + l * e) (h - l) e g)
      | some m => match bnd n m with
        | none => none
        | some m => match bndR m hi with
          | none => none
          | some h => match bndO h 0 lo with
            | none => none
            | some _ => if m = 0 then some (.sl true 0 e []) else none
    else none
  | .sl _, .cst (.slice none 0 0) => match mx with
      | none => match bndO 0 0 hi with
        | none => none
        | some h => match bndO h 0 lo with
          | none => none
          | some _ => some (.cst (.slice none 0 0))
      | some m => match bnd 0 m with
        | none => none
        | some m => match bndR m hi with
          | none => none
          | some h => match bndO h 0 lo with
            | none => none
            | some _ => some (.cst (.slice none 0 0))
  | .arr n e, .ptr i off g => match mx, hget H i off (n * e) g with
    | none, some _ => match bndO n n hi with
      | none => none
      | some h => match bndO h 0 lo with
        | none => none
        | some l => some (.ms i (off + l * e) (h - l) e g)
    | _, _ => none
  | _, _ => none

/-- append(x, new..): 'm' elements in the cells 'ys'. -/
def aappend (kd : Kd) (H : Heap) (e bytes : Nat) (x : AV) (m : Nat) (ys : List AV) : Option (AV × Heap) :=
  if m = 0 then (match x with
    | .cst (.slice none 0 0) => some (x, H)
    | .sl .. => some (x, H)
    | .ms .. => some (x, H)
    | _ => none) else
  bif !(ys.all AV.isCell) then none else
  match x with
  | .cst (.slice none 0 0) => if m * (bytes + 1) ≤ LIM then some (.ms H.length 0 m e 0, hnewK H kd ys) else none
  | .sl true n e' cs => if e = e' ∧ (n + m) * (bytes + 1) ≤ LIM then some (.ms H.length 0 (n + m) e 0, hnewK H kd (cs ++ ys)) else none
  | .ms i off n e' g => if e = e' ∧ (n + m) * (bytes + 1) ≤ LIM then
      match H[i]? with
      | some o => if g = o.gen ∧ o.live = true ∧ off + n * e ≤ o.cells.length then
          some (.ms i 0 (n + m) e (g + 1), H.set i ⟨(o.cells.drop off).take (n * e) ++ ys, g + 1, true, kd.join o.kd off⟩) else none
      | none => none
    else none
  | _ => none

def invokeM (T : Tab) (callF : FuncId → List AV → Heap → Option (AV × Heap)) (x : AV) (m : String) (args : List AV) (H : Heap) : Option (AV × Heap) :=
  match x with
  | .iface t v => match T.meth t m with
    | some (f, none) => callF f (v :: args) H
    | some (f, some _) => match v with
      | .agg [u] => callF f (u :: args) H
      | _ => none
    | none => none
  | _ => none

def applyF (T : Tab) (callF : FuncId → List AV → Heap → Option (AV × Heap)) (f : AV) (args : List AV) (H : Heap) : Option (AV × Heap) :=
  match f with
  | .fn (.func f) first cap => callF f (first ++ args ++ cap) H
  | .fn (.method m) first _ => match first ++ args with
    | x :: r => invokeM T callF x m r H
    | [] => none
  | .fn fv first _ => match T.via fv, first ++ args with
    | some f, x :: r => callF f (x :: r) H
    | _, _ => none
  | _ => none

def evO (T : Tab) (e : Env) (o : Option Opd) : Option AV := match o with
  | none => none
  | some x => some (ev T e x)

def aop (T : Tab) (callF : FuncId → List AV → Heap → Option (AV × Heap)) (o : AOp) (e : Env) (H : Heap) : Option (AV × Heap) :=
  match o with
  | .mv x => some (ev T e x, H)
  | .pick c a b => match ev T e c with
    | .bool t => some (bif t then ev T e a else ev T e b, H)
    | _ => none
  | .alloc k z => some (.ptr H.length 0 0, hnewK H k z)
  | .rangeS x => match ev T e x with
    | .str s => some (.ptr H.length 0 0, hnewK H (.it s 0) [])
    | _ => none
  | .nextS x => match ev T e x with
    | .ptr i off g => match H[i]? with
      | some o => if off = 0 ∧ g = o.gen ∧ o.live = true ∧ o.cells = [] then (match o.kd with
        | .it s pos => if pos < s.length then some (.tup [.bool true, .int .i64 pos, .int .i32 (decS s pos).1], H.set i ⟨[], o.gen, true, .it s (pos + (decS s pos).2)⟩) else some (.tup [.bool false], H)
        | _ => none) else none
      | none => none
    | _ => none
  | .cap x => match ev T e x with
    | .cst (.slice none 0 0) => some (.int .i64 0, H)
    | _ => none
  | .sdata x => match ev T e x with
    | .cst (.slice none 0 0) => some (.cst (.pointer none), H)
    | .ms i off n _ g => if n ≠ 0 then some (.ptr i off g, H) else none
    | _ => none
  | .ustr t x n => match ev T e x, ev T e n with
    | .cst (.pointer none), .int .i64 n => if n = 0 then some (.str [], H) else none
    | .ptr i off g, .int .i64 n => if off = 0 ∧ 0 < n ∧ n ≤ (LIM : Int) ∧ typOf H i g = some t then (match hget H i 0 n.toNat g with
      | some cs => (bytesOf cs).map fun s => (.str s, freeze H i)
      | none => none) else none
    | _, _ => none
  | .box x => bif (ev T e x).cells.all AV.isCell then some (.ptr H.length 0 0, hnew H (ev T e x).cells) else none
  | .build z ps => match fillP z (ps.map fun p => (p.1, p.2.1, ev T e p.2.2)) with
    | some cs => some (.agg cs, H)
    | none => none
  | .lit n s z ps => match fillP (reps n z) (ps.map fun p => (p.1, p.2.1, ev T e p.2.2)) with
    | some cs => some (.sl true n s cs, H)
    | none => none
  | .litM n s z ps => match fillP (reps n z) (ps.map fun p => (p.1, p.2.1, ev T e p.2.2)) with
    | some cs => some (.ms H.length 0 n s 0, hnew H cs)
    | none => none
  | .reown x => match ev T e x with
    | .ms i off n s g => match H[i]? with
      | some o => if g = o.gen ∧ o.live = true ∧ n ≠ 0 ∧ s ≠ 0 then some (.ms i off n s g, H) else none
      | none => none
    | _ => none
  | .load none x => match ev T e x with
    | .ptr i off g => match hget H i off 1 g with
      | some [v] => some (v, H)
      | _ => none
    | .ep (v :: _) => some (v, H)
    | _ => none
  | .load (some n) x => match ev T e x with
    | .ptr i off g => match hget H i off n g with
      | some cs => some (.agg cs, H)
      | none => none
    | .ep cs => if n ≤ cs.length then some (.agg (cs.take n), H) else none
    | _ => none
  | .store n a x => match ev T e a with
    | .ptr i off g => if (ev T e x).cells.length = n ∧ (ev T e x).cells.all AV.isCell = true then
        match hset H i off g (ev T e x).cells with
        | some H' => some (.und, H')
        | none => none
      else none
    | _ => none
  | .nilCheck x => match ev T e x with
    | .ptr i off g => some (.ptr i off g, H)
    | .ep cs => some (.ep cs, H)
    | .iface t v => some (.iface t v, H)
    | .fn (.method m) (.iface t v :: r) c => match T.meth t m with
      | some (_, none) => some (.fn (.method m) (.iface t v :: r) c, H)
      | _ => none
    | .fn (.func f) a c => some (.fn (.func f) a c, H)
    | _ => none
  | .bin op q c x y => match ev T e x, ev T e y with
    | .int k a, .int k' b => match op with
      | .shl => (shiftOp .shl k a b).map (·, H)
      | .shr => (shiftOp .shr k a b).map (·, H)
      | op => if k = k' then (intBin op k a b).map (·, H) else none
    | .str a, .str b => (strBin op a b).map (·, H)
    | .ptr i o g, .ptr j p h => match q, op with
      | .nptr, .eql => if i = j ∧ o = p ∧ g = h ∧ (hget H i 0 0 g).isSome = true then some (.bool true, H) else none
      | .nptr, .neq => if i = j ∧ o = p ∧ g = h ∧ (hget H i 0 0 g).isSome = true then some (.bool false, H) else none
      | _, _ => none
    | a, b => match op with
      | .eql => (aeq T 9 q c a b).map fun r => (.bool r, H)
      | .neq => (aeq T 9 q c a b).map fun r => (.bool (!r), H)
      | _ => none
  | .un op x => (aun op (ev T e x)).map (·, H)
  | .conv (.int k) x => match ev T e x with
    | .int _ n => some (.int k (k.wrap n), H)
    | _ => none
  | .conv .toBytes x => match ev T e x with
    | .str s => if s.length ≤ LIM then some (.ms H.length 0 s.length 1 0, hnew H (bcells s)) else none
    | _ => none
  | .conv .ofBytes x => match viewOf H 1 (ev T e x) with
    | some (_, cs) => match ev T e x with
      | .str _ => none
      | _ => (bytesOf cs).map fun s => (.str s, H)
    | none => none
  | .conv .same x => match ev T e x with
    | .str s => some (.str s, H)
    | _ => none
  | .conv .ofRune x => match ev T e x with
    | .int _ n => some (.str (Utf8.encode n).data.toList, H)
    | _ => none
  | .conv (.uns t k) x => match ev T e x with
    | .ptr i off g => if off = 0 ∧ typOf H i g = some t ∧ (hget H i 0 k g).isSome = true then some (.ptr i off g, H) else none
    | _ => none
  | .mkIface t x => some (.iface t (ev T e x), H)
  | .mkFunc f a c => some (.fn f (a.map (ev T e)) (c.map (ev T e)), H)
  | .mkSlice s bytes z l c => match ev T e l, ev T e c with
    | .int _ l, .int _ c => if 0 ≤ l ∧ l ≤ c ∧ c * (bytes + 1) ≤ LIM then some (.ms H.length 0 l.toNat s 0, hnew H (reps c.toNat z)) else none
    | _, _ => none
  | .slice k x lo hi mx => (aslice H k (ev T e x) (evO T e lo) (evO T e hi) (evO T e mx)).map (·, H)
  | .faddr off x => match ev T e x with
    | .ptr i o g => some (.ptr i (o + off) g, H)
    | .ep cs => some (.ep (cs.drop off), H)
    | _ => none
  | .field off n x => match ev T e x with
    | .agg cs => (partA cs off n).map (·, H)
    | _ => none
  | .iaddr none s x i => match ev T e x with
    | .sl _ n s' cs => if s = s' then (ix n (ev T e i)).map fun i => (.ep (cs.drop (i * s)), H) else none
    | .ms j off n s' g => if s = s' then (ix n (ev T e i)).map fun i => (.ptr j (off + i * s) g, H) else none
    | _ => none
  | .iaddr (some n) s x i => match ev T e x with
    | .ptr j off g => (ix n (ev T e i)).map fun i => (.ptr j (off + i * s) g, H)
    | .ep cs => (ix n (ev T e i)).map fun i => (.ep (cs.drop (i * s)), H)
    | _ => none
  | .idxS x i => match ev T e x with
    | .str s => match ix s.length (ev T e i) with
      | some i => match s[i]? with
        | some b => some (.int .u8 b.toNat, H)
        | none => none
      | none => none
    | _ => none
  | .idxA len s n x i => match ev T e x with
    | .agg cs => match ix len (ev T e i) with
      | some i => (partA cs (i * s) n).map (·, H)
      | none => none
    | _ => none
  | .extract x k => match ev T e x with
    | .tup xs => match xs[k]? with
      | some v => some (v, H)
      | none => none
    | _ => none
  | .lenS x => match ev T e x with
    | .str s => some (.int .i64 s.length, H)
    | _ => none
  | .len x => match ev T e x with
    | .sl _ n _ _ => some (.int .i64 n, H)
    | .ms _ _ n _ _ => some (.int .i64 n, H)
    | .cst (.slice none 0 0) => some (.int .i64 0, H)
    | _ => none
  | .lenC n => some (.int .i64 n, H)
  | .min x y => match ev T e x, ev T e y with
    | .int k a, .int _ b => some (.int k (if b < a then b else a), H)
    | _, _ => none
  | .max x y => match ev T e x, ev T e y with
    | .int k a, .int _ b => some (.int k (if a < b then b else a), H)
    | _, _ => none
  | .append k s bytes x y => match viewOf H s (ev T e y) with
    | some (m, ys) => aappend k H s bytes (ev T e x) m ys
    | none => none
  | .copy s x y => match viewOf H s (ev T e y) with
    | some (m, ys) => match ev T e x with
      | .ms i off n s' g => if s = s' ∧ ys.all AV.isCell = true then
          match hset H i off g (ys.take ((Nat.min m n) * s)) with
          | some H' => some (.int .i64 (Nat.min m n), H')
          | none => none
        else none
      | _ => none
    | none => none
  | .call f args => applyF T callF (ev T e f) (args.map (ev T e)) H
  | .invoke x m args => invokeM T callF (ev T e x) m (args.map (ev T e)) H
  | .tassert x k ok => match k, ev T e x with
    | .conc t z, .iface u v => if u = t then some (bif ok then .tup [v, .bool true] else v, H) else bif ok then some (.tup [z, .bool false], H) else none
    | .conc _ z, .cst .nilIface => bif ok then some (.tup [z, .bool false], H) else none
    | .ifc t, .iface u v => match T.impl t u with
      | some true => some (bif ok then .tup [.iface u v, .bool true] else .iface u v, H)
      | some false => bif ok then some (.tup [.cst .nilIface, .bool false], H) else none
      | none => none
    | .ifc _, .cst .nilIface => bif ok then some (.tup [.cst .nilIface, .bool false], H) else none
    | _, _ => none
  | .fail => none

def wantedA (e : Env) : Option (Option Nat × Bool) → Option Bool
  | none => some true
  | some (none, _) => none
  | some (some t, b) => match e.get t with
    | .bool c => some (c == b)
    | .cst (.tuple _) => some false
    | _ => none

def putA (e : Env) (d : Option Nat) (v : AV) : Env := match d with
  | none => e
  | some d => (d, v) :: e

def runOps (T : Tab) (callF : FuncId → List AV → Heap → Option (AV × Heap)) : List AOper → Env → Heap → Option (Env × Heap)
  | [], e, H => some (e, H)
  | o :: r, e, H => match wantedA e o.guard with
    | none => none
    | some false => runOps T callF r (putA e o.dst .und) H
    | some true => match aop T callF o.op e H with
      | some (v, H') => runOps T callF r (putA e o.dst v) H'
      | none => none

def isPure (T : Tab) (f : FuncId) : Bool := match T.fn f with
  | some (.code p _ _) => p
  | _ => false

/-- Operations that leave the abstract heap alone, by their form; a call by the function's own flag and closed arguments. -/
def quietOp (T : Tab) (e : Env) : AOp → Bool
  | .mv _ | .pick .. | .build .. | .lit .. | .load .. | .nilCheck _ | .bin .. | .un .. | .mkIface .. | .mkFunc .. | .slice .. | .faddr .. | .field .. | .iaddr .. | .idxS .. | .idxA .. | .extract ..
  | .len _ | .lenS _ | .lenC _ | .min .. | .max .. | .tassert .. => true
  | .conv c _ => match c with
    | .toBytes => false
    | _ => true
  | .cap _ | .sdata _ => true
  | .call f args => match ev T e f with
    | .fn (.func f) a c => isPure T f && closedL a && closedL c && closedL (args.map (ev T e))
    | .fn (.method m) (.iface t v :: a) _ => (match T.meth t m with
      | some (f, none) => isPure T f && v.closed && closedL a && closedL (args.map (ev T e))
      | _ => false)
    | _ => false
  | .invoke x m args => match ev T e x with
    | .iface t v => (match T.meth t m with
      | some (f, none) => isPure T f && v.closed && closedL (args.map (ev T e))
      | _ => false)
    | _ => false
  | _ => false

/-- A region whose order is drawn: its operations leave the heap alone. -/
def runDraw (T : Tab) (callF : FuncId → List AV → Heap → Option (AV × Heap)) : List AOper → Env → Heap → Option Env
  | [], e, _ => some e
  | o :: r, e, H => match wantedA e o.guard with
    | none => none
    | some false => runDraw T callF r (putA e o.dst .und) H
    | some true => bif quietOp T e o.op then match aop T callF o.op e H with
        | some (v, _) => runDraw T callF r (putA e o.dst v) H
        | none => none
      else none

/-- The same value, of the simple kinds. -/
def vsame : Value → Value → Bool
  | .slice none a b, .slice none c d => a == c && b == d
  | .pointer none, .pointer none => true
  | .nilIface, .nilIface => true
  | _, _ => false
def aveq : Nat → AV → AV → Bool
  | _ + 1, .bool a, .bool b => a == b
  | _ + 1, .int k a, .int l b => decide (k = l) && a == b
  | _ + 1, .str a, .str b => a == b
  | _ + 1, .cst a, .cst b => vsame a b
  | _ + 1, .ptr i o g, .ptr i' o' g' => i == i' && o == o' && g == g'
  | n + 1, .sl f m e a, .sl f' m' e' b => f == f' && m == m' && e == e' && aveqL n a b
  | n + 1, .agg a, .agg b => aveqL n a b
  | _, _, _ => false
where aveqL : Nat → List AV → List AV → Bool
  | _, [], [] => true
  | n, x :: a, y :: b => aveq n x y && aveqL n a b
  | _, _, _ => false

/-- A reading that another order may put behind a writing operation answers there as it did. -/
def recheck (T : Tab) (a : AOper) (e : Env) (H : Heap) : Bool := match a.dst, aop T (fun _ _ _ => none) a.op e H with
  | some d, some (v, _) => aveq 5 v (e.get d)
  | _, _ => false
def lateOK (T : Tab) : List (Nat × AOper) → Nat → Env → Heap → Bool
  | [], _, _, _ => true
  | p :: r, k, e, H => (if p.1 = k then recheck T p.2 e H else true) && lateOK T r k e H
/-- Reads what lies there for good. -/
def isEpOp (T : Tab) (e : Env) : AOp → Bool
  | .load _ x => match ev T e x with
    | .ep _ => true
    | _ => false
  | _ => false
/-- A reading that another order may put ahead of a writing operation answers there alike. -/
def reearl (T : Tab) (o : AOp) (e : Env) (v : AV) (H : Heap) : Bool := match aop T (fun _ _ _ => none) o e H with
  | some (v', _) => aveq 5 v' v
  | none => false
def earlyH (T : Tab) (j : Nat) (o : AOp) (e : Env) (v : AV) : List (Nat × Heap) → Bool
  | [] => true
  | q :: r => (if q.1 = j then reearl T o e v q.2 else true) && earlyH T j o e v r
def earlyOK (T : Tab) : List (Nat × Nat) → Nat → AOp → Env → AV → List (Nat × Heap) → Bool
  | [], _, _, _, _, _ => true
  | p :: r, k, o, e, v, Hs => (if p.2 = k then isEpOp T e o || earlyH T p.1 o e v Hs else true) && earlyOK T r k o e v Hs
/-- The heaps ahead of the operations that a reading behind them may be put ahead of. -/
def hpush (earls : List (Nat × Nat)) (k : Nat) (H : Heap) (Hs : List (Nat × Heap)) : List (Nat × Heap) := bif earls.any (fun p => p.1 == k) then (k, H) :: Hs else Hs

/-- A drawn region some of whose operations may write: those stand in one order with all others, readings apart that answer alike behind them and ahead of them. -/
def runDrawE (T : Tab) (callF : FuncId → List AV → Heap → Option (AV × Heap)) (effs : List Nat) (lates : List (Nat × AOper)) (earls : List (Nat × Nat)) : Nat → List (Nat × Heap) → List AOper → Env → Heap → Option (Env × Heap)
  | _, _, [], e, H => some (e, H)
  | k, Hs, o :: r, e, H => match wantedA e o.guard with
    | none => none
    | some false => runDrawE T callF effs lates earls (k + 1) (hpush earls k H Hs) r (putA e o.dst .und) H
    | some true => bif effs.contains k || quietOp T e o.op then match aop T callF o.op e H with
        | some (v, H') => bif lateOK T lates k (putA e o.dst v) H' && earlyOK T earls k o.op e v Hs then runDrawE T callF effs lates earls (k + 1) (hpush earls k H Hs) r (putA e o.dst v) H' else none
        | none => none
      else none

def iter (f : Env → Heap → Option (AEx × Env × Heap)) (live : List Nat) : Nat → Env → Heap → Option (AEx × Env × Heap)
  | 0, _, _ => none
  | n + 1, e, H => match f (Env.keep live e) H with
    | some (.normal, e', H') => iter f live n e' H'
    | r => r

def exec (T : Tab) (callF : FuncId → List AV → Heap → Option (AV × Heap)) (n : Nat) : ACode → Env → Heap → Option (AEx × Env × Heap)
  | .skip, e, H => some (.normal, e, H)
  | .region ops, e, H => match runOps T callF ops e H with
    | some (e', H') => some (.normal, e', H')
    | none => none
  | .draw ops, e, H => match runDraw T callF ops e H with
    | some e' => some (.normal, e', H)
    | none => none
  | .drawE effs lates earls ops, e, H => match runDrawE T callF effs lates earls 0 [] ops e H with
    | some (e', H') => some (.normal, e', H')
    | none => none
  | .seq a b, e, H => match exec T callF n a e H with
    | some (.normal, e', H') => exec T callF n b e' H'
    | r => r
  | .cond c a b, e, H => match ev T e c with
    | .bool t => bif t then exec T callF n a e H else exec T callF n b e H
    | _ => none
  | .block id live body, e, H => match exec T callF n body e H with
    | some (.normal, e', H') => some (.normal, Env.keep live e', H')
    | some (.exit j, e', H') => bif j == id then some (.normal, Env.keep live e', H') else some (.exit j, e', H')
    | r => r
  | .loop live body, e, H => iter (fun e H => exec T callF n body e H) live n e H
  | .exit id, e, H => some (.exit id, e, H)
  | .scope body, e, H => exec T callF n body e H
  | .ret, e, H => some (.ret, e, H)
  | .fail, _, _ => none

def resOf (e : Env) (H : Heap) : ResV → Option AV
  | .tmp t => some (e.get t)
  | .cell t none => match e.get t with
    | .ptr i off g => match hget H i off 1 g with
      | some [v] => some v
      | _ => none
    | _ => none
  | .cell t (some n) => match e.get t with
    | .ptr i off g => (hget H i off n g).map .agg
    | _ => none

def mapO (f : ResV → Option AV) : List ResV → Option (List AV)
  | [] => some []
  | r :: rs => match f r with
    | some v => match mapO f rs with
      | some vs => some (v :: vs)
      | none => none
    | none => none

def results1 : List AV → AV
  | [v] => v
  | vs => .tup vs

def argEnv : Nat → List AV → Env
  | _, [] => []
  | k, a :: as => (k, a) :: argEnv (k + 1) as

def runBody (T : Tab) (callF : FuncId → List AV → Heap → Option (AV × Heap)) (n : Nat) (c : ACode) (res : List ResV) (args : List AV) (H : Heap) : Option (AV × Heap) :=
  match exec T callF n c (argEnv 0 args) H with
  | some (.normal, e, H') => (mapO (resOf e H') res).map fun vs => (results1 vs, H')
  | some (.ret, e, H') => (mapO (resOf e H') res).map fun vs => (results1 vs, H')
  | _ => none

def runDef (T : Tab) (callF : FuncId → List AV → Heap → Option (AV × Heap)) (n : Nat) (d : FDef) (args : List AV) (H : Heap) : Option (AV × Heap) :=
  match d with
  | .prim p => p args H
  | .code false c res => runBody T callF n c res args H
  | .code true c res => match mapS (snap 64) H args with
    | some (args', H') => match runBody T callF n c res args' [] with
      | some (r, H2) => match snap 64 H2 r with
        | some (r', _) => some (r', H')
        | none => none
      | none => none
    | none => none

def acall (T : Tab) : Nat → FuncId → List AV → Heap → Option (AV × Heap)
  | 0, _, _, _ => none
  | n + 1, f, args, H => match T.fn f with
    | some d => runDef T (acall T n) n d args H
    | none => none
end Go.Eng

namespace Go.Eng
open Go

abbrev CF := FuncId → List AV → Heap → Option (AV × Heap)

def Le (a b : CF) : Prop := ∀ f x H r, a f x H = some r → b f x H = some r

theorem invokeM_call (T : Tab) (x : AV) (m : String) (args : List AV) (H : Heap) :
    (∃ f args' H', ∀ cf, invokeM T cf x m args H = cf f args' H') ∨ (∀ cf cf', invokeM T cf x m args H = invokeM T cf' x m args H) := by
  unfold invokeM
  split
  · split
    · exact .inl ⟨_, _, _, fun _ => rfl⟩
    · split
      · exact .inl ⟨_, _, _, fun _ => rfl⟩
      · exact .inr fun _ _ => rfl
    · exact .inr fun _ _ => rfl
  · exact .inr fun _ _ => rfl

theorem applyF_call (T : Tab) (f : AV) (args : List AV) (H : Heap) :
    (∃ f' args' H', ∀ cf, applyF T cf f args H = cf f' args' H') ∨ (∀ cf cf', applyF T cf f args H = applyF T cf' f args H) := by
  unfold applyF
  split
  · exact .inl ⟨_, _, _, fun _ => rfl⟩
  · split
    · exact invokeM_call ..
    · exact .inr fun _ _ => rfl
  · split
    · exact .inl ⟨_, _, _, fun _ => rfl⟩
    · exact .inr fun _ _ => rfl
  · exact .inr fun _ _ => rfl

theorem aop_call (T : Tab) (o : AOp) (e : Env) (H : Heap) :
    (∃ f args H', ∀ cf, aop T cf o e H = cf f args H') ∨ (∀ cf cf', aop T cf o e H = aop T cf' o e H) := by
  cases o with
  | call f args => exact applyF_call ..
  | invoke x m args => exact invokeM_call ..
  | load n x => cases n <;> exact .inr fun _ _ => rfl
  | conv k x => cases k <;> exact .inr fun _ _ => rfl
  | iaddr a s x i => cases a <;> exact .inr fun _ _ => rfl
  | _ => exact .inr fun _ _ => rfl

theorem aop_mono {T : Tab} {a b : CF} (h : Le a b) {o : AOp} {e : Env} {H : Heap} {r : AV × Heap} (hr : aop T a o e H = some r) : aop T b o e H = some r := by
  rcases aop_call T o e H with ⟨f, args, H', hc⟩ | hc
  · rw [hc] at hr ⊢; exact h _ _ _ _ hr
  · rw [hc b a]; exact hr

theorem runOps_mono {T : Tab} {a b : CF} (h : Le a b) : ∀ {ops : List AOper} {e : Env} {H : Heap} {r : Env × Heap}, runOps T a ops e H = some r → runOps T b ops e H = some r
  | [], e, H, r, hr => hr
  | o :: ops, e, H, r, hr => by
    unfold runOps at hr ⊢
    split
    · rename_i hw; rw [hw] at hr; exact hr
    · rename_i hw; rw [hw] at hr; exact runOps_mono h hr
    · rename_i hw; rw [hw] at hr
      simp only at hr
      cases ha : aop T a o.op e H with
      | none => rw [ha] at hr; cases hr
      | some p => rw [ha] at hr; rw [aop_mono h ha]; exact runOps_mono h hr

theorem runDraw_mono {T : Tab} {a b : CF} (h : Le a b) : ∀ {ops : List AOper} {e : Env} {H : Heap} {r : Env}, runDraw T a ops e H = some r → runDraw T b ops e H = some r
  | [], e, H, r, hr => hr
  | o :: ops, e, H, r, hr => by
    unfold runDraw at hr ⊢
    split
    · rename_i hw; rw [hw] at hr; exact hr
    · rename_i hw; rw [hw] at hr; exact runDraw_mono h hr
    · rename_i hw; rw [hw] at hr
      simp only at hr
      cases hq : quietOp T e o.op with
      | false => rw [hq] at hr; cases hr
      | true =>
        rw [hq] at hr
        simp only [cond_true] at hr ⊢
        cases ha : aop T a o.op e H with
        | none => rw [ha] at hr; cases hr
        | some p => rw [ha] at hr; rw [aop_mono h ha]; exact runDraw_mono h hr

theorem runDrawE_mono {T : Tab} {a b : CF} (h : Le a b) {effs : List Nat} {lates : List (Nat × AOper)} {earls : List (Nat × Nat)} : ∀ {k : Nat} {Hs : List (Nat × Heap)} {ops : List AOper} {e : Env} {H : Heap} {r : Env × Heap}, runDrawE T a effs lates earls k Hs ops e H = some r → runDrawE T b effs lates earls k Hs ops e H = some r
  | k, Hs, [], e, H, r, hr => hr
  | k, Hs, o :: ops, e, H, r, hr => by
    unfold runDrawE at hr ⊢
    split
    · rename_i hw; rw [hw] at hr; exact hr
    · rename_i hw; rw [hw] at hr; exact runDrawE_mono h hr
    · rename_i hw; rw [hw] at hr
      simp only at hr
      cases hq : (effs.contains k || quietOp T e o.op) with
      | false => rw [hq] at hr; cases hr
      | true =>
        rw [hq] at hr
        simp only [cond_true] at hr ⊢
        cases ha : aop T a o.op e H with
        | none => rw [ha] at hr; cases hr
        | some p =>
          rw [ha] at hr
          rw [aop_mono h ha]
          dsimp only at hr ⊢
          cases hl : (lateOK T lates k (putA e o.dst p.1) p.2 && earlyOK T earls k o.op e p.1 Hs) with
          | false => rw [hl] at hr; cases hr
          | true => rw [hl] at hr; exact runDrawE_mono h hr

theorem iter_mono {f g : Env → Heap → Option (AEx × Env × Heap)} (h : ∀ e H r, f e H = some r → g e H = some r) (live : List Nat) :
    ∀ {n m : Nat} (_ : n ≤ m) {e : Env} {H : Heap} {r}, iter f live n e H = some r → iter g live m e H = some r
  | 0, _, _, _, _, _, hr => by cases hr
  | n + 1, m, hm, e, H, r, hr => by
    obtain ⟨m, rfl⟩ : ∃ k, m = k + 1 := ⟨m - 1, by omega⟩
    unfold iter at hr ⊢
    cases hf : f (Env.keep live e) H with
    | none => rw [hf] at hr; cases hr
    | some p =>
      obtain ⟨x, e', H'⟩ := p
      rw [hf] at hr; rw [h _ _ _ hf]
      cases x with
      | normal => exact iter_mono h live (by omega) hr
      | exit j => exact hr
      | ret => exact hr

theorem exec_mono {T : Tab} {a b : CF} (h : Le a b) {n m : Nat} (hm : n ≤ m) : ∀ (c : ACode) {e : Env} {H : Heap} {r}, exec T a n c e H = some r → exec T b m c e H = some r
  | .skip, _, _, _, hr => hr
  | .exit _, _, _, _, hr => hr
  | .ret, _, _, _, hr => hr
  | .fail, _, _, _, hr => by cases hr
  | .region ops, e, H, r, hr => by
    unfold exec at hr ⊢
    cases ha : runOps T a ops e H with
    | none => rw [ha] at hr; cases hr
    | some p => rw [ha] at hr; rw [runOps_mono h ha]; exact hr
  | .draw ops, e, H, r, hr => by
    unfold exec at hr ⊢
    cases ha : runDraw T a ops e H with
    | none => rw [ha] at hr; cases hr
    | some p => rw [ha] at hr; rw [runDraw_mono h ha]; exact hr
  | .drawE effs lates earls ops, e, H, r, hr => by
    unfold exec at hr ⊢
    cases ha : runDrawE T a effs lates earls 0 [] ops e H with
    | none => rw [ha] at hr; cases hr
    | some p => rw [ha] at hr; rw [runDrawE_mono h ha]; exact hr
  | .seq x y, e, H, r, hr => by
    unfold exec at hr ⊢
    cases ha : exec T a n x e H with
    | none => rw [ha] at hr; cases hr
    | some p =>
      obtain ⟨k, e', H'⟩ := p
      rw [ha] at hr; rw [exec_mono h hm x ha]
      cases k with
      | normal => exact exec_mono h hm y hr
      | exit j => exact hr
      | ret => exact hr
  | .cond c x y, e, H, r, hr => by
    unfold exec at hr ⊢
    split at hr
    · rename_i t ht
      cases t with
      | true => exact exec_mono h hm x hr
      | false => exact exec_mono h hm y hr
    · cases hr
  | .block id live body, e, H, r, hr => by
    unfold exec at hr ⊢
    cases ha : exec T a n body e H with
    | none => rw [ha] at hr; cases hr
    | some p => rw [ha] at hr; rw [exec_mono h hm body ha]; exact hr
  | .loop live body, e, H, r, hr => by
    unfold exec at hr ⊢
    exact iter_mono (fun _ _ _ hf => exec_mono h hm body hf) live hm hr
  | .scope body, e, H, r, hr => by
    unfold exec at hr ⊢
    exact exec_mono h hm body hr

theorem runBody_mono {T : Tab} {a b : CF} (h : Le a b) {n m : Nat} (hm : n ≤ m) {c : ACode} {res : List ResV} {args : List AV} {H : Heap} {r}
    (hr : runBody T a n c res args H = some r) : runBody T b m c res args H = some r := by
  unfold runBody at hr ⊢
  cases ha : exec T a n c (argEnv 0 args) H with
  | none => rw [ha] at hr; cases hr
  | some p => rw [ha] at hr; rw [exec_mono h hm c ha]; exact hr

theorem runDef_mono {T : Tab} {a b : CF} (h : Le a b) {n m : Nat} (hm : n ≤ m) {d : FDef} {args : List AV} {H : Heap} {r}
    (hr : runDef T a n d args H = some r) : runDef T b m d args H = some r := by
  unfold runDef at hr ⊢
  split
  · exact hr
  · exact runBody_mono h hm hr
  · rename_i c res
    simp only at hr
    cases hs : mapS (snap 64) H args with
    | none => rw [hs] at hr; cases hr
    | some p =>
      rw [hs] at hr
      simp only at hr ⊢
      cases hb : runBody T a n c res p.1 [] with
      | none => rw [hb] at hr; cases hr
      | some q => rw [hb] at hr; rw [runBody_mono h hm hb]; exact hr

theorem acall_succ (T : Tab) : ∀ n, Le (acall T n) (acall T (n + 1))
  | 0 => fun _ _ _ _ h => by cases h
  | n + 1 => fun f x H r h => by
    unfold acall at h ⊢
    cases hd : T.fn f with
    | none => rw [hd] at h; cases h
    | some d => rw [hd] at h; exact runDef_mono (acall_succ T n) (Nat.le_succ n) h

theorem acall_mono (T : Tab) {n m : Nat} (h : n ≤ m) : Le (acall T n) (acall T m) := by
  induction m with
  | zero => obtain rfl : n = 0 := by omega
            exact fun _ _ _ _ h => h
  | succ m ih =>
    by_cases e : n = m + 1
    · subst e; exact fun _ _ _ _ h => h
    · exact fun f x H r hr => acall_succ T m f x H r (ih (by omega) f x H r hr)

/-! ### the limit -/
open Classical in
noncomputable def lim {α : Type} (f : Nat → Option α) : Option α := if h : ∃ n r, f n = some r then f h.choose else none

theorem lim_some {α : Type} {f : Nat → Option α} (hm : ∀ n m, n ≤ m → ∀ r, f n = some r → f m = some r) {r : α} : lim f = some r ↔ ∃ n, f n = some r := by
  unfold lim
  constructor
  · intro h
    split at h
    · rename_i hh; exact ⟨_, h⟩
    · cases h
  · rintro ⟨n, hn⟩
    have hh : ∃ n r, f n = some r := ⟨n, r, hn⟩
    rw [dif_pos hh]
    obtain ⟨r', hr'⟩ := hh.choose_spec
    rw [hr']
    have a := hm n (max n hh.choose) (Nat.le_max_left ..) r hn
    have b := hm hh.choose (max n hh.choose) (Nat.le_max_right ..) r' hr'
    rw [← b]; exact a.trans rfl |>.symm ▸ a

noncomputable def C (T : Tab) : CF := fun f args H => lim fun n => acall T n f args H
noncomputable def X (T : Tab) (c : ACode) (e : Env) (H : Heap) : Option (AEx × Env × Heap) := lim fun n => exec T (acall T n) n c e H

theorem C_some {T : Tab} {f args H r} : C T f args H = some r ↔ ∃ n, acall T n f args H = some r :=
  lim_some fun _ _ h r hr => acall_mono T h f args H r hr
theorem X_some {T : Tab} {c e H r} : X T c e H = some r ↔ ∃ n, exec T (acall T n) n c e H = some r :=
  lim_some fun _ _ h _ hr => exec_mono (acall_mono T h) h c hr

theorem C_of {T : Tab} {f args H r} (n : Nat) (h : acall T n f args H = some r) : C T f args H = some r := C_some.2 ⟨n, h⟩
theorem acall_le (T : Tab) (n : Nat) : Le (acall T n) (C T) := fun _ _ _ _ h => C_of n h

theorem ext_some {α : Type} {a b : Option α} (h : ∀ r, a = some r ↔ b = some r) : a = b := by
  cases a with
  | none => cases b with
    | none => rfl
    | some r => exact absurd ((h r).2 rfl) (by simp)
  | some r => exact ((h r).1 rfl).symm

theorem runOps_fin {T : Tab} : ∀ {ops : List AOper} {e : Env} {H : Heap} {r}, runOps T (C T) ops e H = some r → ∃ n, runOps T (acall T n) ops e H = some r
  | [], e, H, r, h => ⟨0, h⟩
  | o :: ops, e, H, r, h => by
    unfold runOps at h
    split at h
    · cases h
    · rename_i hw
      obtain ⟨n, hn⟩ := runOps_fin h
      exact ⟨n, by unfold runOps; rw [hw]; exact hn⟩
    · rename_i hw
      split at h
      · rename_i v H' ha
        obtain ⟨n, hn⟩ := runOps_fin h
        obtain ⟨k, hk⟩ : ∃ k, aop T (acall T k) o.op e H = some (v, H') := by
          rcases aop_call T o.op e H with ⟨f, args, H1, hc⟩ | hc
          · rw [hc] at ha
            obtain ⟨k, hk⟩ := C_some.1 ha
            exact ⟨k, by rw [hc]; exact hk⟩
          · exact ⟨0, by rw [hc _ (C T)]; exact ha⟩
        refine ⟨max n k, ?_⟩
        unfold runOps
        rw [hw]
        simp only
        rw [aop_mono (acall_mono T (Nat.le_max_right n k)) hk]
        exact runOps_mono (acall_mono T (Nat.le_max_left n k)) hn
      · cases h

theorem runDraw_fin {T : Tab} : ∀ {ops : List AOper} {e : Env} {H : Heap} {r}, runDraw T (C T) ops e H = some r → ∃ n, runDraw T (acall T n) ops e H = some r
  | [], e, H, r, h => ⟨0, h⟩
  | o :: ops, e, H, r, h => by
    unfold runDraw at h
    split at h
    · cases h
    · rename_i hw
      obtain ⟨n, hn⟩ := runDraw_fin h
      exact ⟨n, by unfold runDraw; rw [hw]; exact hn⟩
    · rename_i hw
      cases hq : quietOp T e o.op with
      | false => rw [hq] at h; cases h
      | true =>
      rw [hq] at h
      simp only [cond_true] at h
      split at h
      · rename_i v H' ha
        obtain ⟨n, hn⟩ := runDraw_fin h
        obtain ⟨k, hk⟩ : ∃ k, aop T (acall T k) o.op e H = some (v, H') := by
          rcases aop_call T o.op e H with ⟨f, args, H1, hc⟩ | hc
          · rw [hc] at ha
            obtain ⟨k, hk⟩ := C_some.1 ha
            exact ⟨k, by rw [hc]; exact hk⟩
          · exact ⟨0, by rw [hc _ (C T)]; exact ha⟩
        refine ⟨max n k, ?_⟩
        unfold runDraw
        rw [hw]
        simp only [hq, cond_true]
        rw [aop_mono (acall_mono T (Nat.le_max_right n k)) hk]
        exact runDraw_mono (acall_mono T (Nat.le_max_left n k)) hn
      · cases h

theorem runDrawE_fin {T : Tab} {effs : List Nat} {lates : List (Nat × AOper)} {earls : List (Nat × Nat)} : ∀ {j : Nat} {Hs : List (Nat × Heap)} {ops : List AOper} {e : Env} {H : Heap} {r}, runDrawE T (C T) effs lates earls j Hs ops e H = some r → ∃ n, runDrawE T (acall T n) effs lates earls j Hs ops e H = some r
  | j, Hs, [], e, H, r, h => ⟨0, h⟩
  | j, Hs, o :: ops, e, H, r, h => by
    unfold runDrawE at h
    split at h
    · cases h
    · rename_i hw
      obtain ⟨n, hn⟩ := runDrawE_fin h
      exact ⟨n, by unfold runDrawE; rw [hw]; exact hn⟩
    · rename_i hw
      cases hq : (effs.contains j || quietOp T e o.op) with
      | false => rw [hq] at h; cases h
      | true =>
      rw [hq] at h
      simp only [cond_true] at h
      split at h
      · rename_i v H' ha
        cases hl : (lateOK T lates j (putA e o.dst v) H' && earlyOK T earls j o.op e v Hs) with
        | false => rw [hl] at h; cases h
        | true =>
        rw [hl] at h
        simp only [cond_true] at h
        obtain ⟨n, hn⟩ := runDrawE_fin h
        obtain ⟨k, hk⟩ : ∃ k, aop T (acall T k) o.op e H = some (v, H') := by
          rcases aop_call T o.op e H with ⟨f, args, H1, hc⟩ | hc
          · rw [hc] at ha
            obtain ⟨k, hk⟩ := C_some.1 ha
            exact ⟨k, by rw [hc]; exact hk⟩
          · exact ⟨0, by rw [hc _ (C T)]; exact ha⟩
        refine ⟨max n k, ?_⟩
        unfold runDrawE
        rw [hw]
        simp only [hq, cond_true]
        rw [aop_mono (acall_mono T (Nat.le_max_right n k)) hk]
        simp only [hl, cond_true]
        exact runDrawE_mono (acall_mono T (Nat.le_max_left n k)) hn
      · cases h

theorem X_drawE {T effs lates earls ops e H} : X T (.drawE effs lates earls ops) e H = match runDrawE T (C T) effs lates earls 0 [] ops e H with
    | some (e', H') => some (.normal, e', H')
    | none => none := by
  apply ext_some; intro r
  rw [X_some]
  constructor
  · rintro ⟨n, hn⟩
    unfold exec at hn
    split at hn
    · rename_i ha; rw [runDrawE_mono (acall_le T n) ha]; exact hn
    · cases hn
  · intro h
    split at h
    · rename_i ha
      obtain ⟨n, hn⟩ := runDrawE_fin ha
      exact ⟨n, by unfold exec; rw [hn]; exact h⟩
    · cases h

theorem X_skip {T e H} : X T .skip e H = some (.normal, e, H) := X_some.2 ⟨0, rfl⟩
theorem X_exit {T id e H} : X T (.exit id) e H = some (.exit id, e, H) := X_some.2 ⟨0, rfl⟩
theorem X_ret {T e H} : X T .ret e H = some (.ret, e, H) := X_some.2 ⟨0, rfl⟩
theorem X_region {T ops e H} : X T (.region ops) e H = match runOps T (C T) ops e H with
    | some (e', H') => some (.normal, e', H')
    | none => none := by
  apply ext_some; intro r
  rw [X_some]
  constructor
  · rintro ⟨n, hn⟩
    unfold exec at hn
    split at hn
    · rename_i ha; rw [runOps_mono (acall_le T n) ha]; exact hn
    · cases hn
  · intro h
    split at h
    · rename_i ha
      obtain ⟨n, hn⟩ := runOps_fin ha
      exact ⟨n, by unfold exec; rw [hn]; exact h⟩
    · cases h
theorem X_draw {T ops e H} : X T (.draw ops) e H = match runDraw T (C T) ops e H with
    | some e' => some (.normal, e', H)
    | none => none := by
  apply ext_some; intro r
  rw [X_some]
  constructor
  · rintro ⟨n, hn⟩
    unfold exec at hn
    split at hn
    · rename_i ha; rw [runDraw_mono (acall_le T n) ha]; exact hn
    · cases hn
  · intro h
    split at h
    · rename_i ha
      obtain ⟨n, hn⟩ := runDraw_fin ha
      exact ⟨n, by unfold exec; rw [hn]; exact h⟩
    · cases h
theorem X_up {T c e H n r} (h : exec T (acall T n) n c e H = some r) : X T c e H = some r := X_some.2 ⟨n, h⟩
theorem exec_up {T c e H n m r} (hm : n ≤ m) (h : exec T (acall T n) n c e H = some r) : exec T (acall T m) m c e H = some r := exec_mono (acall_mono T hm) hm c h
theorem X_seq {T a b e H} : X T (.seq a b) e H = match X T a e H with
    | some (.normal, e', H') => X T b e' H'
    | r => r := by
  apply ext_some; intro r
  rw [X_some]
  constructor
  · rintro ⟨n, hn⟩
    unfold exec at hn
    cases ha : exec T (acall T n) n a e H with
    | none => rw [ha] at hn; cases hn
    | some p =>
      obtain ⟨k, e', H'⟩ := p
      rw [ha] at hn; rw [X_up ha]
      cases k with
      | normal => exact X_up hn
      | exit j => exact hn
      | ret => exact hn
  · intro h
    cases ha : X T a e H with
    | none => rw [ha] at h; cases h
    | some p =>
      obtain ⟨k, e', H'⟩ := p
      rw [ha] at h
      obtain ⟨n, hn⟩ := X_some.1 ha
      cases k with
      | normal =>
        obtain ⟨m, hm⟩ := X_some.1 h
        refine ⟨max n m, ?_⟩
        unfold exec
        rw [exec_up (Nat.le_max_left n m) hn]
        exact exec_up (Nat.le_max_right n m) hm
      | exit j => exact ⟨n, by unfold exec; rw [hn]; exact h⟩
      | ret => exact ⟨n, by unfold exec; rw [hn]; exact h⟩
theorem X_cond {T c a b e H t} (h : ev T e c = .bool t) : X T (.cond c a b) e H = bif t then X T a e H else X T b e H := by
  apply ext_some; intro r
  rw [X_some]
  cases t with
  | true =>
    simp only [cond_true]
    rw [X_some]
    constructor
    · rintro ⟨n, hn⟩; unfold exec at hn; rw [h] at hn; exact ⟨n, hn⟩
    · rintro ⟨n, hn⟩; exact ⟨n, by unfold exec; rw [h]; exact hn⟩
  | false =>
    simp only [cond_false]
    rw [X_some]
    constructor
    · rintro ⟨n, hn⟩; unfold exec at hn; rw [h] at hn; exact ⟨n, hn⟩
    · rintro ⟨n, hn⟩; exact ⟨n, by unfold exec; rw [h]; exact hn⟩
theorem X_block {T id live a e H} : X T (.block id live a) e H = match X T a e H with
    | some (.normal, e', H') => some (.normal, Env.keep live e', H')
    | some (.exit j, e', H') => bif j == id then some (.normal, Env.keep live e', H') else some (.exit j, e', H')
    | r => r := by
  apply ext_some; intro r
  rw [X_some]
  constructor
  · rintro ⟨n, hn⟩
    unfold exec at hn
    cases ha : exec T (acall T n) n a e H with
    | none => rw [ha] at hn; cases hn
    | some p => rw [ha] at hn; rw [X_up ha]; exact hn
  · intro h
    cases ha : X T a e H with
    | none => rw [ha] at h; cases h
    | some p =>
      rw [ha] at h
      obtain ⟨n, hn⟩ := X_some.1 ha
      exact ⟨n, by unfold exec; rw [hn]; exact h⟩
theorem X_scope {T a e H} : X T (.scope a) e H = X T a e H := by
  apply ext_some; intro r
  rw [X_some, X_some]
  constructor
  · rintro ⟨n, hn⟩; unfold exec at hn; exact ⟨n, hn⟩
  · rintro ⟨n, hn⟩; exact ⟨n, by unfold exec; exact hn⟩
theorem X_loop {T live a e H} : X T (.loop live a) e H = match X T a (Env.keep live e) H with
    | some (.normal, e', H') => X T (.loop live a) e' H'
    | r => r := by
  apply ext_some; intro r
  rw [X_some]
  constructor
  · rintro ⟨n, hn⟩
    unfold exec at hn
    cases n with
    | zero => cases hn
    | succ n =>
      unfold iter at hn
      cases ha : exec T (acall T (n + 1)) (n + 1) a (Env.keep live e) H with
      | none => rw [ha] at hn; cases hn
      | some p =>
        obtain ⟨k, e', H'⟩ := p
        rw [ha] at hn; rw [X_up ha]
        cases k with
        | normal =>
          simp only at hn ⊢
          exact X_some.2 ⟨n + 1, by unfold exec; exact iter_mono (fun _ _ _ h => h) live (Nat.le_succ n) hn⟩
        | exit j => exact hn
        | ret => exact hn
  · intro h
    cases ha : X T a (Env.keep live e) H with
    | none => rw [ha] at h; cases h
    | some p =>
      obtain ⟨k, e', H'⟩ := p
      rw [ha] at h
      obtain ⟨n, hn⟩ := X_some.1 ha
      cases k with
      | normal =>
        obtain ⟨m, hm⟩ := X_some.1 h
        unfold exec at hm
        refine ⟨max n m + 1, ?_⟩
        unfold exec iter
        rw [exec_up (m := max n m + 1) (by omega) hn]
        exact iter_mono (fun _ _ _ h => exec_mono (acall_mono T (by omega)) (by omega) a h) live (Nat.le_max_right n m) hm
      | exit j => exact ⟨n + 1, by unfold exec iter; rw [exec_up (Nat.le_succ n) hn]; exact h⟩
      | ret => exact ⟨n + 1, by unfold exec iter; rw [exec_up (Nat.le_succ n) hn]; exact h⟩

/-- A body's answer. -/
noncomputable def B (T : Tab) (c : ACode) (res : List ResV) (args : List AV) (H : Heap) : Option (AV × Heap) :=
  match X T c (argEnv 0 args) H with
  | some (.normal, e, H') => (mapO (resOf e H') res).map fun vs => (results1 vs, H')
  | some (.ret, e, H') => (mapO (resOf e H') res).map fun vs => (results1 vs, H')
  | _ => none

theorem B_some {T c res args H r} : B T c res args H = some r ↔ ∃ n, runBody T (acall T n) n c res args H = some r := by
  constructor
  · intro h
    unfold B at h
    cases ha : X T c (argEnv 0 args) H with
    | none => rw [ha] at h; cases h
    | some p =>
      rw [ha] at h
      obtain ⟨n, hn⟩ := X_some.1 ha
      exact ⟨n, by unfold runBody; rw [hn]; exact h⟩
  · rintro ⟨n, hn⟩
    unfold runBody at hn
    unfold B
    cases ha : exec T (acall T n) n c (argEnv 0 args) H with
    | none => rw [ha] at hn; cases hn
    | some p => rw [ha] at hn; rw [X_up ha]; exact hn

theorem C_code {T f c res} (h : T.fn f = some (.code false c res)) (args : List AV) (H : Heap) : C T f args H = B T c res args H := by
  apply ext_some; intro r
  rw [C_some, B_some]
  constructor
  · rintro ⟨n, hn⟩
    cases n with
    | zero => cases hn
    | succ n => unfold acall at hn; rw [h] at hn; exact ⟨n, hn⟩
  · rintro ⟨n, hn⟩; exact ⟨n + 1, by unfold acall; rw [h]; exact hn⟩

theorem C_pure {T f c res} (h : T.fn f = some (.code true c res)) (args : List AV) (H : Heap) : C T f args H = match mapS (snap 64) H args with
    | some (args', H') => match B T c res args' [] with
      | some (r, H2) => match snap 64 H2 r with
        | some (r', _) => some (r', H')
        | none => none
      | none => none
    | none => none := by
  apply ext_some; intro r
  rw [C_some]
  constructor
  · rintro ⟨n, hn⟩
    cases n with
    | zero => cases hn
    | succ n =>
      unfold acall at hn; rw [h] at hn
      unfold runDef at hn
      cases hs : mapS (snap 64) H args with
      | none => rw [hs] at hn; cases hn
      | some p =>
        rw [hs] at hn
        simp only at hn ⊢
        cases hb : runBody T (acall T n) n c res p.1 [] with
        | none => rw [hb] at hn; cases hn
        | some q => rw [hb] at hn; rw [B_some.2 ⟨n, hb⟩]; exact hn
  · intro hh
    cases hs : mapS (snap 64) H args with
    | none => rw [hs] at hh; cases hh
    | some p =>
      rw [hs] at hh
      simp only at hh
      cases hb : B T c res p.1 [] with
      | none => rw [hb] at hh; cases hh
      | some q =>
        rw [hb] at hh
        obtain ⟨n, hn⟩ := B_some.1 hb
        exact ⟨n + 1, by unfold acall; rw [h]; unfold runDef; rw [hs]; simp only; rw [hn]; exact hh⟩

theorem C_prim {T f p} (h : T.fn f = some (.prim p)) (args : List AV) (H : Heap) : C T f args H = p args H := by
  apply ext_some; intro r
  rw [C_some]
  constructor
  · rintro ⟨n, hn⟩
    cases n with
    | zero => cases hn
    | succ n => unfold acall at hn; rw [h] at hn; exact hn
  · intro hh; exact ⟨1, by unfold acall; rw [h]; exact hh⟩
end Go.Eng

namespace Go.Eng
open Go

/-- A context: rows that others own; where each abstract row lies; the abstract heap; the world. -/
structure Cx where
  F : Nat → Prop
  blk : Nat → Nat
  base : Nat → Nat
  A : Heap
  w : World

def Cx.at (c : Cx) (i k : Nat) : Addr := ⟨c.blk i, c.base i + k, none⟩

def LOwn (c : Cx) (b : Nat) : Prop := ∃ (i : Nat) (o : AObj), c.A[i]? = some o ∧ o.live = true ∧ c.blk i = b
def Own (c : Cx) (b : Nat) : Prop := c.F b ∨ LOwn c b
/-- Nobody writes there any more. -/
def Perm (c : Cx) (b : Nat) : Prop := b < c.w.heap.size ∧ ¬ Own c b

inductive VR (c : Cx) : AV → Value → Prop where
  | unk (y : Value) : VR c .unk y
  | bool (b : Bool) : VR c (.bool b) (.bool b)
  | int (k : IntKind) (n : Int) : VR c (.int k n) (.int k n)
  | str (s : List UInt8) : VR c (.str s) (.string ⟨s.toArray⟩)
  | cst (v : Value) : VR c (.cst v) v
  | ptr (i off g : Nat) (o : AObj) (a : Addr) (h : c.A[i]? = some o) (hg : g ≤ o.gen) (ha : g = o.gen → a = c.at i off) : VR c (.ptr i off g) (.pointer (some a))
  | ep (cells : List AV) (vs : List Value) (b o : Nat) (hl : cells.length = vs.length)
      (hr : ∀ (k : Nat) (a : AV) (v : Value), cells[k]? = some a → vs[k]? = some v → VR c a v) (hp : Perm c b)
      (hc : ∀ (k : Nat) (v : Value), vs[k]? = some v → c.w.cell? ⟨b, o + k, none⟩ = some v) : VR c (.ep cells) (.pointer (some ⟨b, o, none⟩))
  | sl (full : Bool) (n e : Nat) (cells : List AV) (vs : List Value) (b o cap : Nat) (sp : Option Nat) (hsp : cells ≠ [] → sp = none) (hn : n ≤ cap) (hf : full = true → cap = n) (he : cells.length = n * e) (hl : cells.length = vs.length)
      (hr : ∀ (k : Nat) (a : AV) (v : Value), cells[k]? = some a → vs[k]? = some v → VR c a v) (hp : cells ≠ [] → Perm c b)
      (hc : ∀ (k : Nat) (v : Value), vs[k]? = some v → c.w.cell? ⟨b, o + k, none⟩ = some v) : VR c (.sl full n e cells) (.slice (some ⟨b, o, sp⟩) n cap)
  | ms (i off n e g : Nat) (o : AObj) (a : Addr) (cap : Nat) (h : c.A[i]? = some o) (hg : g ≤ o.gen) (hn : n ≤ cap) (hs : a.spot = none)
      (ha : g = o.gen → cap ≠ 0 → a = c.at i off) (hroom : g = o.gen → cap ≠ 0 → ∀ k, k < off + cap * e → (c.w.cell? (c.at i k)).isSome = true) :
      VR c (.ms i off n e g) (.slice (some a) n cap)
  | fn (f : Fn) (x y : List AV) (x' y' : Array Value) (hx : x.length = x'.size) (hx' : ∀ (k : Nat) (a : AV) (v : Value), x[k]? = some a → x'[k]? = some v → VR c a v)
      (hy : y.length = y'.size) (hy' : ∀ (k : Nat) (a : AV) (v : Value), y[k]? = some a → y'[k]? = some v → VR c a v) : VR c (.fn f x y) (.func f x' y')
  | iface (t : TypeId) (x : AV) (y : Value) (h : VR c x y) : VR c (.iface t x) (.iface t y)
  | agg (x : List AV) (x' : Array Value) (hx : x.length = x'.size) (hx' : ∀ (k : Nat) (a : AV) (v : Value), x[k]? = some a → x'[k]? = some v → VR c a v) : VR c (.agg x) (.agg x')
  | tup (x : List AV) (x' : Array Value) (hx : x.length = x'.size) (hx' : ∀ (k : Nat) (a : AV) (v : Value), x[k]? = some a → x'[k]? = some v → VR c a v) : VR c (.tup x) (.tuple x')

/-- Pointwise. -/
structure VRs (c : Cx) (x : List AV) (x' : List Value) : Prop where
  len : x.length = x'.length
  rel : ∀ (k : Nat) (a : AV) (v : Value), x[k]? = some a → x'[k]? = some v → VR c a v

/-- A block's mark of what may not be written is no range backwards. -/
def Flat (w : World) (b : Nat) : Prop := ∀ cs t fr, w.heap[b]? = some (.cells cs t fr) → fr.1 ≤ fr.2
theorem Flat.of {w w' : World} {b : Nat} (h : w'.heap[b]? = w.heap[b]?) (hf : Flat w b) : Flat w' b := fun cs t fr e => hf cs t fr (by rw [← h]; exact e)
/-- What is known of a row holds of its block 'b', from the place 'p' on. -/
def KdOK (w : World) (b p : Nat) : Kd → Prop
  | .no => True
  | .it s pos => p = 0 ∧ w.heap[b]? = some (.stringIter ⟨s.toArray⟩ pos)
  | .typ t => p = 0 ∧ ∃ n, w.shape? b = some (t, n)
theorem KdOK.of {w w' : World} {b p : Nat} {k : Kd} (h : w'.heap[b]? = w.heap[b]?) (hk : KdOK w b p k) : KdOK w' b p k := by
  cases k with
  | no => trivial
  | it s pos => exact ⟨hk.1, h.trans hk.2⟩
  | typ t =>
    obtain ⟨h1, n, h2⟩ := hk
    exact ⟨h1, n, by rw [← h2]; simp only [World.shape?, h]⟩
/-- The abstract heap is that of the world. -/
structure WR (c : Cx) : Prop where
  lt : ∀ i o, c.A[i]? = some o → c.blk i < c.w.heap.size
  nf : ∀ i o, c.A[i]? = some o → ¬ c.F (c.blk i)
  inj : ∀ (i j : Nat) (o p : AObj), c.A[i]? = some o → c.A[j]? = some p → c.blk i = c.blk j → i = j
  cell : ∀ (i : Nat) (o : AObj), c.A[i]? = some o → ∀ (k : Nat) (a : AV), o.cells[k]? = some a → ∃ v, c.w.cell? (c.at i k) = some v ∧ VR c a v
  soft : ∀ (i : Nat) (o : AObj), c.A[i]? = some o → o.live = true → ∀ k, (c.w.cell? ⟨c.blk i, k, none⟩).isSome = true → c.w.frozen? ⟨c.blk i, k, none⟩ = false
  flat : ∀ (i : Nat) (o : AObj), c.A[i]? = some o → o.live = true → Flat c.w (c.blk i)
  kind : ∀ (i : Nat) (o : AObj), c.A[i]? = some o → o.live = true → KdOK c.w (c.blk i) (c.base i) o.kd

/-- What a step leaves. -/
structure Ext (c c' : Cx) : Prop where
  F : c'.F = c.F
  row : ∀ (i : Nat) (o : AObj), c.A[i]? = some o → ∃ o', c'.A[i]? = some o' ∧ o.gen ≤ o'.gen ∧ (o.gen = o'.gen → c'.blk i = c.blk i ∧ c'.base i = c.base i)
  own : ∀ b, LOwn c' b → LOwn c b ∨ c.w.heap.size ≤ b
  size : c.w.heap.size ≤ c'.w.heap.size
  frame : ∀ b, b < c.w.heap.size → ¬ LOwn c b → c'.w.heap[b]? = c.w.heap[b]?
  room : ∀ a, (c.w.cell? a).isSome = true → (c'.w.cell? a).isSome = true
  os : c'.w.os = c.w.os
  out : c'.w.output = c.w.output

theorem Ext.refl (c : Cx) : Ext c c where
  F := rfl
  row _i o h := ⟨o, h, Nat.le_refl _, fun _ => ⟨rfl, rfl⟩⟩
  own _b h := .inl h
  size := Nat.le_refl _
  frame _ _ _ := rfl
  room _ h := h
  os := rfl
  out := rfl

theorem Ext.trans {a b c : Cx} (h : Ext a b) (k : Ext b c) : Ext a c where
  F := k.F.trans h.F
  row i o ho := by
    obtain ⟨o', h1, h2, h3⟩ := h.row i o ho
    obtain ⟨o'', k1, k2, k3⟩ := k.row i o' h1
    refine ⟨o'', k1, Nat.le_trans h2 k2, fun e => ?_⟩
    have e1 : o.gen = o'.gen := by omega
    have e2 : o'.gen = o''.gen := by omega
    exact ⟨(k3 e2).1.trans (h3 e1).1, (k3 e2).2.trans (h3 e1).2⟩
  own b hb := by
    rcases k.own b hb with h1 | h1
    · exact h.own b h1
    · exact .inr (Nat.le_trans h.size h1)
  size := Nat.le_trans h.size k.size
  frame b hb ho := by
    rw [k.frame b (Nat.lt_of_lt_of_le hb h.size) (fun hh => ?_), h.frame b hb ho]
    rcases h.own b hh with h1 | h1
    · exact ho h1
    · omega
  room x hx := k.room x (h.room x hx)
  os := k.os.trans h.os
  out := k.out.trans h.out

theorem Perm.ext {c c' : Cx} (h : Ext c c') {b : Nat} (hp : Perm c b) : Perm c' b := by
  refine ⟨Nat.lt_of_lt_of_le hp.1 h.size, fun ho => hp.2 ?_⟩
  rcases ho with ho | ho
  · exact .inl (h.F ▸ ho)
  · rcases h.own b ho with h1 | h1
    · exact .inr h1
    · exact absurd hp.1 (by omega)

theorem Perm.cell {c c' : Cx} (h : Ext c c') {b k : Nat} (hp : Perm c b) : c'.w.cell? ⟨b, k, none⟩ = c.w.cell? ⟨b, k, none⟩ := by
  have := h.frame b hp.1 (fun hh => hp.2 (.inr hh))
  simp only [World.cell?, this]

theorem VR.ext {c c' : Cx} (h : Ext c c') {a : AV} {v : Value} (hv : VR c a v) : VR c' a v := by
  induction hv with
  | unk y => exact .unk y
  | bool b => exact .bool b
  | int k n => exact .int k n
  | str s => exact .str s
  | cst v => exact .cst v
  | ptr i off g o a h1 hg ha =>
    obtain ⟨o', r1, r2, r3⟩ := h.row i o h1
    refine .ptr i off g o' a r1 (Nat.le_trans hg r2) fun e => ?_
    have e1 : g = o.gen := by omega
    rw [ha e1, Cx.at, Cx.at, (r3 (by omega)).1, (r3 (by omega)).2]
  | ep cells vs b o hl hr hp hc ih => exact .ep cells vs b o hl (fun k a v h1 h2 => ih k a v h1 h2) (hp.ext h) (fun k v hk => by rw [hp.cell h]; exact hc k v hk)
  | sl full n e cells vs b o cap sp hsp hn hf he hl hr hp hc ih =>
    refine .sl full n e cells vs b o cap sp hsp hn hf he hl (fun k a v h1 h2 => ih k a v h1 h2) (fun hne => (hp hne).ext h) (fun k v hk => ?_)
    have hne : cells ≠ [] := by
      rintro rfl
      have : vs = [] := List.eq_nil_of_length_eq_zero (by simpa using hl.symm)
      subst this; simp at hk
    rw [(hp hne).cell h]; exact hc k v hk
  | ms i off n e g o a cap h1 hg hn hs ha hroom =>
    obtain ⟨o', r1, r2, r3⟩ := h.row i o h1
    refine .ms i off n e g o' a cap r1 (Nat.le_trans hg r2) hn hs (fun e1 hc => ?_) (fun e1 hc k hk => ?_)
    · rw [ha (by omega) hc, Cx.at, Cx.at, (r3 (by omega)).1, (r3 (by omega)).2]
    · have := h.room _ (hroom (by omega) hc k hk)
      rw [Cx.at] at this ⊢
      rw [(r3 (by omega)).1, (r3 (by omega)).2]; exact this
  | fn f x y x' y' hx hx' hy hy' ih1 ih2 => exact .fn f x y x' y' hx ih1 hy ih2
  | iface t x y h ih => exact .iface t x y ih
  | agg x x' hx hx' ih => exact .agg x x' hx ih
  | tup x x' hx hx' ih => exact .tup x x' hx ih

theorem VRs.ext {c c' : Cx} (h : Ext c c') {x : List AV} {x' : List Value} (hv : VRs c x x') : VRs c' x x' := ⟨hv.len, fun k a v h1 h2 => (hv.rel k a v h1 h2).ext h⟩

theorem VRs.nil (c : Cx) : VRs c [] [] := ⟨rfl, fun k a v h => by simp at h⟩
theorem VRs.cons {c : Cx} {a : AV} {v : Value} {x : List AV} {x' : List Value} (h : VR c a v) (hx : VRs c x x') : VRs c (a :: x) (v :: x') := by
  refine ⟨by simp [hx.len], fun k b u h1 h2 => ?_⟩
  cases k with
  | zero => simp at h1 h2; subst h1; subst h2; exact h
  | succ k => exact hx.rel k b u (by simpa using h1) (by simpa using h2)
theorem VRs.uncons {c : Cx} {a : AV} {x : List AV} {y : List Value} (h : VRs c (a :: x) y) : ∃ v x', y = v :: x' ∧ VR c a v ∧ VRs c x x' := by
  cases y with
  | nil => have := h.len; simp at this
  | cons v x' => exact ⟨v, x', rfl, h.rel 0 a v rfl rfl, by simpa using h.len, fun k b u h1 h2 => h.rel (k + 1) b u (by simpa using h1) (by simpa using h2)⟩
theorem VRs.append {c : Cx} {x y : List AV} {x' y' : List Value} (h : VRs c x x') (k : VRs c y y') : VRs c (x ++ y) (x' ++ y') := by
  induction x generalizing x' with
  | nil => obtain rfl : x' = [] := List.eq_nil_of_length_eq_zero (by simpa using h.len.symm)
           exact k
  | cons a x ih => obtain ⟨v, x', rfl, h1, h2⟩ := h.uncons
                   exact .cons h1 (ih h2)
theorem VRs.take {c : Cx} {x : List AV} {x' : List Value} (h : VRs c x x') (n : Nat) : VRs c (x.take n) (x'.take n) := by
  refine ⟨by simp [h.len], fun k a v h1 h2 => ?_⟩
  rw [List.getElem?_take] at h1 h2
  split at h1
  · rename_i hk; rw [if_pos hk] at h2; exact h.rel k a v h1 h2
  · cases h1
theorem VRs.drop {c : Cx} {x : List AV} {x' : List Value} (h : VRs c x x') (n : Nat) : VRs c (x.drop n) (x'.drop n) := by
  refine ⟨by simp [h.len], fun k a v h1 h2 => ?_⟩
  rw [List.getElem?_drop] at h1 h2
  exact h.rel _ a v h1 h2
theorem VRs.get {c : Cx} {x : List AV} {x' : List Value} (h : VRs c x x') {k : Nat} {a : AV} (hk : x[k]? = some a) : ∃ v, x'[k]? = some v ∧ VR c a v := by
  have hlt : k < x'.length := by
    rw [← h.len]; exact (List.getElem?_eq_some_iff.1 hk).1
  exact ⟨x'[k], List.getElem?_eq_getElem hlt, h.rel k a _ hk (List.getElem?_eq_getElem hlt)⟩

theorem VRs.map {α : Type} {c : Cx} {f : α → AV} {g : α → Value} {l : List α} (h : ∀ x ∈ l, VR c (f x) (g x)) : VRs c (l.map f) (l.map g) := by
  induction l with
  | nil => exact .nil c
  | cons x l ih => exact .cons (h x (by simp)) (ih fun y hy => h y (by simp [hy]))
end Go.Eng

namespace Go.Eng
open Go

def ofC : Value → Option AV
  | .bool b => some (.bool b)
  | .int k n => some (.int k n)
  | .string s => some (.str s.data.toList)
  | .pointer none => some (.cst (.pointer none))
  | .slice none 0 0 => some (.cst (.slice none 0 0))
  | .map none => some (.cst (.map none))
  | .nilFunc => some (.cst .nilFunc)
  | .nilIface => some (.cst .nilIface)
  | _ => none

def mapOpt {α β : Type} (f : α → Option β) : List α → Option (List β)
  | [] => some []
  | a :: as => match f a with
    | some b => match mapOpt f as with
      | some bs => some (b :: bs)
      | none => none
    | none => none

def ofV : Value → Option AV
  | .agg cs => (mapOpt ofC cs.toList).map .agg
  | v => ofC v

def sizeO (P : Program) (t : TypeId) : Option Nat := (P.info? t).map (·.size)
def zeroO (P : Program) (t : TypeId) : Option (List AV) := match (P.info? t).bind (·.zero) with
  | some z => mapOpt ofC z.cells.toList
  | none => none
/-- 'some none': one cell; 'some (some n)': an aggregate of n cells. -/
def aggO (P : Program) (t : TypeId) : Option (Option Nat) := match P.underlying t with
  | some (.struct _) | some (.array _ _) => (sizeO P t).map some
  | some _ => some none
  | none => none

def trOpd : Operand → Option Opd
  | .tmp t => some (.t t)
  | .const v => (ofV v).map .k
  | .global g => some (.g g)
  | .func f => some (.fn f)

def trOpdO : Option Operand → Option (Option Opd)
  | none => some none
  | some x => (trOpd x).map some

def eqField (P : Program) (g : TypeId → Option EqT) (f : Field) : Option (Nat × EqT) :=
  if f.name == "_" then none else match aggO P f.type with
    | some none => (g f.type).map fun q => (f.offset, q)
    | _ => none

def eqtO (P : Program) : Nat → TypeId → Option EqT
  | 0, _ => none
  | d + 1, t => match P.underlying t with
    | some .bool => some .bool
    | some (.int _) => some .int
    | some .string => some .str
    | some (.interface _) => some .iface
    | some (.slice _) => some .nsl
    | some (.func ..) => some .nfn
    | some (.pointer e) => match P.info? e with
      | some _ => some .nptr
      | none => none
    | some (.struct fs) => if P.stoodInHeld t then none else
      (mapOpt (eqField P (eqtO P d)) fs.toList).map .struct
    | _ => none

def isK : Operand → Bool
  | .const _ => true
  | _ => false

def noGuard (P : Program) (t : TypeId) : Bool := match P.underlying t with
  | some (.struct _) | some (.array _ _) => !(P.eqGuardType P.depth t)
  | _ => true

/-- A strings.Builder is known as such in its row. -/
def kindOf (P : Program) (t : TypeId) : Kd := match P.info? t with
  | some i => if i.str == "strings.Builder" then .typ t else .no
  | none => .no

def trOp (P : Program) : Op → Option AOp
  | .move x | .assign x => (trOpd x).map .mv
  | .pick c a b => match trOpd c, trOpd a, trOpd b with
    | some c, some a, some b => some (.pick c a b)
    | _, _, _ => none
  | .alloc t => (zeroO P t).map (.alloc (kindOf P t))
  | .box _ x => (trOpd x).map .box
  | .build t parts => match zeroO P t, P.underlying t with
    | some z, some (.struct fs) => if fs.toList.all (fun f => (sizeO P f.type).isSome) = true then (mapOpt (fun (p : Nat × Operand) => match fs[p.1]?, trOpd p.2 with
        | some f, some x => (sizeO P f.type).map fun s => (f.offset, s, x)
        | _, _ => none) parts.toList).map (.build z) else none
    | some z, some (.array _ e) => match sizeO P e with
      | some s => (mapOpt (fun (p : Nat × Operand) => (trOpd p.2).map fun x => (p.1 * s, s, x)) parts.toList).map (.build z)
      | none => none
    | _, _ => none
  | .buildSlice t len parts => match P.underlying t with
    | some (.slice e) => match zeroO P e, sizeO P e with
      | some z, some s => if len * s ≤ 65536 ∧ z.length = s then (mapOpt (fun (p : Nat × Operand) => (trOpd p.2).map fun x => (p.1 * s, s, x)) parts.toList).map (.lit len s z) else none
      | _, _ => none
    | _ => none
  | .load t a => match aggO P t, trOpd a with
    | some n, some a => some (.load n a)
    | _, _ => none
  | .store t a x => match sizeO P t, trOpd a, trOpd x with
    | some n, some a, some x => some (.store n a x)
    | _, _, _ => none
  | .nilCheck x => (trOpd x).map .nilCheck
  | .binOp op t x y _ => match trOpd x, trOpd y with
    | some a, some b => match op with
      | .eql | .neq => match eqtO P 9 t with
        | some q => if noGuard P t then some (.bin op q (isK x || isK y) a b) else none
        | none => none
      | _ => some (.bin op .bool false a b)
    | _, _ => none
  | .unOp op _ x => (trOpd x).map (.un op)
  | .convert s d x => match P.underlying s, P.underlying d, trOpd x with
    | some (.int _), some (.int k), some x => some (.conv (.int k) x)
    | some .string, some (.slice e), some x => match P.underlying e with
      | some (.int .u8) => some (.conv .toBytes x)
      | _ => none
    | some (.slice e), some .string, some x => match P.underlying e, sizeO P e with
      | some (.int .u8), some 1 => some (.conv .ofBytes x)
      | _, _ => none
    | some .string, some .string, some x => some (.conv .same x)
    | some (.int _), some .string, some x => some (.conv .ofRune x)
    | some (.pointer t), some .unsafePointer, some x => match sizeO P t with
      | some (k + 1) => if P.cellsOf t = k + 1 then some (.conv (.uns t (k + 1)) x) else none
      | _ => none
    | some .unsafePointer, some (.pointer t), some x => match sizeO P t with
      | some (k + 1) => if P.cellsOf t = k + 1 then some (.conv (.uns t (k + 1)) x) else none
      | _ => none
    | some (.slice e), some (.slice _), some x => if s = d then (match P.underlying e with
      | some (.int .u8) => some (.reown x)
      | _ => none) else none
    | _, _, _ => none
  | .makeInterface t x => match P.underlying t, trOpd x with
    | some (.interface _), _ => none
    | some _, some x => some (.mkIface t x)
    | _, _ => none
  | .makeFunc f a c => match mapOpt trOpd a.toList, mapOpt trOpd c.toList with
    | some a, some c => some (.mkFunc f a c)
    | _, _ => none
  | .makeSlice t l c => match P.underlying t with
    | some (.slice e) => match P.info? e, zeroO P e, trOpd l, trOpd c with
      | some i, some z, some l, some c => if z.length = i.size ∧ i.size ≠ 0 then some (.mkSlice i.size i.bytes z l c) else none
      | _, _, _, _ => none
    | _ => none
  | .slice t x lo hi mx => match trOpd x, trOpdO lo, trOpdO hi, trOpdO mx with
    | some x, some lo, some hi, some mx => match P.underlying t with
      | some .string => some (.slice .str x lo hi mx)
      | some (.slice e) => (sizeO P e).map fun s => .slice (.sl s) x lo hi mx
      | some (.array n e) => (sizeO P e).map fun s => .slice (.arr n s) x lo hi mx
      | some (.pointer arr) => match P.underlying arr with
        | some (.array n e) => (sizeO P e).map fun s => .slice (.arr n s) x lo hi mx
        | _ => none
      | _ => none
    | _, _, _, _ => none
  | .fieldAddr s x f => match P.underlying s, trOpd x with
    | some (.struct fs), some x => match fs[f]? with
      | some f => match sizeO P f.type with
        | some (_ + 1) => some (.faddr f.offset x)
        | _ => none
      | none => none
    | _, _ => none
  | .field s x f => match P.underlying s, trOpd x with
    | some (.struct fs), some x => match fs[f]? with
      | some f => (aggO P f.type).map fun n => .field f.offset n x
      | none => none
    | _, _ => none
  | .indexAddr t x i => match trOpd x, trOpd i with
    | some x, some i => match P.underlying t with
      | some (.array n e) => (sizeO P e).map fun s => .iaddr (some n) s x i
      | some (.slice e) => match sizeO P e with
        | some (s + 1) => some (.iaddr none (s + 1) x i)
        | _ => none
      | _ => none
    | _, _ => none
  | .index t x i => match trOpd x, trOpd i with
    | some x, some i => match P.underlying t with
      | some .string => some (.idxS x i)
      | some (.array n e) => match sizeO P e, aggO P e with
        | some s, some a => some (.idxA n s a x i)
        | _, _ => none
      | _ => none
    | _, _ => none
  | .extract x k => (trOpd x).map fun x => .extract x k
  | .typeAssert x _ t ok => match trOpd x, P.underlying t with
    | some x, some (.interface _) => match (P.info? t).bind (·.zero) with
      | some .nilIface => some (.tassert x (.ifc t) ok)
      | _ => none
    | some x, some _ => match (P.info? t).bind (·.zero) with
      | some z => (ofV z).map fun z => .tassert x (.conc t z) ok
      | none => none
    | _, _ => none
  | .call c => match mapOpt trOpd c.args.toList with
    | none => none
    | some args => match c.callee with
      | .value f => (trOpd f).map fun f => .call f args
      | .invoke x m => (trOpd x).map fun x => .invoke x m args
      | .builtin b => match b, args, c.argTypes.toList with
        | .len, [x], [t] => match P.underlying t with
          | some .string => some (.lenS x)
          | some (.slice _) => some (.len x)
          | some (.array n _) => some (.lenC n)
          | some (.pointer a) => match P.underlying a with
            | some (.array n _) => some (.lenC n)
            | _ => none
          | _ => none
        | .min, [x, y], _ => some (.min x y)
        | .max, [x, y], _ => some (.max x y)
        | .append, [x, y], [s, t] => match P.underlying s, P.underlying t with
          | some (.slice _), some (.int _) => none
          | some (.slice e), some _ => (P.info? e).bind fun i => match i.zero with
            | some z => if z.cells.size = i.size ∧ i.size ≠ 0 then some (.append .no i.size i.bytes x y) else none
            | none => none
          | _, _ => none
        | .copy, [x, y], s :: _ => match P.underlying s with
          | some (.slice e) => (sizeO P e).map fun s => .copy s x y
          | _ => none
        | .cap, [x], [t] => match P.underlying t with
          | some (.slice _) => some (.cap x)
          | _ => none
        | .unsafeSliceData, [x], _ => some (.sdata x)
        | .unsafeString, [x, n], [t, _] => match P.underlying t with
          | some (.pointer e) => if P.cellsOf e = 1 then some (.ustr e x n) else none
          | _ => none
        | _, _, _ => none
  | .range t x => match P.underlying t, trOpd x with
    | some .string, some x => some (.rangeS x)
    | _, _ => none
  | .next x true => (trOpd x).map .nextS
  | _ => none

/-- The type of what is appended. -/
def elOf (P : Program) : Op → Option TypeId
  | .call c => match c.callee, c.argTypes.toList with
    | .builtin .append, s :: _ => match P.underlying s with
      | some (.slice e) => some e
      | _ => none
    | _, _ => none
  | _ => none
/-- An append whose row is known as one of its type. -/
def trOpT (P : Program) (o : Op) : Option AOp := match trOp P o, elOf P o with
  | some (.append _ e b x y), some t => some (.append (.typ t) e b x y)
  | r, _ => r
/-- strings.Builder's own appends. -/
def inBld (p : String) : Bool := p == "builder.go:97" || p == "builder.go:114"

/-- A literal of a slice that is converted to its own type. -/
def feeds (ops : Array Oper) (o : Oper) : Bool := match o.dst, o.op with
  | some d, .buildSlice _ _ _ => ops.any fun q => match q.op with
    | .convert s s' (.tmp d') => s == s' && d' == d
    | _ => false
  | _, _ => false
def trLitM (P : Program) (o : Op) : Option AOp := match trOp P o with
  | some (.lit n s z ps) => some (.litM n s z ps)
  | _ => none
def trOpX (P : Program) (ops : Array Oper) (o : Oper) : Option AOp := if feeds ops o = true then trLitM P o.op else if inBld o.pos = true then trOpT P o.op else trOp P o.op

def trOper (P : Program) (nt : Nat) (ops : Array Oper) (o : Oper) : AOper :=
  { dst := o.dst
    op := if (match o.dst with | some d => decide (d < nt) | none => true) = true then (trOpX P ops o).getD .fail else .fail
    guard := match o.guard with
      | none => none
      | some (j, b) => some ((ops[j]?).bind (·.dst), b) }

def Opd.names : Opd → List Nat
  | .t n => [n]
  | _ => []
def Opd.namesO : Option Opd → List Nat
  | some x => x.names
  | none => []

/-- The slots that an operation reads. -/
def AOp.names : AOp → List Nat
  | .rangeS x | .nextS x | .cap x | .sdata x => x.names
  | .ustr _ x n => x.names ++ n.names
  | .mv x | .box x | .reown x | .load _ x | .nilCheck x | .un _ x | .conv _ x | .mkIface _ x | .faddr _ x | .field _ _ x | .extract x _ | .len x | .lenS x | .tassert x _ _ => x.names
  | .pick c a b => c.names ++ a.names ++ b.names
  | .alloc _ _ | .lenC _ | .fail => []
  | .build _ ps | .lit _ _ _ ps | .litM _ _ _ ps => ps.flatMap fun p => p.2.2.names
  | .store _ a x | .bin _ _ _ a x | .mkSlice _ _ _ a x | .iaddr _ _ a x | .idxS a x | .idxA _ _ _ a x | .min a x | .max a x | .append _ _ _ a x | .copy _ a x => a.names ++ x.names
  | .mkFunc _ a c => a.flatMap Opd.names ++ c.flatMap Opd.names
  | .slice _ x lo hi mx => x.names ++ Opd.namesO lo ++ Opd.namesO hi ++ Opd.namesO mx
  | .call f args => f.names ++ args.flatMap Opd.names
  | .invoke x _ args => x.names ++ args.flatMap Opd.names

def AOper.names (o : AOper) : List Nat := o.op.names ++ (match o.guard with
  | some (some t, _) => [t]
  | _ => [])

/-- In a drawn region: what one operation reads another one writes only ahead of it or behind it, by an edge; each slot is written once. -/
def drawOK (as : List AOper) (ops : Array Oper) : Bool :=
  as.length == ops.size &&
  (List.range ops.size).all fun i =>
    match as[i]?, ops[i]? with
    | some ai, some oi => (oi.after.all fun e => !(Region.binds .any e) || decide (e.on < i)) && (List.range ops.size).all fun k =>
        match as[k]?, ops[k]? with
        | some ak, some ok => (i == k) || (match ak.dst with
          | none => true
          | some d => ai.dst != some d && (!(ai.names.contains d) || (if k < i then oi.after.any (fun e => e.on == k && Region.binds .any e) else ok.after.any (fun e => e.on == i && Region.binds .any e))))
        | _, _ => false
    | _, _ => false

/-- The operations ahead of an operation, as bits: its edges, and what is ahead of them. 'l': those of the operations before 'n', the last one first. -/
def aheadAt (n : Nat) (l : List Nat) (j : Nat) : Nat := if j < n then l.getD (n - 1 - j) 0 else 0
def aheadE (n : Nat) (l : List Nat) : List Edge → Nat
  | [] => 0
  | e :: r => if Region.binds .any e = true then (1 <<< e.on ||| aheadAt n l e.on) ||| aheadE n l r else aheadE n l r
def aheads (ops : Array Oper) : Nat → List Nat
  | 0 => []
  | n + 1 => (match ops[n]? with
    | some o => aheadE n (aheads ops n) o.after.toList
    | none => 0) :: aheads ops n
/-- An operation stands behind another one, by edges. -/
def reach (ops : Array Oper) (f i k : Nat) : Bool := (aheadAt f (aheads ops f) i).testBit k
/-- Neither reads nor writes the heap. -/
def AOp.mute : AOp → Bool
  | .mv _ | .pick .. | .build .. | .lit .. | .nilCheck _ | .un .. | .mkIface .. | .mkFunc .. | .faddr .. | .field .. | .iaddr .. | .idxS .. | .idxA .. | .extract .. | .lenS _ | .len _ | .lenC _ | .min .. | .max .. | .conv (.int _) _ => true
  | .bin _ q _ _ _ => match q with
    | .nptr => false
    | _ => true
  | .slice k _ _ _ _ => match k with
    | .arr _ _ => false
    | _ => true
  | _ => false
/-- A plain reading none of whose names is written from there on. -/
def lateable (as : List AOper) (i : Nat) : Bool := match as[i]? with
  | some ⟨some _, .load g x, none⟩ => (List.range as.length).all fun k => decide (k < i) || match as[k]? with
    | some a => (match a.dst with
      | some d => !((AOp.load g x).names.contains d)
      | none => true)
    | none => true
  | _ => false
/-- Reads the heap and leaves it alone. -/
def AOp.reads : AOp → Bool
  | .load _ _ => true
  | .conv .ofBytes _ => true
  | _ => false
/-- A plain reading. -/
def earlyable (as : List AOper) (i : Nat) : Bool := match as[i]? with
  | some ⟨some _, o, _⟩ => o.reads
  | _ => false
/-- In one order with all operations of its region that touch the heap; a plain reading may stand in no order with it. -/
def fixed (as : List AOper) (ops : Array Oper) (k : Nat) : Bool := (List.range ops.size).all fun i => i == k || (match as[i]? with
  | some a => a.op.mute
  | none => false) || (if i < k then reach ops ops.size k i || lateable as i else reach ops ops.size i k || earlyable as i)
/-- May write, by its form. -/
def AOp.loud : AOp → Bool
  | .alloc _ _ | .rangeS _ | .nextS _ | .ustr .. | .box _ | .store .. | .mkSlice .. | .append .. | .copy .. | .litM .. | .reown _ | .call .. | .invoke .. => true
  | .conv .toBytes _ => true
  | _ => false
def effsOf (as : List AOper) (ops : Array Oper) : List Nat := (List.range ops.size).filter fun k => (match as[k]? with
  | some a => a.op.loud
  | none => false) && fixed as ops k
/-- The plain readings ahead that stand in no order with a writing operation. -/
def latesOf (as : List AOper) (ops : Array Oper) (effs : List Nat) : List (Nat × AOper) := effs.flatMap fun k => (List.range k).filterMap fun i => match as[i]? with
  | some a => if lateable as i && !reach ops ops.size k i then some (k, a) else none
  | none => none
/-- The plain readings behind that stand in no order with a writing operation. -/
def earlsOf (as : List AOper) (ops : Array Oper) (effs : List Nat) : List (Nat × Nat) := effs.flatMap fun k => (List.range ops.size).filterMap fun i => if decide (k < i) && earlyable as i && !reach ops ops.size i k then some (k, i) else none

def trCode (P : Program) (nt : Nat) : Code → List (List Nat) → Option (ACode × List (List Nat))
  | .skip, l => some (.skip, l)
  | .label _, l => some (.skip, l)
  | .region _ ops d, l => if d then (if drawOK (ops.toList.map (trOper P nt ops)) ops && P.follows .mixedOrders then (if (effsOf (ops.toList.map (trOper P nt ops)) ops).isEmpty then some (.draw (ops.toList.map (trOper P nt ops)), l) else some (.drawE (effsOf (ops.toList.map (trOper P nt ops)) ops) (latesOf (ops.toList.map (trOper P nt ops)) ops (effsOf (ops.toList.map (trOper P nt ops)) ops)) (earlsOf (ops.toList.map (trOper P nt ops)) ops (effsOf (ops.toList.map (trOper P nt ops)) ops)) (ops.toList.map (trOper P nt ops)), l)) else some (.fail, l)) else some (.region (ops.toList.map (trOper P nt ops)), l)
  | .seq a b, l => match trCode P nt a l with
    | some (a, l) => match trCode P nt b l with
      | some (b, l) => some (.seq a b, l)
      | none => none
    | none => none
  | .cond c a b, l => match trOpd c, trCode P nt a l with
    | some c, some (a, l) => match trCode P nt b l with
      | some (b, l) => some (.cond c a b, l)
      | none => none
    | _, _ => none
  | .block id body, v :: l => match trCode P nt body l with
    | some (a, l) => some (.block id v a, l)
    | none => none
  | .loop body, v :: l => match trCode P nt body l with
    | some (a, l) => some (.loop v a, l)
    | none => none
  | .scope body, l => match trCode P nt body l with
    | some (a, l) => some (.scope a, l)
    | none => none
  | .exit id, l => some (.exit id, l)
  | .ret, l => some (.ret, l)
  | _, l => some (.fail, l)

def trRes (P : Program) : ResultVar → Option ResV
  | .tmp t => some (.tmp t)
  | .cell t ty => (aggO P ty).map fun n => .cell t n

def trFn (P : Program) (f : Func) (pure : Bool) (lives : List (List Nat)) : Option FDef :=
  match f.body with
  | some c => match trCode P f.ntmps c lives, mapOpt (trRes P) f.results.toList with
    | some (a, _), some rs => some (.code pure a rs)
    | _, _ => none
  | none => none
end Go.Eng

namespace Go.Eng
open Go

theorem cell_of_heap {w w' : World} {b k : Nat} (h : w'.heap[b]? = w.heap[b]?) : w'.cell? ⟨b, k, none⟩ = w.cell? ⟨b, k, none⟩ := by
  simp only [World.cell?, h]
theorem frozen_of_heap {w w' : World} {b k : Nat} (h : w'.heap[b]? = w.heap[b]?) : w'.frozen? ⟨b, k, none⟩ = w.frozen? ⟨b, k, none⟩ := by
  simp only [World.frozen?, h]
theorem cell_lt {w : World} {a : Addr} (h : (w.cell? a).isSome = true) : a.block < w.heap.size := by
  rcases Nat.lt_or_ge a.block w.heap.size with h1 | h1
  · exact h1
  · simp [World.cell?, Array.getElem?_eq_none h1] at h

/-! ### the world alone -/
def Cx.setW (c : Cx) (w : World) : Cx := { c with w := w }

theorem world_ok {c : Cx} (hW : WR c) {w' : World} (hh : w'.heap = c.w.heap) (hos : w'.os = c.w.os) (hout : w'.output = c.w.output) : Ext c (c.setW w') ∧ WR (c.setW w') := by
  have hE : Ext c (c.setW w') :=
    { F := rfl
      row := fun i o h => ⟨o, h, Nat.le_refl _, fun _ => ⟨rfl, rfl⟩⟩
      own := fun b h => .inl h
      size := by simp [Cx.setW, hh]
      frame := fun b _ _ => by simp [Cx.setW, hh]
      room := fun a h => by simpa [Cx.setW, World.cell?, hh] using h
      os := hos
      out := hout }
  refine ⟨hE, ?_⟩
  exact
    { lt := fun i o h => by simpa [Cx.setW, hh] using hW.lt i o h
      nf := hW.nf
      inj := hW.inj
      cell := fun i o h k a hk => by
        obtain ⟨v, h1, h2⟩ := hW.cell i o h k a hk
        exact ⟨v, by rw [← h1]; exact cell_of_heap (by simp [Cx.setW, hh]), h2.ext hE⟩
      soft := fun i o h hl k hk => by
        have h1 : (c.w.cell? ⟨c.blk i, k, none⟩).isSome = true := by rw [← hk]; congr 1; exact (cell_of_heap (by simp [Cx.setW, hh])).symm
        rw [← hW.soft i o h hl k h1]; exact frozen_of_heap (by simp [Cx.setW, hh])
      flat := fun i o h hl => (hW.flat i o h hl).of (by simp [Cx.setW, hh])
      kind := fun i o h hl => (hW.kind i o h hl).of (by simp [Cx.setW, hh]) }

/-! ### a new row -/
def Cx.newK (c : Cx) (kd : Kd) (cs : List AV) (w : World) : Cx :=
  { c with blk := fun i => if i = c.A.length then c.w.heap.size else c.blk i, base := fun i => if i = c.A.length then 0 else c.base i, A := hnewK c.A kd cs, w := w }
def Cx.new (c : Cx) (cs : List AV) (w : World) : Cx :=
  { c with blk := fun i => if i = c.A.length then c.w.heap.size else c.blk i, base := fun i => if i = c.A.length then 0 else c.base i, A := hnew c.A cs, w := w }
theorem Cx.newK_no (c : Cx) (cs : List AV) (w : World) : c.newK .no cs w = c.new cs w := rfl

theorem hnew_some {A : Heap} {cs : List AV} {i : Nat} {o : AObj} (h : (hnew A cs)[i]? = some o) : (i < A.length ∧ A[i]? = some o) ∨ (i = A.length ∧ o = ⟨cs, 0, true, .no⟩) := by
  unfold hnew at h
  rcases Nat.lt_or_ge i A.length with h1 | h1
  · rw [List.getElem?_append_left h1] at h; exact .inl ⟨h1, h⟩
  · rw [List.getElem?_append_right h1] at h
    have : i - A.length = 0 := by
      rcases Nat.eq_zero_or_pos (i - A.length) with h2 | h2
      · exact h2
      · rw [List.getElem?_eq_none (by simp; omega)] at h; cases h
    rw [this] at h
    simp at h
    exact .inr ⟨by omega, h.symm⟩
theorem hnew_old {A : Heap} {cs : List AV} {i : Nat} {o : AObj} (h : A[i]? = some o) : (hnew A cs)[i]? = some o := by
  have := (List.getElem?_eq_some_iff.1 h).1
  unfold hnew; rw [List.getElem?_append_left this]; exact h
theorem hnew_new (A : Heap) (cs : List AV) : (hnew A cs)[A.length]? = some ⟨cs, 0, true, .no⟩ := by
  unfold hnew; simp
theorem hnewK_some {A : Heap} {kd : Kd} {cs : List AV} {i : Nat} {o : AObj} (h : (hnewK A kd cs)[i]? = some o) : (i < A.length ∧ A[i]? = some o) ∨ (i = A.length ∧ o = ⟨cs, 0, true, kd⟩) := by
  unfold hnewK at h
  rcases Nat.lt_or_ge i A.length with h1 | h1
  · rw [List.getElem?_append_left h1] at h; exact .inl ⟨h1, h⟩
  · rw [List.getElem?_append_right h1] at h
    have : i - A.length = 0 := by
      rcases Nat.eq_zero_or_pos (i - A.length) with h2 | h2
      · exact h2
      · rw [List.getElem?_eq_none (by simp; omega)] at h; cases h
    rw [this] at h
    simp at h
    exact .inr ⟨by omega, h.symm⟩
theorem hnewK_old {A : Heap} {kd : Kd} {cs : List AV} {i : Nat} {o : AObj} (h : A[i]? = some o) : (hnewK A kd cs)[i]? = some o := by
  have := (List.getElem?_eq_some_iff.1 h).1
  unfold hnewK; rw [List.getElem?_append_left this]; exact h
theorem hnewK_new (A : Heap) (kd : Kd) (cs : List AV) : (hnewK A kd cs)[A.length]? = some ⟨cs, 0, true, kd⟩ := by
  unfold hnewK; simp
theorem lt_of_some {A : Heap} {i : Nat} {o : AObj} (h : A[i]? = some o) : i < A.length := (List.getElem?_eq_some_iff.1 h).1

theorem newK_ok {c : Cx} (hW : WR c) (hF : ∀ b, c.w.heap.size ≤ b → ¬ c.F b) {kd : Kd} {cs : List AV} {ob : Obj} {w' : World}
    (hw : w'.heap = c.w.heap.push ob) (hos : w'.os = c.w.os) (hout : w'.output = c.w.output) (hkd : KdOK w' c.w.heap.size 0 kd)
    (hfr : ∀ k, (w'.cell? ⟨c.w.heap.size, k, none⟩).isSome = true → w'.frozen? ⟨c.w.heap.size, k, none⟩ = false) (hfl : Flat w' c.w.heap.size)
    (hcs : ∀ (k : Nat) (a : AV), cs[k]? = some a → ∃ v, w'.cell? ⟨c.w.heap.size, k, none⟩ = some v ∧ VR c a v) : Ext c (c.newK kd cs w') ∧ WR (c.newK kd cs w') := by
  have hold : ∀ b, b < c.w.heap.size → w'.heap[b]? = c.w.heap[b]? := fun b hb => by
    rw [hw, Array.getElem?_push]; rw [if_neg (by omega)]
  have hE : Ext c (c.newK kd cs w') :=
    { F := rfl
      row := fun i o h => ⟨o, hnewK_old h, Nat.le_refl _, fun _ => by
        have := lt_of_some h
        simp only [Cx.newK]
        rw [if_neg (by omega), if_neg (by omega)]; exact ⟨rfl, rfl⟩⟩
      own := fun b h => by
        obtain ⟨i, o, h1, h2, h3⟩ := h
        rcases hnewK_some h1 with ⟨h4, h5⟩ | ⟨h4, h5⟩
        · simp only [Cx.newK] at h3
          rw [if_neg (by omega)] at h3
          exact .inl ⟨i, o, h5, h2, h3⟩
        · simp only [Cx.newK] at h3
          rw [if_pos h4] at h3
          exact .inr (by omega)
      size := by simp [Cx.newK, hw]
      frame := fun b hb _ => hold b hb
      room := fun a h => by
        have := cell_lt h
        simpa [Cx.newK, World.cell?, hold _ this] using h
      os := hos
      out := hout }
  refine ⟨hE, ?_⟩
  exact
    { lt := fun i o h => by
        simp only [Cx.newK, hw, Array.size_push]
        rcases hnewK_some h with ⟨h4, h5⟩ | ⟨h4, h5⟩
        · rw [if_neg (by omega)]; have := hW.lt i o h5; omega
        · rw [if_pos h4]; omega
      nf := fun i o h => by
        simp only [Cx.newK]
        rcases hnewK_some h with ⟨h4, h5⟩ | ⟨h4, h5⟩
        · rw [if_neg (by omega)]; exact hW.nf i o h5
        · rw [if_pos h4]; exact hF _ (Nat.le_refl _)
      inj := fun i j o p h k hb => by
        simp only [Cx.newK] at hb
        rcases hnewK_some h with ⟨h4, h5⟩ | ⟨h4, h5⟩ <;> rcases hnewK_some k with ⟨k4, k5⟩ | ⟨k4, k5⟩
        · rw [if_neg (by omega), if_neg (by omega)] at hb; exact hW.inj i j o p h5 k5 hb
        · rw [if_neg (by omega), if_pos k4] at hb; have := hW.lt i o h5; omega
        · rw [if_pos h4, if_neg (by omega)] at hb; have := hW.lt j p k5; omega
        · omega
      cell := fun i o h k a hk => by
        rcases hnewK_some h with ⟨h4, h5⟩ | ⟨h4, h5⟩
        · obtain ⟨v, h1, h2⟩ := hW.cell i o h5 k a hk
          refine ⟨v, ?_, h2.ext hE⟩
          simp only [Cx.newK, Cx.at]
          rw [if_neg (by omega), if_neg (by omega), ← h1]
          exact cell_of_heap (hold _ (hW.lt i o h5))
        · subst h5
          obtain ⟨v, h1, h2⟩ := hcs k a hk
          refine ⟨v, ?_, h2.ext hE⟩
          simp only [Cx.newK, Cx.at]
          rw [if_pos h4, if_pos h4, Nat.zero_add]
          exact h1
      soft := fun i o h hl k hk => by
        simp only [Cx.newK] at hk ⊢
        rcases hnewK_some h with ⟨h4, h5⟩ | ⟨h4, h5⟩
        · rw [if_neg (by omega)] at hk ⊢
          have hb := hold _ (hW.lt i o h5)
          rw [cell_of_heap hb] at hk
          rw [frozen_of_heap hb]; exact hW.soft i o h5 hl k hk
        · rw [if_pos h4] at hk ⊢
          exact hfr k hk
      flat := fun i o h hl => by
        simp only [Cx.newK]
        rcases hnewK_some h with ⟨h4, h5⟩ | ⟨h4, h5⟩
        · rw [if_neg (by omega)]
          exact (hW.flat i o h5 hl).of (hold _ (hW.lt i o h5))
        · rw [if_pos h4]
          exact hfl
      kind := fun i o h hl => by
        simp only [Cx.newK]
        rcases hnewK_some h with ⟨h4, h5⟩ | ⟨h4, h5⟩
        · rw [if_neg (by omega), if_neg (by omega)]
          exact (hW.kind i o h5 hl).of (hold _ (hW.lt i o h5))
        · rw [if_pos h4, if_pos h4]
          subst h5
          exact hkd }


theorem newT_ok {c : Cx} (hW : WR c) (hF : ∀ b, c.w.heap.size ≤ b → ¬ c.F b) {kd : Kd} {cs : List AV} {vs : Array Value} {t : TypeId} {fr : Nat × Nat} {w' : World} (hkd : kd = .no ∨ kd = .typ t)
    (hw : w'.heap = c.w.heap.push (.cells vs t fr)) (hos : w'.os = c.w.os) (hout : w'.output = c.w.output) (hfr : ∀ k, k < vs.size → (fr.1 ≤ k && k < fr.2) = false) (hfl : fr.1 ≤ fr.2)
    (hcs : ∀ (k : Nat) (a : AV), cs[k]? = some a → ∃ v, vs[k]? = some v ∧ VR c a v) : Ext c (c.newK kd cs w') ∧ WR (c.newK kd cs w') := by
  have hnewb : w'.heap[c.w.heap.size]? = some (.cells vs t fr) := by rw [hw, Array.getElem?_push]; simp
  refine newK_ok hW hF hw hos hout ?_ (fun k hk => ?_) (fun cs t fr e => ?_) (fun k a hk => ?_)
  · rcases hkd with rfl | rfl
    · trivial
    · exact ⟨rfl, vs.size, by simp [World.shape?, hnewb]⟩
  · simp only [World.cell?, hnewb, World.frozen?] at hk ⊢
    have : k < vs.size := by
      rcases Nat.lt_or_ge k vs.size with h6 | h6
      · exact h6
      · simp [Array.getElem?_eq_none h6] at hk
    exact hfr k this
  · rw [hnewb] at e
    cases e
    exact hfl
  · obtain ⟨v, h1, h2⟩ := hcs k a hk
    exact ⟨v, by simp [World.cell?, hnewb, h1], h2⟩

theorem new_ok {c : Cx} (hW : WR c) (hF : ∀ b, c.w.heap.size ≤ b → ¬ c.F b) {cs : List AV} {vs : Array Value} {t : TypeId} {fr : Nat × Nat} {w' : World}
    (hw : w'.heap = c.w.heap.push (.cells vs t fr)) (hos : w'.os = c.w.os) (hout : w'.output = c.w.output) (hfr : ∀ k, k < vs.size → (fr.1 ≤ k && k < fr.2) = false) (hfl : fr.1 ≤ fr.2)
    (hcs : ∀ (k : Nat) (a : AV), cs[k]? = some a → ∃ v, vs[k]? = some v ∧ VR c a v) : Ext c (c.new cs w') ∧ WR (c.new cs w') :=
  newT_ok (kd := .no) hW hF (.inl rfl) hw hos hout hfr hfl hcs

/-! ### a row written, grown, moved, frozen -/
def Cx.re (c : Cx) (i b p : Nat) (o : AObj) (w : World) : Cx :=
  { c with blk := fun j => if j = i then b else c.blk j, base := fun j => if j = i then p else c.base j, A := c.A.set i o, w := w }

theorem set_some {A : Heap} {i j : Nat} {o p : AObj} (h : (A.set i o)[j]? = some p) : (j ≠ i ∧ A[j]? = some p) ∨ (j = i ∧ p = o ∧ i < A.length) := by
  rw [List.getElem?_set] at h
  split at h
  · rename_i e; subst e
    split at h
    · rename_i hlt; cases h; exact .inr ⟨rfl, rfl, hlt⟩
    · cases h
  · rename_i e; exact .inl ⟨fun h => e h.symm, h⟩

theorem re_ok {c : Cx} (hW : WR c) {i : Nat} {o o' : AObj} (hi : c.A[i]? = some o) {b p : Nat} {w' : World} (hlive : o'.live = true → o.live = true)
    (hg : o.gen ≤ o'.gen) (hge : o.gen = o'.gen → b = c.blk i ∧ p = c.base i) (hb : b = c.blk i ∨ (c.w.heap.size ≤ b ∧ ¬ c.F b)) (hsz : c.w.heap.size ≤ w'.heap.size) (hbl : b < w'.heap.size)
    (hfr : ∀ j, j < c.w.heap.size → (j ≠ c.blk i ∨ o.live = false) → w'.heap[j]? = c.w.heap[j]?) (hroom : ∀ a, (c.w.cell? a).isSome = true → (w'.cell? a).isSome = true)
    (hos : w'.os = c.w.os) (hout : w'.output = c.w.output) (hsoft : o'.live = true → ∀ k, (w'.cell? ⟨b, k, none⟩).isSome = true → w'.frozen? ⟨b, k, none⟩ = false) (hfl : o'.live = true → Flat w' b) (hkd : o'.live = true → KdOK w' b p o'.kd)
    (hcs : ∀ (k : Nat) (a : AV), o'.cells[k]? = some a → ∃ v, w'.cell? ⟨b, p + k, none⟩ = some v ∧ VR c a v) :
    Ext c (c.re i b p o' w') ∧ WR (c.re i b p o' w') := by
  have hlt := lt_of_some hi
  have hE : Ext c (c.re i b p o' w') :=
    { F := rfl
      row := fun j q h => by
        by_cases e : j = i
        · subst e
          obtain rfl : o = q := Option.some.inj (hi.symm.trans h)
          refine ⟨o', by simp [Cx.re, hlt], hg, fun e => ?_⟩
          simp only [Cx.re, if_true]
          exact hge e
        · refine ⟨q, by simp only [Cx.re]; rw [List.getElem?_set_ne (by omega)]; exact h, Nat.le_refl _, fun _ => ?_⟩
          simp only [Cx.re]; rw [if_neg e, if_neg e]; exact ⟨rfl, rfl⟩
      own := fun x h => by
        obtain ⟨j, q, h1, h2, h3⟩ := h
        simp only [Cx.re] at h1 h3
        rcases set_some h1 with ⟨h4, h5⟩ | ⟨h4, h5, _⟩
        · rw [if_neg h4] at h3; exact .inl ⟨j, q, h5, h2, h3⟩
        · rw [if_pos h4] at h3
          subst h5; subst h3
          rcases hb with hb | hb
          · exact .inl ⟨i, o, hi, hlive h2, hb.symm⟩
          · exact .inr hb.1
      size := hsz
      frame := fun x hx ho => hfr x hx (by
        by_cases e : x = c.blk i
        · right
          cases hl : o.live with
          | false => rfl
          | true => exact absurd ⟨i, o, hi, hl, e.symm⟩ ho
        · exact .inl e)
      room := hroom
      os := hos
      out := hout }
  refine ⟨hE, ?_⟩
  exact
    { lt := fun j q h => by
        simp only [Cx.re] at h ⊢
        rcases set_some h with ⟨h4, h5⟩ | ⟨h4, h5, _⟩
        · rw [if_neg h4]; exact Nat.lt_of_lt_of_le (hW.lt j q h5) hsz
        · rw [if_pos h4]; exact hbl
      nf := fun j q h => by
        simp only [Cx.re] at h ⊢
        rcases set_some h with ⟨h4, h5⟩ | ⟨h4, h5, _⟩
        · rw [if_neg h4]; exact hW.nf j q h5
        · rw [if_pos h4]
          rcases hb with hb | hb
          · rw [hb]; exact hW.nf i o hi
          · exact hb.2
      inj := fun j k q r h h' hbk => by
        simp only [Cx.re] at h h' hbk
        rcases set_some h with ⟨h4, h5⟩ | ⟨h4, h5, _⟩ <;> rcases set_some h' with ⟨k4, k5⟩ | ⟨k4, k5, _⟩
        · rw [if_neg h4, if_neg k4] at hbk; exact hW.inj j k q r h5 k5 hbk
        · rw [if_neg h4, if_pos k4] at hbk
          rcases hb with hb | hb
          · exact absurd (hW.inj j i q o h5 hi (hbk.trans hb)) h4
          · have := hW.lt j q h5; omega
        · rw [if_pos h4, if_neg k4] at hbk
          rcases hb with hb | hb
          · exact absurd (hW.inj k i r o k5 hi (hbk.symm.trans hb)) k4
          · have := hW.lt k r k5; omega
        · omega
      cell := fun j q h k a hk => by
        simp only [Cx.re] at h
        rcases set_some h with ⟨h4, h5⟩ | ⟨h4, h5, _⟩
        · obtain ⟨v, h1, h2⟩ := hW.cell j q h5 k a hk
          refine ⟨v, ?_, h2.ext hE⟩
          simp only [Cx.re, Cx.at]
          rw [if_neg h4, if_neg h4, ← h1]
          exact cell_of_heap (hfr _ (hW.lt j q h5) (.inl fun e => h4 (hW.inj j i q o h5 hi e)))
        · subst h5
          obtain ⟨v, h1, h2⟩ := hcs k a hk
          refine ⟨v, ?_, h2.ext hE⟩
          simp only [Cx.re, Cx.at]
          rw [if_pos h4, if_pos h4]; exact h1
      soft := fun j q h hl k hk => by
        simp only [Cx.re] at h hk ⊢
        rcases set_some h with ⟨h4, h5⟩ | ⟨h4, h5, _⟩
        · rw [if_neg h4] at hk ⊢
          have hh := hfr _ (hW.lt j q h5) (.inl fun e => h4 (hW.inj j i q o h5 hi e))
          rw [cell_of_heap hh] at hk
          rw [frozen_of_heap hh]; exact hW.soft j q h5 hl k hk
        · rw [if_pos h4] at hk ⊢
          subst h5
          exact hsoft hl k hk
      flat := fun j q h hl => by
        simp only [Cx.re] at h ⊢
        rcases set_some h with ⟨h4, h5⟩ | ⟨h4, h5, _⟩
        · rw [if_neg h4]
          exact (hW.flat j q h5 hl).of (hfr _ (hW.lt j q h5) (.inl fun e => h4 (hW.inj j i q o h5 hi e)))
        · rw [if_pos h4]
          subst h5
          exact hfl hl
      kind := fun j q h hl => by
        simp only [Cx.re] at h ⊢
        rcases set_some h with ⟨h4, h5⟩ | ⟨h4, h5, _⟩
        · rw [if_neg h4, if_neg h4]
          exact (hW.kind j q h5 hl).of (hfr _ (hW.lt j q h5) (.inl fun e => h4 (hW.inj j i q o h5 hi e)))
        · rw [if_pos h4, if_pos h4]
          subst h5
          exact hkd hl }

/-! ### setCells as such -/
theorem setCells_heap (b : Nat) : ∀ (vs : List Value) (o : Nat) (w : World) (j : Nat), j ≠ b → (w.setCells b o vs).heap[j]? = w.heap[j]?
  | [], _, _, _, _ => rfl
  | v :: r, o, w, j, h => by
    rw [World.setCells, setCells_heap b r (o + 1) _ j h]
    simp only [World.setCell]
    rw [Array.getElem?_modify, if_neg (fun e => h e.symm)]
theorem setCells_size (b : Nat) : ∀ (vs : List Value) (o : Nat) (w : World), (w.setCells b o vs).heap.size = w.heap.size
  | [], _, _ => rfl
  | v :: r, o, w => by rw [World.setCells, setCells_size b r]; simp [World.setCell]
theorem setCells_os (b : Nat) : ∀ (vs : List Value) (o : Nat) (w : World), (w.setCells b o vs).os = w.os ∧ (w.setCells b o vs).output = w.output
  | [], _, _ => ⟨rfl, rfl⟩
  | v :: r, o, w => by rw [World.setCells]; exact setCells_os b r (o + 1) _
theorem setCells_room (b : Nat) : ∀ (vs : List Value) (o : Nat) (w : World) (a : Addr), (w.cell? a).isSome = true → ((w.setCells b o vs).cell? a).isSome = true
  | [], _, _, _, h => h
  | v :: r, o, w, a, h => by
    rw [World.setCells]
    refine setCells_room b r (o + 1) _ a ?_
    obtain ⟨u, hu⟩ := Option.isSome_iff_exists.1 h
    by_cases e : (⟨b, o, none⟩ : Addr) = a
    · subst e; rw [World.cell?_setCell_same _ _ _ hu]; rfl
    · rw [World.cell?_setCell_other _ _ _ _ e]; exact h
theorem setCells_room' (b : Nat) : ∀ (vs : List Value) (o : Nat) (w : World) (a : Addr), ((w.setCells b o vs).cell? a).isSome = true → (w.cell? a).isSome = true
  | [], _, _, _, h => h
  | v :: r, o, w, a, h => by
    rw [World.setCells] at h
    have h1 := setCells_room' b r (o + 1) _ a h
    by_cases e : (⟨b, o, none⟩ : Addr) = a
    · subst e
      simp only [World.cell?, World.setCell] at h1 ⊢
      rw [Array.getElem?_modify] at h1
      simp only [if_true] at h1
      cases hb : w.heap[b]? with
      | none => rw [hb] at h1; simp at h1
      | some x =>
        rw [hb] at h1
        cases x with
        | cells c t fr =>
          simp only [Option.map_some, Option.isSome_none, Bool.false_eq_true, if_false] at h1 ⊢
          have : o < (c.setIfInBounds o v).size := by
            rcases Nat.lt_or_ge o (c.setIfInBounds o v).size with h6 | h6
            · exact h6
            · rw [Array.getElem?_eq_none h6] at h1; simp at h1
          simp at this
          simp [this]
        | _ => simp at h1
    · rw [World.cell?_setCell_other _ _ _ _ e] at h1
      exact h1
theorem setCells_flat (b' : Nat) (b : Nat) : ∀ (vs : List Value) (o : Nat) (w : World), Flat w b → Flat (w.setCells b' o vs) b
  | [], _, _, h => h
  | v :: r, o, w, h => by
    rw [World.setCells]
    refine setCells_flat b' b r (o + 1) _ ?_
    intro cs t fr e
    simp only [World.setCell] at e
    rw [Array.getElem?_modify] at e
    split at e
    · cases hb : w.heap[b]? with
      | none => rw [hb] at e; cases e
      | some x =>
        rw [hb] at e
        cases x with
        | cells c t' fr' =>
          simp only [Option.map_some, Option.some.injEq, Obj.cells.injEq] at e
          obtain ⟨_, _, rfl⟩ := e
          exact h _ _ _ hb
        | _ => simp at e
    · exact h _ _ _ e
theorem shape_setCells (b : Nat) : ∀ (vs : List Value) (o : Nat) (w : World) (j : Nat), (w.setCells b o vs).shape? j = w.shape? j
  | [], _, _, _ => rfl
  | v :: r, o, w, j => by
    rw [World.setCells, shape_setCells b r (o + 1) _ j]
    by_cases e : b = j
    · subst e
      simp only [World.setCell, World.shape?, Array.getElem?_modify, if_true]
      cases w.heap[b]? with
      | none => rfl
      | some x => cases x <;> simp
    · simp only [World.setCell, World.shape?, Array.getElem?_modify, if_neg e]
theorem iter_setCells (b : Nat) {s : ByteArray} {pos : Nat} : ∀ (vs : List Value) (o : Nat) (w : World), w.heap[b]? = some (.stringIter s pos) → (w.setCells b o vs).heap[b]? = some (.stringIter s pos)
  | [], _, _, h => h
  | v :: r, o, w, h => by
    rw [World.setCells]
    refine iter_setCells b r (o + 1) _ ?_
    simp [World.setCell, Array.getElem?_modify, h]
theorem KdOK.setCells {w : World} {b p : Nat} {k : Kd} (h : KdOK w b p k) (o : Nat) (vs : List Value) : KdOK (w.setCells b o vs) b p k := by
  cases k with
  | no => trivial
  | it s pos => exact ⟨h.1, iter_setCells b vs o w h.2⟩
  | typ t =>
    obtain ⟨h1, n, h2⟩ := h
    exact ⟨h1, n, by rw [shape_setCells]; exact h2⟩
end Go.Eng
