/- The abstract interpreter: slices by value, a heap of rows for variables; fuel, and the fuel-free limit. No condition. -/
import Derived.Calls
import Derived.Orders
import Derived.KernelRfl
namespace Go.Eng
open Go

/-- Abstract values. 'unk': nothing is known. 'cst': nil values and constant addresses. 'ptr i off g': cell 'off' of row 'i' at generation 'g'. 'ep cells': an address behind which these cells lie for good.
'sl full n e cells': a slice whose cells lie there for good ('full': no spare room). 'ms i off n e g': a slice of row 'i'. -/
inductive AV where
  | unk
  | bool (b : Bool)
  | int (k : IntKind) (n : Int)
  | str (s : List UInt8)
  | cst (v : Value)
  | ptr (i off g : Nat)
  | ep (cells : List AV)
  | sl (full : Bool) (n e : Nat) (cells : List AV)
  | ms (i off n e g : Nat)
  | fn (f : Fn) (first captured : List AV)
  | iface (t : TypeId) (x : AV)
  | agg (cells : List AV)
  | tup (xs : List AV)

instance : Inhabited AV := ⟨.unk⟩

abbrev AV.nil : AV := .cst .nilIface
abbrev AV.nils : AV := .cst (.slice none 0 0)
abbrev AV.nilp : AV := .cst (.pointer none)
/-- What an operation that did not run leaves. -/
abbrev AV.und : AV := .cst (.tuple #[])

def AV.cells : AV → List AV
  | .agg cs => cs
  | v => [v]

structure AObj where
  cells : List AV
  gen : Nat
  live : Bool

abbrev Heap := List AObj

def hget (H : Heap) (i off n g : Nat) : Option (List AV) :=
  match H[i]? with
  | some o => if g = o.gen ∧ off + n ≤ o.cells.length then some ((o.cells.drop off).take n) else none
  | none => none

def splice (cs : List AV) (off : Nat) (vs : List AV) : List AV := cs.take off ++ vs ++ cs.drop (off + vs.length)

def hset (H : Heap) (i off g : Nat) (vs : List AV) : Option Heap :=
  match H[i]? with
  | some o => if g = o.gen ∧ o.live = true ∧ off + vs.length ≤ o.cells.length then some (H.set i { o with cells := splice o.cells off vs }) else none
  | none => none

/-- A row more, and its number. -/
def hnew (H : Heap) (cs : List AV) : Heap := H ++ [⟨cs, 0, true⟩]

/-- May stand in one cell. -/
def AV.isCell : AV → Bool
  | .unk | .agg _ | .tup _ => false
  | .cst (.agg _) | .cst (.tuple _) => false
  | _ => true

/-! ### closed values, snapshots -/
mutual
def AV.closed : AV → Bool
  | .unk | .ptr .. | .ms .. => false
  | .bool _ | .int _ _ | .str _ | .cst _ => true
  | .ep cs => closedL cs
  | .sl _ _ _ cs => closedL cs
  | .fn _ a b => closedL a && closedL b
  | .iface _ x => x.closed
  | .agg cs => closedL cs
  | .tup cs => closedL cs
def closedL : List AV → Bool
  | [] => true
  | a :: as => a.closed && closedL as
end

def freeze (H : Heap) (i : Nat) : Heap :=
  match H[i]? with
  | some o => H.set i { o with live := false }
  | none => H

def mapS (f : Heap → AV → Option (AV × Heap)) : Heap → List AV → Option (List AV × Heap)
  | H, [] => some ([], H)
  | H, a :: as => match f H a with
    | some (a', H') => match mapS f H' as with
      | some (as', H'') => some (a' :: as', H'')
      | none => none
    | none => none

/-- A value as it is at this moment, for good: the rows that it leans on are frozen. -/
def snap : Nat → Heap → AV → Option (AV × Heap)
  | 0, _, _ => none
  | k + 1, H, v => match v with
    | .ms i off n e g => match hget H i off (n * e) g with
      | some cs => match mapS (snap k) H cs with
        | some (cs', H') => some (.sl false n e cs', freeze H' i)
        | none => none
      | none => none
    | .agg cs => match mapS (snap k) H cs with
      | some (cs', H') => some (.agg cs', H')
      | none => none
    | .tup cs => match mapS (snap k) H cs with
      | some (cs', H') => some (.tup cs', H')
      | none => none
    | .iface t x => match snap k H x with
      | some (x', H') => some (.iface t x', H')
      | none => none
    | .sl _ n e cs => bif closedL cs then some (.sl false n e cs, H) else none
    | v => bif v.closed then some (v, H) else none

/-! ### tables -/
inductive EqT where
  | bool
  | int
  | str
  | iface
  | nsl
  | nfn
  | nptr
  | struct (fs : List (Nat × EqT))

/-- How a type assertion asks: for a type (its zero value), or for an interface. -/
inductive TA where
  | conc (t : TypeId) (zero : AV)
  | ifc (t : TypeId)

inductive Opd where
  | t (n : Nat)
  | k (v : AV)
  | fn (f : FuncId)
  | g (n : Nat)

inductive CvT where
  | int (k : IntKind)
  | toBytes
  | ofBytes
  | same

inductive SlT where
  | str
  | sl (e : Nat)
  | arr (n e : Nat)

inductive AOp where
  | mv (x : Opd)
  | pick (c a b : Opd)
  | alloc (zero : List AV)
  | box (x : Opd)
  | build (zero : List AV) (parts : List (Nat × Nat × Opd))
  | lit (n e : Nat) (zero : List AV) (parts : List (Nat × Nat × Opd))
  | load (n : Option Nat) (x : Opd)
  | store (n : Nat) (a x : Opd)
  | nilCheck (x : Opd)
  | bin (op : BinOp) (q : EqT) (c : Bool) (x y : Opd)
  | un (op : UnOp) (x : Opd)
  | conv (c : CvT) (x : Opd)
  | mkIface (t : TypeId) (x : Opd)
  | mkFunc (f : Fn) (first captured : List Opd)
  | mkSlice (e bytes : Nat) (zero : List AV) (l c : Opd)
  | slice (k : SlT) (x : Opd) (lo hi mx : Option Opd)
  | faddr (off : Nat) (x : Opd)
  | field (off : Nat) (n : Option Nat) (x : Opd)
  | iaddr (arr : Option Nat) (e : Nat) (x ix : Opd)
  | idxS (x ix : Opd)
  | idxA (len e : Nat) (n : Option Nat) (x ix : Opd)
  | extract (x : Opd) (k : Nat)
  | len (x : Opd)
  | lenS (x : Opd)
  | lenC (n : Nat)
  | min (x y : Opd)
  | max (x y : Opd)
  | append (e bytes : Nat) (x y : Opd)
  | copy (e : Nat) (x y : Opd)
  | call (f : Opd) (args : List Opd)
  | invoke (x : Opd) (m : String) (args : List Opd)
  | tassert (x : Opd) (k : TA) (ok : Bool)
  | fail

structure AOper where
  dst : Option Nat
  op : AOp
  guard : Option (Option Nat × Bool)

inductive ACode where
  | skip
  | region (ops : List AOper)
  | draw (ops : List AOper)
  | seq (a b : ACode)
  | cond (c : Opd) (a b : ACode)
  | block (id : Nat) (live : List Nat) (body : ACode)
  | loop (live : List Nat) (body : ACode)
  | exit (id : Nat)
  | scope (body : ACode)
  | ret
  | fail

inductive AEx where
  | normal
  | exit (id : Nat)
  | ret

inductive ResV where
  | tmp (t : Nat)
  | cell (t : Nat) (n : Option Nat)

inductive FDef where
  | code (pure : Bool) (body : ACode) (res : List ResV)
  | prim (p : List AV → Heap → Option (AV × Heap))

structure Tab where
  fn : Nat → Option FDef
  glob : Nat → Option (List AV)
  meth : TypeId → String → Option (FuncId × Option Nat)
  via : Fn → Option FuncId
  eqt : TypeId → Option EqT
  impl : TypeId → TypeId → Option Bool

abbrev Env := List (Nat × AV)

def Env.get : Env → Nat → AV
  | [], _ => .unk
  | (d, v) :: r, t => bif d == t then v else Env.get r t

def Env.keep (live : List Nat) (e : Env) : Env := live.map fun t => (t, e.get t)

def ev (T : Tab) (e : Env) : Opd → AV
  | .t n => e.get n
  | .k v => v
  | .fn f => .fn (.func f) [] []
  | .g n => match T.glob n with
    | some cs => .ep cs
    | none => .unk

/-! ### plain operations -/
/-- A bound on what is made: 2 ^ 40. -/
def LIM : Nat := 1099511627776

def intBin (op : BinOp) (k : IntKind) (x y : Int) : Option AV :=
  match op with
  | .add => some (.int k (k.wrap (x + y)))
  | .sub => some (.int k (k.wrap (x - y)))
  | .mul => some (.int k (k.wrap (x * y)))
  | .quo => if y = 0 then none else some (.int k (k.wrap (x.tdiv y)))
  | .rem => if y = 0 then none else some (.int k (x.tmod y))
  | .and => some (.int k (k.wrap (BitVec.ofInt k.bits x &&& BitVec.ofInt k.bits y).toNat))
  | .or => some (.int k (k.wrap (BitVec.ofInt k.bits x ||| BitVec.ofInt k.bits y).toNat))
  | .xor => some (.int k (k.wrap (BitVec.ofInt k.bits x ^^^ BitVec.ofInt k.bits y).toNat))
  | .andNot => some (.int k (k.wrap (BitVec.ofInt k.bits x &&& ~~~ (BitVec.ofInt k.bits y)).toNat))
  | .eql => some (.bool (x == y))
  | .neq => some (.bool (x != y))
  | .lss => some (.bool (x < y))
  | .leq => some (.bool (x ≤ y))
  | .gtr => some (.bool (x > y))
  | .geq => some (.bool (x ≥ y))
  | .shl | .shr => none

def shiftOp (op : BinOp) (k : IntKind) (x y : Int) : Option AV :=
  if y < 0 then none else
    match op with
    | .shl => some (.int k (k.wrap (x * 2 ^ (min y.toNat k.bits))))
    | .shr => some (.int k (x.fdiv (2 ^ (min y.toNat k.bits))))
    | _ => none

def strBin (op : BinOp) (x y : List UInt8) : Option AV :=
  match op with
  | .add => if x.length + y.length ≤ LIM then some (.str (x ++ y)) else none
  | .eql => some (.bool (x == y))
  | .neq => some (.bool (!(x == y)))
  | .lss => some (.bool (Op.bytesLess x y))
  | .leq => some (.bool (Op.bytesLess x y || x == y))
  | .gtr => some (.bool (!(Op.bytesLess x y || x == y)))
  | .geq => some (.bool (!(Op.bytesLess x y)))
  | _ => none

/-- '==' of what is no number, string. 'c': one of the two is written 'nil'. -/
def aeq (T : Tab) : Nat → EqT → Bool → AV → AV → Option Bool
  | 0, _, _, _, _ => none
  | f + 1, q, c, x, y => match q, x, y with
    | .bool, .bool a, .bool b => some (a == b)
    | .int, .int k a, .int k' b => if k = k' then some (a == b) else none
    | .str, .str a, .str b => some (a == b)
    | .iface, .cst .nilIface, .cst .nilIface => bif c then some true else none
    | .iface, .cst .nilIface, .iface _ _ => some false
    | .iface, .iface _ _, .cst .nilIface => some false
    | .iface, .iface t x, .iface u y => if t = u then
        match T.eqt t with
        | some q => aeq T f q true x y
        | none => none
      else some false
    | .nsl, .cst (.slice none _ _), .cst (.slice none _ _) => some true
    | .nsl, .cst (.slice none _ _), .sl .. => some false
    | .nsl, .cst (.slice none _ _), .ms .. => some false
    | .nsl, .sl .., .cst (.slice none _ _) => some false
    | .nsl, .ms .., .cst (.slice none _ _) => some false
    | .nptr, .cst (.pointer none), .cst (.pointer none) => some true
    | .nptr, .cst (.pointer none), .ptr .. => some false
    | .nptr, .ptr .., .cst (.pointer none) => some false
    | .nfn, .cst .nilFunc, .cst .nilFunc => some true
    | .nfn, .cst .nilFunc, .fn .. => some false
    | .nfn, .fn .., .cst .nilFunc => some false
    | .struct fs, .agg xs, .agg ys => fs.foldr (fun (p : Nat × EqT) r =>
        match xs[p.1]?, ys[p.1]? with
        | some x, some y => match aeq T f p.2 true x y with
          | some true => r
          | some false => some false
          | none => none
        | _, _ => none) (some true)
    | _, _, _ => none

def aun (op : UnOp) : AV → Option AV
  | .int k n => match op with
    | .neg => some (.int k (k.wrap (0 - n)))
    | .xor => some (.int k (k.wrap (BitVec.ofInt k.bits (if k.signed then -1 else k.max) ^^^ BitVec.ofInt k.bits n).toNat))
    | _ => none
  | .bool b => match op with
    | .not => some (.bool (!b))
    | _ => none
  | _ => none

/-- The bytes of cells. -/
def bytesOf : List AV → Option (List UInt8)
  | [] => some []
  | .int .u8 n :: r => match bytesOf r with
    | some l => some (UInt8.ofNat n.toNat :: l)
    | none => none
  | _ => none

def bcells (s : List UInt8) : List AV := s.map fun b => .int .u8 b.toNat

/-- The cells of a slice or a string's bytes, and how many elements. -/
def viewOf (H : Heap) (e : Nat) : AV → Option (Nat × List AV)
  | .cst (.slice none 0 0) => some (0, [])
  | .str s => if e = 1 then some (s.length, bcells s) else none
  | .sl _ n e' cs => if e' = e then some (n, cs) else none
  | .ms i off n e' g => if e' = e then (hget H i off (n * e) g).map fun cs => (n, cs) else none
  | _ => none

def fillP (cs : List AV) : List (Nat × Nat × AV) → Option (List AV)
  | [] => some cs
  | (off, size, v) :: r => if v.cells.length = size ∧ off + size ≤ cs.length ∧ v.cells.all AV.isCell = true then fillP (splice cs off v.cells) r else none

def reps (n : Nat) (z : List AV) : List AV := match n with
  | 0 => []
  | n + 1 => z ++ reps n z

/-- Slice bounds: an int from 0 to m. -/
def bnd (m : Nat) : AV → Option Nat
  | .int _ i => if 0 ≤ i ∧ i ≤ m then some i.toNat else none
  | _ => none

def bndO (m : Nat) (d : Nat) : Option AV → Option Nat
  | none => some d
  | some v => bnd m v

def bndR (m : Nat) : Option AV → Option Nat
  | none => none
  | some v => bnd m v

def ix (m : Nat) : AV → Option Nat
  | .int _ i => if 0 ≤ i ∧ i < m then some i.toNat else none
  | _ => none

def partA (cs : List AV) (off : Nat) : Option Nat → Option AV
  | none => cs[off]?
  | some n => if off + n ≤ cs.length then some (.agg ((cs.drop off).take n)) else none

def aslice (H : Heap) (k : SlT) (x : AV) (lo hi mx : Option AV) : Option AV :=
  match k, x with
  | .str, .str s => match mx with
    | some _ => none
    | none => match bndO s.length s.length hi with
      | none => none
      | some h => match bndO h 0 lo with
        | none => none
        | some l => some (.str ((s.take h).drop l))
  | .sl e, .sl full n e' cs => if e = e' then
      match mx with
      | none => match bndO n n hi with
        | none => none
        | some h => match bndO h 0 lo with
          | none => none
          | some l => some (.sl (full && h == n) (h - l) e ((cs.drop (l * e)).take ((h - l) * e)))
      | some m => match bnd n m with
        | none => none
        | some m => match bndR m hi with
          | none => none
          | some h => match bndO h 0 lo with
            | none => none
            | some l => if h ≤ n then some (.sl (h == m) (h - l) e ((cs.drop (l * e)).take ((h - l) * e))) else none
    else none
  | .sl e, .ms i off n e' g => if e = e' then
      match mx with
      | none => match bndO n n hi with
        | none => none
        | some h => match bndO h 0 lo with
          | none => none
          | some l => some (.ms i (off + l * e) (h - l) e g)
      | some m => match bnd n m with
        | none => none
        | some m => match bndR m hi with
          | none => none
          | some h => match bndO h 0 lo with
            | none => none
            | some _ => if m = 0 then some (.sl true 0 e []) else none
    else none
  | .sl _, .cst (.slice none 0 0) => match mx with
      | none => match bndO 0 0 hi with
        | none => none
        | some h => match bndO h 0 lo with
          | none => none
          | some _ => some (.cst (.slice none 0 0))
      | some m => match bnd 0 m with
        | none => none
        | some m => match bndR m hi with
          | none => none
          | some h => match bndO h 0 lo with
            | none => none
            | some _ => some (.cst (.slice none 0 0))
  | .arr n e, .ptr i off g => match mx, hget H i off (n * e) g with
    | none, some _ => match bndO n n hi with
      | none => none
      | some h => match bndO h 0 lo with
        | none => none
        | some l => some (.ms i (off + l * e) (h - l) e g)
    | _, _ => none
  | _, _ => none

/-- append(x, new..): 'm' elements in the cells 'ys'. -/
def aappend (H : Heap) (e bytes : Nat) (x : AV) (m : Nat) (ys : List AV) : Option (AV × Heap) :=
  if m = 0 then (match x with
    | .cst (.slice none 0 0) => some (x, H)
    | .sl .. => some (x, H)
    | .ms .. => some (x, H)
    | _ => none) else
  bif !(ys.all AV.isCell) then none else
  match x with
  | .cst (.slice none 0 0) => if m * (bytes + 1) ≤ LIM then some (.ms H.length 0 m e 0, hnew H ys) else none
  | .sl true n e' cs => if e = e' ∧ (n + m) * (bytes + 1) ≤ LIM then some (.ms H.length 0 (n + m) e 0, hnew H (cs ++ ys)) else none
  | .ms i off n e' g => if e = e' ∧ (n + m) * (bytes + 1) ≤ LIM then
      match H[i]? with
      | some o => if g = o.gen ∧ o.live = true ∧ off + n * e ≤ o.cells.length then
          some (.ms i 0 (n + m) e (g + 1), H.set i ⟨(o.cells.drop off).take (n * e) ++ ys, g + 1, true⟩) else none
      | none => none
    else none
  | _ => none

def invokeM (T : Tab) (callF : FuncId → List AV → Heap → Option (AV × Heap)) (x : AV) (m : String) (args : List AV) (H : Heap) : Option (AV × Heap) :=
  match x with
  | .iface t v => match T.meth t m with
    | some (f, none) => callF f (v :: args) H
    | some (f, some _) => match v with
      | .agg [u] => callF f (u :: args) H
      | _ => none
    | none => none
  | _ => none

def applyF (T : Tab) (callF : FuncId → List AV → Heap → Option (AV × Heap)) (f : AV) (args : List AV) (H : Heap) : Option (AV × Heap) :=
  match f with
  | .fn (.func f) first cap => callF f (first ++ args ++ cap) H
  | .fn (.method m) first _ => match first ++ args with
    | x :: r => invokeM T callF x m r H
    | [] => none
  | .fn fv first _ => match T.via fv, first ++ args with
    | some f, x :: r => callF f (x :: r) H
    | _, _ => none
  | _ => none

def evO (T : Tab) (e : Env) (o : Option Opd) : Option AV := match o with
  | none => none
  | some x => some (ev T e x)

def aop (T : Tab) (callF : FuncId → List AV → Heap → Option (AV × Heap)) (o : AOp) (e : Env) (H : Heap) : Option (AV × Heap) :=
  match o with
  | .mv x => some (ev T e x, H)
  | .pick c a b => match ev T e c with
    | .bool t => some (bif t then ev T e a else ev T e b, H)
    | _ => none
  | .alloc z => some (.ptr H.length 0 0, hnew H z)
  | .box x => bif (ev T e x).cells.all AV.isCell then some (.ptr H.length 0 0, hnew H (ev T e x).cells) else none
  | .build z ps => match fillP z (ps.map fun p => (p.1, p.2.1, ev T e p.2.2)) with
    | some cs => some (.agg cs, H)
    | none => none
  | .lit n s z ps => match fillP (reps n z) (ps.map fun p => (p.1, p.2.1, ev T e p.2.2)) with
    | some cs => some (.sl true n s cs, H)
    | none => none
  | .load none x => match ev T e x with
    | .ptr i off g => match hget H i off 1 g with
      | some [v] => some (v, H)
      | _ => none
    | .ep (v :: _) => some (v, H)
    | _ => none
  | .load (some n) x => match ev T e x with
    | .ptr i off g => match hget H i off n g with
      | some cs => some (.agg cs, H)
      | none => none
    | .ep cs => if n ≤ cs.length then some (.agg (cs.take n), H) else none
    | _ => none
  | .store n a x => match ev T e a with
    | .ptr i off g => if (ev T e x).cells.length = n ∧ (ev T e x).cells.all AV.isCell = true then
        match hset H i off g (ev T e x).cells with
        | some H' => some (.und, H')
        | none => none
      else none
    | _ => none
  | .nilCheck x => match ev T e x with
    | .ptr i off g => some (.ptr i off g, H)
    | .ep cs => some (.ep cs, H)
    | .iface t v => some (.iface t v, H)
    | .fn (.method m) (.iface t v :: r) c => match T.meth t m with
      | some (_, none) => some (.fn (.method m) (.iface t v :: r) c, H)
      | _ => none
    | .fn (.func f) a c => some (.fn (.func f) a c, H)
    | _ => none
  | .bin op q c x y => match ev T e x, ev T e y with
    | .int k a, .int k' b => match op with
      | .shl => (shiftOp .shl k a b).map (·, H)
      | .shr => (shiftOp .shr k a b).map (·, H)
      | op => if k = k' then (intBin op k a b).map (·, H) else none
    | .str a, .str b => (strBin op a b).map (·, H)
    | a, b => match op with
      | .eql => (aeq T 9 q c a b).map fun r => (.bool r, H)
      | .neq => (aeq T 9 q c a b).map fun r => (.bool (!r), H)
      | _ => none
  | .un op x => (aun op (ev T e x)).map (·, H)
  | .conv (.int k) x => match ev T e x with
    | .int _ n => some (.int k (k.wrap n), H)
    | _ => none
  | .conv .toBytes x => match ev T e x with
    | .str s => if s.length ≤ LIM then some (.ms H.length 0 s.length 1 0, hnew H (bcells s)) else none
    | _ => none
  | .conv .ofBytes x => match viewOf H 1 (ev T e x) with
    | some (_, cs) => match ev T e x with
      | .str _ => none
      | _ => (bytesOf cs).map fun s => (.str s, H)
    | none => none
  | .conv .same x => match ev T e x with
    | .str s => some (.str s, H)
    | _ => none
  | .mkIface t x => some (.iface t (ev T e x), H)
  | .mkFunc f a c => some (.fn f (a.map (ev T e)) (c.map (ev T e)), H)
  | .mkSlice s bytes z l c => match ev T e l, ev T e c with
    | .int _ l, .int _ c => if 0 ≤ l ∧ l ≤ c ∧ c * (bytes + 1) ≤ LIM then some (.ms H.length 0 l.toNat s 0, hnew H (reps c.toNat z)) else none
    | _, _ => none
  | .slice k x lo hi mx => (aslice H k (ev T e x) (evO T e lo) (evO T e hi) (evO T e mx)).map (·, H)
  | .faddr off x => match ev T e x with
    | .ptr i o g => some (.ptr i (o + off) g, H)
    | .ep cs => some (.ep (cs.drop off), H)
    | _ => none
  | .field off n x => match ev T e x with
    | .agg cs => (partA cs off n).map (·, H)
    | _ => none
  | .iaddr none s x i => match ev T e x with
    | .sl _ n s' cs => if s = s' then (ix n (ev T e i)).map fun i => (.ep (cs.drop (i * s)), H) else none
    | .ms j off n s' g => if s = s' then (ix n (ev T e i)).map fun i => (.ptr j (off + i * s) g, H) else none
    | _ => none
  | .iaddr (some n) s x i => match ev T e x with
    | .ptr j off g => (ix n (ev T e i)).map fun i => (.ptr j (off + i * s) g, H)
    | .ep cs => (ix n (ev T e i)).map fun i => (.ep (cs.drop (i * s)), H)
    | _ => none
  | .idxS x i => match ev T e x with
    | .str s => match ix s.length (ev T e i) with
      | some i => match s[i]? with
        | some b => some (.int .u8 b.toNat, H)
        | none => none
      | none => none
    | _ => none
  | .idxA len s n x i => match ev T e x with
    | .agg cs => match ix len (ev T e i) with
      | some i => (partA cs (i * s) n).map (·, H)
      | none => none
    | _ => none
  | .extract x k => match ev T e x with
    | .tup xs => match xs[k]? with
      | some v => some (v, H)
      | none => none
    | _ => none
  | .lenS x => match ev T e x with
    | .str s => some (.int .i64 s.length, H)
    | _ => none
  | .len x => match ev T e x with
    | .sl _ n _ _ => some (.int .i64 n, H)
    | .ms _ _ n _ _ => some (.int .i64 n, H)
    | .cst (.slice none 0 0) => some (.int .i64 0, H)
    | _ => none
  | .lenC n => some (.int .i64 n, H)
  | .min x y => match ev T e x, ev T e y with
    | .int k a, .int _ b => some (.int k (if b < a then b else a), H)
    | _, _ => none
  | .max x y => match ev T e x, ev T e y with
    | .int k a, .int _ b => some (.int k (if a < b then b else a), H)
    | _, _ => none
  | .append s bytes x y => match viewOf H s (ev T e y) with
    | some (m, ys) => aappend H s bytes (ev T e x) m ys
    | none => none
  | .copy s x y => match viewOf H s (ev T e y) with
    | some (m, ys) => match ev T e x with
      | .ms i off n s' g => if s = s' ∧ ys.all AV.isCell = true then
          match hset H i off g (ys.take ((Nat.min m n) * s)) with
          | some H' => some (.int .i64 (Nat.min m n), H')
          | none => none
        else none
      | _ => none
    | none => none
  | .call f args => applyF T callF (ev T e f) (args.map (ev T e)) H
  | .invoke x m args => invokeM T callF (ev T e x) m (args.map (ev T e)) H
  | .tassert x k ok => match k, ev T e x with
    | .conc t z, .iface u v => if u = t then some (bif ok then .tup [v, .bool true] else v, H) else bif ok then some (.tup [z, .bool false], H) else none
    | .conc _ z, .cst .nilIface => bif ok then some (.tup [z, .bool false], H) else none
    | .ifc t, .iface u v => match T.impl t u with
      | some true => some (bif ok then .tup [.iface u v, .bool true] else .iface u v, H)
      | some false => bif ok then some (.tup [.cst .nilIface, .bool false], H) else none
      | none => none
    | .ifc _, .cst .nilIface => bif ok then some (.tup [.cst .nilIface, .bool false], H) else none
    | _, _ => none
  | .fail => none

def wantedA (e : Env) : Option (Option Nat × Bool) → Option Bool
  | none => some true
  | some (none, _) => none
  | some (some t, b) => match e.get t with
    | .bool c => some (c == b)
    | .cst (.tuple _) => some false
    | _ => none

def putA (e : Env) (d : Option Nat) (v : AV) : Env := match d with
  | none => e
  | some d => (d, v) :: e

def runOps (T : Tab) (callF : FuncId → List AV → Heap → Option (AV × Heap)) : List AOper → Env → Heap → Option (Env × Heap)
  | [], e, H => some (e, H)
  | o :: r, e, H => match wantedA e o.guard with
    | none => none
    | some false => runOps T callF r (putA e o.dst .und) H
    | some true => match aop T callF o.op e H with
      | some (v, H') => runOps T callF r (putA e o.dst v) H'
      | none => none

def isPure (T : Tab) (f : FuncId) : Bool := match T.fn f with
  | some (.code p _ _) => p
  | _ => false

/-- Operations that leave the abstract heap alone, by their form; a call by the function's own flag and closed arguments. -/
def quietOp (T : Tab) (e : Env) : AOp → Bool
  | .mv _ | .pick .. | .build .. | .lit .. | .load .. | .nilCheck _ | .bin .. | .un .. | .mkIface .. | .mkFunc .. | .slice .. | .faddr .. | .field .. | .iaddr .. | .idxS .. | .idxA .. | .extract ..
  | .len _ | .lenS _ | .lenC _ | .min .. | .max .. | .tassert .. => true
  | .conv c _ => match c with
    | .toBytes => false
    | _ => true
  | .call f args => match ev T e f with
    | .fn (.func f) a c => isPure T f && closedL a && closedL c && closedL (args.map (ev T e))
    | .fn (.method m) (.iface t v :: a) _ => (match T.meth t m with
      | some (f, none) => isPure T f && v.closed && closedL a && closedL (args.map (ev T e))
      | _ => false)
    | _ => false
  | .invoke x m args => match ev T e x with
    | .iface t v => (match T.meth t m with
      | some (f, none) => isPure T f && v.closed && closedL (args.map (ev T e))
      | _ => false)
    | _ => false
  | _ => false

/-- A region whose order is drawn: its operations leave the heap alone. -/
def runDraw (T : Tab) (callF : FuncId → List AV → Heap → Option (AV × Heap)) : List AOper → Env → Heap → Option Env
  | [], e, _ => some e
  | o :: r, e, H => match wantedA e o.guard with
    | none => none
    | some false => runDraw T callF r (putA e o.dst .und) H
    | some true => bif quietOp T e o.op then match aop T callF o.op e H with
        | some (v, _) => runDraw T callF r (putA e o.dst v) H
        | none => none
      else none

def iter (f : Env → Heap → Option (AEx × Env × Heap)) (live : List Nat) : Nat → Env → Heap → Option (AEx × Env × Heap)
  | 0, _, _ => none
  | n + 1, e, H => match f (Env.keep live e) H with
    | some (.normal, e', H') => iter f live n e' H'
    | r => r

def exec (T : Tab) (callF : FuncId → List AV → Heap → Option (AV × Heap)) (n : Nat) : ACode → Env → Heap → Option (AEx × Env × Heap)
  | .skip, e, H => some (.normal, e, H)
  | .region ops, e, H => match runOps T callF ops e H with
    | some (e', H') => some (.normal, e', H')
    | none => none
  | .draw ops, e, H => match runDraw T callF ops e H with
    | some e' => some (.normal, e', H)
    | none => none
  | .seq a b, e, H => match exec T callF n a e H with
    | some (.normal, e', H') => exec T callF n b e' H'
    | r => r
  | .cond c a b, e, H => match ev T e c with
    | .bool t => bif t then exec T callF n a e H else exec T callF n b e H
    | _ => none
  | .block id live body, e, H => match exec T callF n body e H with
    | some (.normal, e', H') => some (.normal, Env.keep live e', H')
    | some (.exit j, e', H') => bif j == id then some (.normal, Env.keep live e', H') else some (.exit j, e', H')
    | r => r
  | .loop live body, e, H => iter (fun e H => exec T callF n body e H) live n e H
  | .exit id, e, H => some (.exit id, e, H)
  | .scope body, e, H => exec T callF n body e H
  | .ret, e, H => some (.ret, e, H)
  | .fail, _, _ => none

def resOf (e : Env) (H : Heap) : ResV → Option AV
  | .tmp t => some (e.get t)
  | .cell t none => match e.get t with
    | .ptr i off g => match hget H i off 1 g with
      | some [v] => some v
      | _ => none
    | _ => none
  | .cell t (some n) => match e.get t with
    | .ptr i off g => (hget H i off n g).map .agg
    | _ => none

def mapO (f : ResV → Option AV) : List ResV → Option (List AV)
  | [] => some []
  | r :: rs => match f r with
    | some v => match mapO f rs with
      | some vs => some (v :: vs)
      | none => none
    | none => none

def results1 : List AV → AV
  | [v] => v
  | vs => .tup vs

def argEnv : Nat → List AV → Env
  | _, [] => []
  | k, a :: as => (k, a) :: argEnv (k + 1) as

def runBody (T : Tab) (callF : FuncId → List AV → Heap → Option (AV × Heap)) (n : Nat) (c : ACode) (res : List ResV) (args : List AV) (H : Heap) : Option (AV × Heap) :=
  match exec T callF n c (argEnv 0 args) H with
  | some (.normal, e, H') => (mapO (resOf e H') res).map fun vs => (results1 vs, H')
  | some (.ret, e, H') => (mapO (resOf e H') res).map fun vs => (results1 vs, H')
  | _ => none

def runDef (T : Tab) (callF : FuncId → List AV → Heap → Option (AV × Heap)) (n : Nat) (d : FDef) (args : List AV) (H : Heap) : Option (AV × Heap) :=
  match d with
  | .prim p => p args H
  | .code false c res => runBody T callF n c res args H
  | .code true c res => match mapS (snap 12) H args with
    | some (args', H') => match runBody T callF n c res args' [] with
      | some (r, H2) => match snap 12 H2 r with
        | some (r', _) => some (r', H')
        | none => none
      | none => none
    | none => none

def acall (T : Tab) : Nat → FuncId → List AV → Heap → Option (AV × Heap)
  | 0, _, _, _ => none
  | n + 1, f, args, H => match T.fn f with
    | some d => runDef T (acall T n) n d args H
    | none => none
end Go.Eng
