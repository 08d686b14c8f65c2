/- What internal/reflectlite's entries do, as errors.As and errors.Is use them. No condition. -/
import Derived.Test.YtfpknphncaopkaaDoorEn1
namespace Go.Eng
open Go

/-- What is known of the types: how many globals, the number of reflectlite's rtype, kinds, elements of pointers, what implements what. -/
structure RInfo where
  G : Nat
  RT : Nat
  kind : Nat → Option Nat
  elem : Nat → Option Nat
  impl : Nat → Nat → Option Bool
  comp : Nat → Option Bool
  asg : Nat → Nat → Option Bool

def RInfo.h (R : RInfo) (t : Nat) : AV := .cst (.pointer (some ⟨R.G, t, none⟩))
def RInfo.ty (R : RInfo) (t : Nat) : AV := .iface R.RT (.agg [R.h t])

def RInfo.unh (R : RInfo) : AV → Option Nat
  | .cst (.pointer (some ⟨g, t, none⟩)) => bif g == R.G then some t else none
  | _ => none

def pValueOf (R : RInfo) : List AV → Heap → Option (AV × Heap)
  | [.iface t v], H => match R.kind t with
    | some k => bif v.cells.all AV.isCell then some (.agg [R.h t, .ptr H.length 0 0, .int .u64 (128 + k : Nat)], hnew H v.cells) else none
    | none => none
  | _, _ => none

def pType (R : RInfo) : List AV → Heap → Option (AV × Heap)
  | [.agg [h, .ptr _ _ _, .int .u64 f]], H => match R.unh h with
    | some t => match R.kind t with
      | some k => bif f == (128 + k : Nat) || f == (384 + k : Nat) then some (R.ty t, H) else none
      | none => none
    | none => none
  | _, _ => none

def pIsNil (R : RInfo) : List AV → Heap → Option (AV × Heap)
  | [.agg [h, .ptr i off g, .int .u64 f]], H => match R.unh h with
    | some t => match R.kind t with
      | some 22 => bif f == 150 then match hget H i off 1 g with
        | some [.ptr _ _ _] => some (.bool false, H)
        | some [.cst (.pointer none)] => some (.bool true, H)
        | _ => none
        else none
      | _ => none
    | none => none
  | _, _ => none

def pTypeOf (R : RInfo) : List AV → Heap → Option (AV × Heap)
  | [.iface t _], H => match R.kind t with
    | some _ => some (R.ty t, H)
    | none => none
  | [.cst .nilIface], H => some (.cst .nilIface, H)
  | _, _ => none

/-- The Value of what a pointer in a Value points to. -/
def pElemV (R : RInfo) : List AV → Heap → Option (AV × Heap)
  | [.agg [h, .ptr i off g, .int .u64 f]], H => match R.unh h with
    | some t => match R.kind t, R.elem t with
      | some 22, some e => bif f == 150 then match hget H i off 1 g, R.kind e with
        | some [.ptr j o' g'], some k => some (.agg [R.h e, .ptr j o' g', .int .u64 (384 + k : Nat)], H)
        | _, _ => none
        else none
      | _, _ => none
    | none => none
  | _, _ => none

/-- 'n' cells go over. -/
def pSet (R : RInfo) (size : Nat → Option (Option Nat)) : List AV → Heap → Option (AV × Heap)
  | [.agg [h, .ptr i off g, .int .u64 f], .agg [h', .ptr j o' g', .int .u64 f']], H => match R.unh h, R.unh h' with
    | some t, some t' => match R.kind t, size t with
      | some k, some n => bif t == t' && f == (384 + k : Nat) && f' == (128 + k : Nat) then
          match hget H j o' (n.getD 1) g' with
          | some vs => bif vs.all AV.isCell then match hset H i off g vs with
            | some H' => some (.tup [], H')
            | none => none
            else none
          | none => none
        else none
      | _, _ => none
    | _, _ => none
  | _, _ => none

def pKind (R : RInfo) : List AV → Heap → Option (AV × Heap)
  | [h], H => match R.unh h with
    | some t => match R.kind t with
      | some k => some (.int .u8 (k : Nat), H)
      | none => none
    | none => none
  | _, _ => none

def pElem (R : RInfo) : List AV → Heap → Option (AV × Heap)
  | [.agg [h]], H => match R.unh h with
    | some t => match R.kind t, R.elem t with
      | some _, some e => some (R.ty e, H)
      | _, _ => none
    | none => none
  | _, _ => none

def pImplements (R : RInfo) : List AV → Heap → Option (AV × Heap)
  | [.agg [h], .iface rt (.agg [u])], H => match R.unh h, R.unh u with
    | some t, some u => bif rt == R.RT then match R.kind u, R.impl t u with
      | some 20, some b => some (.bool b, H)
      | _, _ => none
      else none
    | _, _ => none
  | _, _ => none

def pAssignable (R : RInfo) : List AV → Heap → Option (AV × Heap)
  | [.agg [h], .iface rt (.agg [u])], H => match R.unh h, R.unh u with
    | some t, some u => bif rt == R.RT then match R.asg t u with
      | some b => some (.bool b, H)
      | none => none
      else none
    | _, _ => none
  | _, _ => none

def pComparable (R : RInfo) : List AV → Heap → Option (AV × Heap)
  | [.agg [h]], H => match R.unh h with
    | some t => match R.comp t with
      | some b => some (.bool b, H)
      | none => none
    | none => none
  | _, _ => none
end Go.Eng
