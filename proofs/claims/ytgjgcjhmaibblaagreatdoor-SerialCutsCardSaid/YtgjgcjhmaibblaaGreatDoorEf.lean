/- What internal/reflectlite's entries do, as errors.As and errors.Is use them. The entries of internal/reflectlite do what En23 says, given closed facts on the types. A seat's table is sound: what has to be shown, piece by piece. From the abstract answer of a law to its call in a world: the start, the answer, what is kept. No condition. -/
import Derived.Test.YtgjgcjhmaibblaaGreatDoorEa
import Derived.Test.YtgjgcjhmaibblaaGreatDoorEe
import Derived.Laws.Externs
import Derived.Stop.Asserts
import Derived.ProofKit
namespace Go.Eng
open Go

/-- What is known of the types: how many globals, the number of reflectlite's rtype, kinds, elements of pointers, what implements what. -/
structure RInfo where
  G : Nat
  RT : Nat
  kind : Nat → Option Nat
  elem : Nat → Option Nat
  impl : Nat → Nat → Option Bool
  comp : Nat → Option Bool
  asg : Nat → Nat → Option Bool

def RInfo.h (R : RInfo) (t : Nat) : AV := .cst (.pointer (some ⟨R.G, t, none⟩))
def RInfo.ty (R : RInfo) (t : Nat) : AV := .iface R.RT (.agg [R.h t])

def RInfo.unh (R : RInfo) : AV → Option Nat
  | .cst (.pointer (some ⟨g, t, none⟩)) => bif g == R.G then some t else none
  | _ => none

def pValueOf (R : RInfo) : List AV → Heap → Option (AV × Heap)
  | [.iface t v], H => match R.kind t with
    | some k => bif v.cells.all AV.isCell then some (.agg [R.h t, .ptr H.length 0 0, .int .u64 (128 + k : Nat)], hnew H v.cells) else none
    | none => none
  | _, _ => none

def pType (R : RInfo) : List AV → Heap → Option (AV × Heap)
  | [.agg [h, .ptr _ _ _, .int .u64 f]], H => match R.unh h with
    | some t => match R.kind t with
      | some k => bif f == (128 + k : Nat) || f == (384 + k : Nat) then some (R.ty t, H) else none
      | none => none
    | none => none
  | _, _ => none

def pIsNil (R : RInfo) : List AV → Heap → Option (AV × Heap)
  | [.agg [h, .ptr i off g, .int .u64 f]], H => match R.unh h with
    | some t => match R.kind t with
      | some 22 => bif f == 150 then match hget H i off 1 g with
        | some [.ptr _ _ _] => some (.bool false, H)
        | some [.cst (.pointer none)] => some (.bool true, H)
        | _ => none
        else none
      | _ => none
    | none => none
  | _, _ => none

def pTypeOf (R : RInfo) : List AV → Heap → Option (AV × Heap)
  | [.iface t _], H => match R.kind t with
    | some _ => some (R.ty t, H)
    | none => none
  | [.cst .nilIface], H => some (.cst .nilIface, H)
  | _, _ => none

/-- The Value of what a pointer in a Value points to. -/
def pElemV (R : RInfo) : List AV → Heap → Option (AV × Heap)
  | [.agg [h, .ptr i off g, .int .u64 f]], H => match R.unh h with
    | some t => match R.kind t, R.elem t with
      | some 22, some e => bif f == 150 then match hget H i off 1 g, R.kind e with
        | some [.ptr j o' g'], some k => some (.agg [R.h e, .ptr j o' g', .int .u64 (384 + k : Nat)], H)
        | _, _ => none
        else none
      | _, _ => none
    | none => none
  | _, _ => none

/-- 'n' cells go over. -/
def pSet (R : RInfo) (size : Nat → Option (Option Nat)) : List AV → Heap → Option (AV × Heap)
  | [.agg [h, .ptr i off g, .int .u64 f], .agg [h', .ptr j o' g', .int .u64 f']], H => match R.unh h, R.unh h' with
    | some t, some t' => match R.kind t, size t with
      | some k, some n => bif t == t' && f == (384 + k : Nat) && f' == (128 + k : Nat) then
          match hget H j o' (n.getD 1) g' with
          | some vs => bif vs.all AV.isCell then match hset H i off g vs with
            | some H' => some (.tup [], H')
            | none => none
            else none
          | none => none
        else none
      | _, _ => none
    | _, _ => none
  | _, _ => none

def pKind (R : RInfo) : List AV → Heap → Option (AV × Heap)
  | [h], H => match R.unh h with
    | some t => match R.kind t with
      | some k => some (.int .u8 (k : Nat), H)
      | none => none
    | none => none
  | _, _ => none

def pElem (R : RInfo) : List AV → Heap → Option (AV × Heap)
  | [.agg [h]], H => match R.unh h with
    | some t => match R.kind t, R.elem t with
      | some _, some e => some (R.ty e, H)
      | _, _ => none
    | none => none
  | _, _ => none

def pImplements (R : RInfo) : List AV → Heap → Option (AV × Heap)
  | [.agg [h], .iface rt (.agg [u])], H => match R.unh h, R.unh u with
    | some t, some u => bif rt == R.RT then match R.kind u, R.impl t u with
      | some 20, some b => some (.bool b, H)
      | _, _ => none
      else none
    | _, _ => none
  | _, _ => none

def pAssignable (R : RInfo) : List AV → Heap → Option (AV × Heap)
  | [.agg [h], .iface rt (.agg [u])], H => match R.unh h, R.unh u with
    | some t, some u => bif rt == R.RT then match R.asg t u with
      | some b => some (.bool b, H)
      | none => none
      else none
    | _, _ => none
  | _, _ => none

def pComparable (R : RInfo) : List AV → Heap → Option (AV × Heap)
  | [.agg [h]], H => match R.unh h with
    | some t => match R.comp t with
      | some b => some (.bool b, H)
      | none => none
    | none => none
  | _, _ => none
end Go.Eng

namespace Go.Eng
open Go Go.Extern

/-- The handle of a type. -/
abbrev RInfo.hv (R : RInfo) (t : Nat) : Value := .pointer (some ⟨R.G, t, none⟩)

structure ROK (P : Program) (R : RInfo) (size : Nat → Option (Option Nat)) : Prop where
  mk0 : ∀ t k, R.kind t = some k → ∀ a w, (ReflectliteValue.mk t a 0).run P w = .ok (.agg #[R.hv t, .pointer (some a), .int .u64 (128 + k : Nat)]) w
  mkA : ∀ t k, R.kind t = some k → ∀ a w, (ReflectliteValue.mk t a ReflectliteValue.flagAddr).run P w = .ok (.agg #[R.hv t, .pointer (some a), .int .u64 (384 + k : Nat)]) w
  any0 : ∀ t k, R.kind t = some k → ∀ a w, (ReflectliteValue.partsAny (.agg #[R.hv t, .pointer (some a), .int .u64 (128 + k : Nat)])).run P w = .ok (some (t, a, 128 + k)) w
  anyA : ∀ t k, R.kind t = some k → ∀ a w, (ReflectliteValue.partsAny (.agg #[R.hv t, .pointer (some a), .int .u64 (384 + k : Nat)])).run P w = .ok (some (t, a, 384 + k)) w
  parts0 : ∀ t k, R.kind t = some k → ∀ a w, (ReflectliteValue.parts (.agg #[R.hv t, .pointer (some a), .int .u64 (128 + k : Nat)])).run P w = .ok (some (t, a, 128 + k)) w
  partsA : ∀ t k, R.kind t = some k → ∀ a w, (ReflectliteValue.parts (.agg #[R.hv t, .pointer (some a), .int .u64 (384 + k : Nat)])).run P w = .ok (some (t, a, 384 + k)) w
  toType : ∀ t k, R.kind t = some k → ∀ w, (ReflectliteType.toType t).run P w = .ok (.iface R.RT (.agg #[R.hv t])) w
  kindM : ∀ t k, R.kind t = some k → ∀ w, (ReflectliteType.abiMethod (fun t => do pure (.int .u8 (← Rtype.kind t))) #[R.hv t]).run P w = .ok (.int .u8 (k : Nat)) w
  elemM : ∀ t e, R.elem t = some e → ∀ w, (ReflectliteType.method ReflectliteType.elem #[.agg #[R.hv t]]).run P w = .ok (.iface R.RT (.agg #[R.hv e])) w
  elemQ : ∀ t e, R.elem t = some e → ∀ w, (Rtype.elem? t).run P w = .ok (some e) w
  aggP : ∀ t, R.kind t = some 22 → aggO P t = some none
  implM : ∀ t u b, R.impl t u = some b → ∀ w, (ReflectliteType.relation "Implements" ReflectliteType.implements_ #[.agg #[R.hv t], .iface R.RT (.agg #[R.hv u])]).run P w = .ok (.bool b) w
  asgM : ∀ t u b, R.asg t u = some b → ∀ w, (ReflectliteType.relation "AssignableTo" ReflectliteType.assignableTo #[.agg #[R.hv t], .iface R.RT (.agg #[R.hv u])]).run P w = .ok (.bool b) w
  lt : ∀ t k, R.kind t = some k → k < 32
  size : ∀ t n, size t = some n → aggO P t = some n ∧ sizeO P t = some (n.getD 1)

/-- A function without a body. -/
def Ent (P : Program) (f : FuncId) (e : Array Value → Sem Value) : Prop := ∀ (args : Array Value) (w : World), (callFunc f args).run P w = ((e args).run P w).andThen fun v w' => .ok (.value v) w'

theorem Ent.does {P : Program} {f : FuncId} {e : Array Value → Sem Value} (h : Ent P f e) {args : Array Value} {c : Cx} {v : AV} {H' : Heap} (k : DoesV P (e args) c v H') : Does P ((callFunc f args).run P c.w) c v H' := by
  obtain ⟨y, c', hr, hE, hW, hA, hv⟩ := k
  subst hA
  exact Does.of hE hW (by rw [h, hr]; rfl) hv

theorem args1 {c : Cx} {a : AV} {args : Array Value} (h : VRs c [a] args.toList) : ∃ y, args = #[y] ∧ VR c a y := by
  obtain ⟨y, r, h1, h2, h3⟩ := h.uncons
  obtain rfl : r = [] := List.eq_nil_of_length_eq_zero (by simpa using h3.len.symm)
  exact ⟨y, by rw [← Array.toArray_toList (xs := args), h1], h2⟩
theorem args2 {c : Cx} {a b : AV} {args : Array Value} (h : VRs c [a, b] args.toList) : ∃ y z, args = #[y, z] ∧ VR c a y ∧ VR c b z := by
  obtain ⟨y, r, h1, h2, h3⟩ := h.uncons
  obtain ⟨z, r', rfl, h4, h5⟩ := h3.uncons
  obtain rfl : r' = [] := List.eq_nil_of_length_eq_zero (by simpa using h5.len.symm)
  exact ⟨y, z, by rw [← Array.toArray_toList (xs := args), h1], h2, h4⟩
theorem agg_inv {c : Cx} {xs : List AV} {y : Value} (h : VR c (.agg xs) y) : ∃ x' : Array Value, y = .agg x' ∧ VRs c xs x'.toList := by
  cases h with
  | agg x x' hx hx' => exact ⟨x', rfl, by simp [hx], fun k a v h1 h2 => hx' k a v h1 (by simpa using h2)⟩
theorem iface_inv {c : Cx} {t : TypeId} {v : AV} {y : Value} (h : VR c (.iface t v) y) : ∃ z, y = .iface t z ∧ VR c v z := by
  cases h with
  | iface t x y h => exact ⟨y, rfl, h⟩
theorem unh_some {R : RInfo} {h : AV} {t : Nat} (k : R.unh h = some t) : h = .cst (R.hv t) := by
  unfold RInfo.unh at k
  split at k
  · rename_i g t'
    cases hb : (g == R.G) with
    | false => rw [hb] at k; cases k
    | true => rw [hb] at k; cases k; rw [eq_of_beq hb]
  · cases k
theorem hv_inv {R : RInfo} {c : Cx} {h : AV} {t : Nat} (k : R.unh h = some t) {y : Value} (hy : VR c h y) : y = R.hv t := by
  rw [unh_some k] at hy; cases hy; rfl
theorem val_inv {R : RInfo} {c : Cx} {h : AV} {t i off g : Nat} {f : Int} (k : R.unh h = some t) {y : Value} (hy : VR c (.agg [h, .ptr i off g, .int .u64 f]) y) :
    ∃ a, y = .agg #[R.hv t, .pointer (some a), .int .u64 f] ∧ VR c (.ptr i off g) (.pointer (some a)) := by
  obtain ⟨x', rfl, hx⟩ := agg_inv hy
  obtain ⟨y1, r1, h1, h2, h3⟩ := hx.uncons
  obtain ⟨y2, y3, h4, h5, h6⟩ := args2 (args := r1.toArray) (by simpa using h3)
  obtain rfl := hv_inv k h2
  cases h6
  cases h5 with
  | ptr i off g o a p1 p2 p3 =>
    refine ⟨a, ?_, .ptr i off g o a p1 p2 p3⟩
    rw [← Array.toArray_toList (xs := x'), h1]
    have : r1 = [.pointer (some a), .int .u64 f] := by have := congrArg Array.toList h4; simpa using this
    rw [this]
theorem ty_inv {R : RInfo} {c : Cx} {h : AV} {t : Nat} (k : R.unh h = some t) {y : Value} (hy : VR c (.agg [h]) y) : y = .agg #[R.hv t] := by
  obtain ⟨x', rfl, hx⟩ := agg_inv hy
  obtain ⟨y1, rfl, h2⟩ := args1 hx
  rw [hv_inv k h2]
theorem ty_VR {R : RInfo} {c : Cx} (t : Nat) : VR c (R.ty t) (.iface R.RT (.agg #[R.hv t])) :=
  .iface _ _ _ (.agg _ _ rfl fun k a v h1 h2 => by
    cases k with
    | zero => simp at h1 h2; subst h1; subst h2; exact .cst _
    | succ k => simp at h1)
theorem val_VR {R : RInfo} {c : Cx} (t : Nat) {i off g : Nat} {a : Addr} (h : VR c (.ptr i off g) (.pointer (some a))) (f : Int) : VR c (.agg [R.h t, .ptr i off g, .int .u64 f]) (.agg #[R.hv t, .pointer (some a), .int .u64 f]) := by
  have hh : VRs c [R.h t, .ptr i off g, .int .u64 f] [R.hv t, .pointer (some a), .int .u64 f] := .cons (.cst _) (.cons h (.cons (.int _ _) (.nil c)))
  exact .agg _ _ rfl fun k a v h1 h2 => hh.rel k a v h1 (by simpa using h2)

theorem rlma (z : Sem Value) (f : TypeId → Addr → Nat → Nat → Sem Value) (v : Value) :
    ReflectliteValue.methodAny z f #[v] = (do match ← ReflectliteValue.partsAny v with | none => z | some (t, a, fl) => f t a fl (fl % 32)) := rfl
theorem rlm (z : Sem Value) (f : TypeId → Addr → Nat → Nat → Sem Value) (v : Value) :
    ReflectliteValue.method z f #[v] = (do match ← ReflectliteValue.parts v with | none => z | some (t, a, fl) => f t a fl (fl % 32)) := rfl

section
variable {P : Program} {T : Tab} {R : RInfo} {size : Nat → Option (Option Nat)} {f : FuncId} (h : ROK P R size)
include h

theorem pValueOf_ok (he : Ent P f fun args => ReflectliteValue.unpack (args.getD 0 (.tuple #[]))) : PrimOK P T f (pValueOf R) := by
  intro args H r H' hp c hc hA args' ha
  subst hA
  unfold pValueOf at hp
  split at hp
  · rename_i H0 t v
    obtain ⟨y, rfl, hy⟩ := args1 ha
    obtain ⟨z, rfl, hz⟩ := iface_inv hy
    split at hp
    · rename_i k hk
      cases hb : v.cells.all AV.isCell with
      | false => rw [hb] at hp; cases hp
      | true =>
        rw [hb] at hp; cases hp
        obtain ⟨hcs, _⟩ := cells_ok hz hb
        obtain ⟨c', h1, h2, h3, h4, h5, h6, _⟩ := new_row (P := P) hc (cs := v.cells) (vs := z.cells) t (VRs.find hcs)
        refine he.does ⟨_, c', ?_, h2, h3, h4, val_VR t (ptr_new h4 h5 h6) _⟩
        show (ReflectliteValue.unpack (.iface t z)).run P c.w = _
        simp only [ReflectliteValue.unpack, newVar, Sem.run_bind, h1, Result.andThen]
        exact h.mk0 t k hk _ _
    · cases hp
  · cases hp

theorem pTypeOf_ok (he : Ent P f ReflectliteType.typeOf) : PrimOK P T f (pTypeOf R) := by
  intro args H r H' hp c hc hA args' ha
  subst hA
  unfold pTypeOf at hp
  split at hp
  · rename_i H0 t v
    obtain ⟨y, rfl, hy⟩ := args1 ha
    obtain ⟨z, rfl, hz⟩ := iface_inv hy
    split at hp
    · rename_i k hk
      cases hp
      exact he.does (.same hc.wr (h.toType t k hk _) (ty_VR t))
    · cases hp
  · obtain ⟨y, rfl, hy⟩ := args1 ha
    cases hy
    cases hp
    exact he.does (.same hc.wr (y := .nilIface) rfl (.cst _))
  · cases hp

theorem pType_ok (he : Ent P f (ReflectliteValue.methodAny (ReflectliteValue.valueError "reflectlite.Value.Type" 0) fun t _ _ _ => ReflectliteType.toType t)) : PrimOK P T f (pType R) := by
  intro args H r H' hp c hc hA args' ha
  subst hA
  unfold pType at hp
  split at hp
  · rename_i H0 h0 i off g fl
    obtain ⟨y, rfl, hy⟩ := args1 ha
    split at hp
    · rename_i t ht
      obtain ⟨a, rfl, hav⟩ := val_inv ht hy
      split at hp
      · rename_i k hk
        cases hb : (fl == (128 + k : Nat) || fl == (384 + k : Nat)) with
        | false => rw [hb] at hp; cases hp
        | true =>
          rw [hb] at hp; cases hp
          refine he.does (.same hc.wr (y := .iface R.RT (.agg #[R.hv t])) ?_ (ty_VR t))
          rw [rlma]
          rcases Bool.or_eq_true _ _ ▸ hb with hb | hb
          · rw [eq_of_beq hb]
            simp only [Sem.run_bind, h.any0 t k hk, Result.andThen]
            exact h.toType t k hk _
          · rw [eq_of_beq hb]
            simp only [Sem.run_bind, h.anyA t k hk, Result.andThen]
            exact h.toType t k hk _
      · cases hp
    · cases hp
  · cases hp

theorem pKind_ok (he : Ent P f (ReflectliteType.abiMethod fun t => do pure (.int .u8 (← Rtype.kind t)))) : PrimOK P T f (pKind R) := by
  intro args H r H' hp c hc hA args' ha
  subst hA
  unfold pKind at hp
  split at hp
  · rename_i H0 h0
    obtain ⟨y, rfl, hy⟩ := args1 ha
    split at hp
    · rename_i t ht
      obtain rfl := hv_inv ht hy
      split at hp
      · rename_i k hk
        cases hp
        exact he.does (.same hc.wr (h.kindM t k hk _) (.int _ _))
      · cases hp
    · cases hp
  · cases hp

theorem pElem_ok (he : Ent P f (ReflectliteType.method ReflectliteType.elem)) : PrimOK P T f (pElem R) := by
  intro args H r H' hp c hc hA args' ha
  subst hA
  unfold pElem at hp
  split at hp
  · rename_i H0 h0
    obtain ⟨y, rfl, hy⟩ := args1 ha
    split at hp
    · rename_i t ht
      obtain rfl := ty_inv ht hy
      split at hp
      · rename_i k e hk hel
        cases hp
        exact he.does (.same hc.wr (h.elemM t e hel _) (ty_VR e))
      · cases hp
    · cases hp
  · cases hp

theorem pImplements_ok (he : Ent P f (ReflectliteType.relation "Implements" ReflectliteType.implements_)) : PrimOK P T f (pImplements R) := by
  intro args H r H' hp c hc hA args' ha
  subst hA
  unfold pImplements at hp
  split at hp
  · rename_i H0 h0 rt u0
    obtain ⟨y, z, rfl, hy, hz⟩ := args2 ha
    obtain ⟨z', rfl, hz'⟩ := iface_inv hz
    split at hp
    · rename_i t u ht hu
      obtain rfl := ty_inv ht hy
      obtain rfl := ty_inv hu hz'
      cases hb : (rt == R.RT) with
      | false => rw [hb] at hp; cases hp
      | true =>
        rw [hb] at hp
        simp only [cond_true] at hp
        obtain rfl := eq_of_beq hb
        split at hp
        · rename_i b hk hi
          cases hp
          exact he.does (.same hc.wr (h.implM t u b hi _) (.bool _))
        · cases hp
    · cases hp
  · cases hp

theorem pAssignable_ok (he : Ent P f (ReflectliteType.relation "AssignableTo" ReflectliteType.assignableTo)) : PrimOK P T f (pAssignable R) := by
  intro args H r H' hp c hc hA args' ha
  subst hA
  unfold pAssignable at hp
  split at hp
  · rename_i H0 h0 rt u0
    obtain ⟨y, z, rfl, hy, hz⟩ := args2 ha
    obtain ⟨z', rfl, hz'⟩ := iface_inv hz
    split at hp
    · rename_i t u ht hu
      obtain rfl := ty_inv ht hy
      obtain rfl := ty_inv hu hz'
      cases hb : (rt == R.RT) with
      | false => rw [hb] at hp; cases hp
      | true =>
        rw [hb] at hp
        simp only [cond_true] at hp
        obtain rfl := eq_of_beq hb
        split at hp
        · rename_i b hi
          cases hp
          exact he.does (.same hc.wr (h.asgM t u b hi _) (.bool _))
        · cases hp
    · cases hp
  · cases hp

theorem pIsNil_ok (he : Ent P f (ReflectliteValue.method (ReflectliteValue.valueError "reflectlite.Value.IsNil" 0) ReflectliteValue.isNil)) : PrimOK P T f (pIsNil R) := by
  intro args H r H' hp c hc hA args' ha
  subst hA
  unfold pIsNil at hp
  split at hp
  · rename_i H0 h0 i off g fl
    obtain ⟨y, rfl, hy⟩ := args1 ha
    split at hp
    · rename_i t ht
      obtain ⟨a, rfl, hav⟩ := val_inv ht hy
      split at hp
      · rename_i hk
        cases hb : (fl == 150) with
        | false => rw [hb] at hp; cases hp
        | true =>
          rw [hb] at hp
          simp only [cond_true] at hp
          rw [eq_of_beq hb]
          have hparts := h.parts0 t 22 hk a c.w
          have hagg := h.aggP t hk
          have key : ∀ (v : AV) (b : Bool), hget c.A i off 1 g = some [v] → (∀ y, VR c v y → (ReflectliteValue.isNil t a 150 22).run P c.w = ((loadVar t a).run P c.w).andThen (fun _ w' => .ok (.bool b) w')) →
              Does P ((callFunc f #[.agg #[R.hv t, .pointer (some a), .int .u64 150]]).run P c.w) c (.bool b) c.A := by
            intro v b hg hn
            obtain ⟨_, b0, o0, vs, he1, h2, h3⟩ := behind_ok hc.wr hav (n := 1) (cs := [v]) hg
            cases he1
            obtain ⟨u, x', rfl, h4, h5⟩ := h2.uncons
            have h0 : c.w.cell? ⟨b0, o0, none⟩ = some u := by simpa using h3 0 u rfl
            refine he.does (.same hc.wr (y := .bool b) ?_ (.bool b))
            rw [rlm]
            simp only [Sem.run_bind]
            rw [show (ReflectliteValue.parts (.agg #[R.hv t, .pointer (some ⟨b0, o0, none⟩), .int .u64 150])).run P c.w = _ from hparts]
            simp only [Result.andThen]
            rw [show ((128 + 22) % 32 : Nat) = 22 from rfl, show (128 + 22 : Nat) = 150 from rfl, hn u h4, run_loadVar_one hagg h0]
            rfl
          split at hp
          · rename_i j oj gj hg
            cases hp
            refine key _ _ hg fun y hy => ?_
            obtain ⟨_, b0, o0, vs, he1, h2, h3⟩ := behind_ok hc.wr hav (n := 1) hg
            cases he1
            obtain ⟨u, x', rfl, h4, h5⟩ := h2.uncons
            have h0 : c.w.cell? ⟨b0, o0, none⟩ = some u := by simpa using h3 0 u rfl
            cases h4
            simp [ReflectliteValue.isNil, run_loadVar_one hagg h0, Result.andThen]
          · rename_i hg
            cases hp
            refine key _ _ hg fun y hy => ?_
            obtain ⟨_, b0, o0, vs, he1, h2, h3⟩ := behind_ok hc.wr hav (n := 1) hg
            cases he1
            obtain ⟨u, x', rfl, h4, h5⟩ := h2.uncons
            have h0 : c.w.cell? ⟨b0, o0, none⟩ = some u := by simpa using h3 0 u rfl
            cases h4
            simp [ReflectliteValue.isNil, run_loadVar_one hagg h0, Result.andThen]
          · cases hp
      · cases hp
    · cases hp
  · cases hp

theorem pElemV_ok (he : Ent P f (ReflectliteValue.method (ReflectliteValue.valueError "reflectlite.Value.Elem" 0) ReflectliteValue.elem)) : PrimOK P T f (pElemV R) := by
  intro args H r H' hp c hc hA args' ha
  subst hA
  unfold pElemV at hp
  split at hp
  · rename_i H0 h0 i off g fl
    obtain ⟨y, rfl, hy⟩ := args1 ha
    split at hp
    · rename_i t ht
      obtain ⟨a, rfl, hav⟩ := val_inv ht hy
      split at hp
      · rename_i e hk hel
        cases hb : (fl == 150) with
        | false => rw [hb] at hp; cases hp
        | true =>
          rw [hb] at hp
          simp only [cond_true] at hp
          rw [eq_of_beq hb]
          have hparts := h.parts0 t 22 hk a c.w
          have hagg := h.aggP t hk
          split at hp
          · rename_i j oj gj k hg hke
            cases hp
            obtain ⟨_, b0, o0, vs, he1, h2, h3⟩ := behind_ok hc.wr hav (n := 1) hg
            cases he1
            obtain ⟨u, x', rfl, h4, h5⟩ := h2.uncons
            have h0 : c.w.cell? ⟨b0, o0, none⟩ = some u := by simpa using h3 0 u rfl
            have h4' := h4
            cases h4 with
            | ptr _ _ _ o p p1 p2 p3 =>
              refine he.does (.same hc.wr (y := .agg #[R.hv e, .pointer (some p), .int .u64 (384 + k : Nat)]) ?_ (val_VR e h4' _))
              rw [rlm]
              simp only [Sem.run_bind]
              rw [show (ReflectliteValue.parts (.agg #[R.hv t, .pointer (some ⟨b0, o0, none⟩), .int .u64 150])).run P c.w = _ from hparts]
              simp only [Result.andThen]
              rw [show ((128 + 22) % 32 : Nat) = 22 from rfl]
              simp [ReflectliteValue.elem, run_loadVar_one hagg h0, Result.andThen, h.elemQ t e hel, h.mkA e k hke]
          · cases hp
      · cases hp
    · cases hp
  · cases hp

omit h in
theorem rls (v x : Value) : ReflectliteValue.set #[v, x] = (do
    let (some (dst, a, fl), some (src, b, _)) := (← ReflectliteValue.parts v, ← ReflectliteValue.parts x)
      | unsupported (.noEntry "extern/(internal/reflectlite.Value).Set.zeroValue")
    if fl / ReflectliteValue.flagAddr % 2 == 0 then unsupported (.noEntry "extern/(internal/reflectlite.Value).Set.unaddressable")
    let val ← loadVar src b
    if ← Rtype.directlyAssignable dst src then storeVar dst a val
    else if ← Rtype.implements dst src then
      if (← Rtype.kind src) == 20 then
        match val with
        | .nilIface => unsupported (.noEntry "extern/reflectlite: a nil value of one interface type handed on as a value of another")
        | _ => storeVar dst a val
      else storeVar dst a (.iface src val)
    else panicString ("reflectlite.Set: value of type " ++ (← Rtype.spelt src) ++ " is not assignable to type " ++ (← Rtype.spelt dst))
    pure (.tuple #[])) := rfl

omit h in
theorem run_direct (t : TypeId) (w : World) : (Rtype.directlyAssignable t t).run P w = .ok true w := by
  simp [Rtype.directlyAssignable]

theorem pSet_ok (he : Ent P f ReflectliteValue.set) : PrimOK P T f (pSet R size) := by
  intro args H r H' hp c hc hA args' ha
  subst hA
  unfold pSet at hp
  split at hp
  · rename_i H0 h0 i off g fl h1 j oj gj fl'
    obtain ⟨y, z, rfl, hy, hz⟩ := args2 ha
    split at hp
    · rename_i t t' ht ht'
      obtain ⟨a, rfl, hav⟩ := val_inv ht hy
      obtain ⟨b, rfl, hbv⟩ := val_inv ht' hz
      split at hp
      · rename_i k n hk hn
        cases hb : (t == t' && fl == (384 + k : Nat) && fl' == (128 + k : Nat)) with
        | false => rw [hb] at hp; cases hp
        | true =>
          rw [hb] at hp
          simp only [cond_true] at hp
          simp only [Bool.and_eq_true, beq_iff_eq] at hb
          obtain ⟨⟨rfl, rfl⟩, rfl⟩ := hb
          split at hp
          · rename_i vs hg
            cases hcell : vs.all AV.isCell with
            | false => rw [hcell] at hp; cases hp
            | true =>
              rw [hcell] at hp
              simp only [cond_true] at hp
              split at hp
              · rename_i H1 hs
                cases hp
                obtain ⟨hl, b0, o0, us, he1, h2, h3⟩ := behind_ok hc.wr hbv (n := n.getD 1) hg
                cases he1
                obtain ⟨hagg, hsz⟩ := h.size t n hn
                -- the value that goes over
                have hv : ∃ val : Value, (loadVar t ⟨b0, o0, none⟩).run P c.w = .ok val c.w ∧ val.cells.toList = us := by
                  cases n with
                  | none =>
                    simp only [Option.getD_none] at hl
                    match us, h2.len with
                    | [], hh => simp [hl] at hh
                    | u :: u2 :: r, hh => simp [hl] at hh
                    | [u], _ =>
                      have hu : c.w.cell? ⟨b0, o0, none⟩ = some u := by simpa using h3 0 u rfl
                      refine ⟨u, run_loadVar_one hagg hu, ?_⟩
                      match vs, hl with
                      | [v], _ =>
                        have hvu := h2.rel 0 v u rfl rfl
                        have hcv : v.isCell = true := by simpa using hcell
                        cases hvu <;> first | rfl | (simp [AV.isCell] at hcv; done) | skip
                        cases u <;> first | rfl | (simp [AV.isCell] at hcv)
                  | some m =>
                    exact ⟨.agg us.toArray, run_loadVar_agg hagg (h2.len.symm.trans hl) h3, by simp [Value.cells]⟩
                obtain ⟨val, hload, hcells⟩ := hv
                have hone : ∀ v ∈ us, v.oneCell' = true := by
                  have key : VRs c vs us := h2
                  have hx := (cells_ok (c := c) (a := .agg vs) (v := .agg us.toArray) (.agg _ _ (by simp [h2.len]) fun k a v q1 q2 => h2.rel k a v q1 (by simpa using q2)) hcell).2
                  simpa [Value.cells] using hx
                obtain ⟨c', hr, hE, hW, hA⟩ := write_row (P := P) hc h2 hone hs
                obtain ⟨o, ho, hgen, _⟩ := hset_some hs
                cases hav with
                | ptr _ _ _ o' p p1 p2 p3 =>
                  obtain rfl : o' = o := Option.some.inj (p1.symm.trans ho)
                  obtain rfl := p3 hgen
                  refine he.does ⟨.tuple #[], c', ?_, hE, hW, hA, .tup _ _ rfl fun k a v q1 => by simp at q1⟩
                  have hk32 := h.lt t k hk
                  have hfl : ((384 + k) / ReflectliteValue.flagAddr % 2 == 0) = false := by
                    have : (384 + k) / 256 = 1 := by omega
                    simp [ReflectliteValue.flagAddr, this]
                  have hlen : val.cells.size = n.getD 1 := by
                    have := congrArg List.length hcells
                    simp at this
                    rw [this, ← h2.len, hl]
                  rw [rls]
                  simp only [Sem.run_bind, h.partsA t k hk, h.parts0 t k hk, Result.andThen, hfl]
                  simp [hload, Result.andThen, run_direct, storeVar, run_size hsz, hlen, hcells, hr]
              · cases hp
          · cases hp
      · cases hp
    · cases hp
  · cases hp
end
end Go.Eng

namespace Go.Eng
open Go

def look : List (Nat × FDef) → Nat → Option FDef
  | [], _ => none
  | (k, d) :: r, n => bif k == n then some d else look r n

theorem look_all {Q : Nat → FDef → Prop} : ∀ {l : List (Nat × FDef)}, (∀ e ∈ l, Q e.1 e.2) → ∀ {n : Nat} {d : FDef}, look l n = some d → Q n d
  | [], _, n, d, h => by cases h
  | (k, d0) :: r, hq, n, d, h => by
    unfold look at h
    cases hb : (k == n) with
    | true =>
      rw [hb] at h
      cases h
      rw [← eq_of_beq hb]
      exact hq (k, d0) (by simp)
    | false =>
      rw [hb] at h
      exact look_all (fun e he => hq e (by simp [he])) h

/-- One entry of a table. -/
def FOK (P : Program) (T : Tab) (f : Nat) (d : FDef) : Prop :=
  (∀ (p : Bool) (ac : ACode) (rs : List ResV), d = .code p ac rs → ∃ (fn : Func) (lives : List (List Nat)), P.funcs[f]? = some fn ∧ trFn P fn p lives = some (.code p ac rs) ∧
    ∀ (args : Array Value) (w : World), (callFunc f args).run P w = .ok (.enter f args) w) ∧
  ∀ (p : List AV → Heap → Option (AV × Heap)), d = .prim p → PrimOK P T f p

theorem FOK.code {P : Program} {T : Tab} {f : Nat} {d : FDef} {fn : Func} {p : Bool} {lives : List (List Nat)} (h1 : P.funcs[f]? = some fn) (h2 : trFn P fn p lives = some d)
    (h3 : ∀ (args : Array Value) (w : World), (callFunc f args).run P w = .ok (.enter f args) w) : FOK P T f d := by
  have key : ∃ ac rs, d = .code p ac rs := by
    unfold trFn at h2
    split at h2
    · split at h2
      · cases h2; exact ⟨_, _, rfl⟩
      · cases h2
    · cases h2
  obtain ⟨ac0, rs0, rfl⟩ := key
  exact ⟨fun p' ac rs h => (by cases h; exact ⟨fn, lives, h1, h2, h3⟩), fun q h => (by cases h)⟩

theorem FOK.prim {P : Program} {T : Tab} {f : Nat} {p : List AV → Heap → Option (AV × Heap)} (h : PrimOK P T f p) : FOK P T f (.prim p) :=
  ⟨fun p' ac rs hh => (by cases hh), fun q hq => (by cases hq; exact h)⟩

theorem FnOK.of {P : Program} {T : Tab} {l : List (Nat × FDef)} (h : T.fn = look l) (hl : ∀ e ∈ l, FOK P T e.1 e.2) (hg : ∀ n cs, T.glob n = some cs → closedL cs = true) : FnOK P T where
  code f p ac rs hf := (look_all (Q := FOK P T) hl (by rw [← h]; exact hf)).1 p ac rs rfl
  prim f p hf := (look_all (Q := FOK P T) hl (by rw [← h]; exact hf)).2 p rfl
  glob := hg

/-! ### the other tables -/
def implO (P : Program) (t u : TypeId) : Option Bool := match P.underlying t, P.info? u with
  | some (.interface ms), some i => some (lacking ms i.methods).isEmpty
  | _, _ => none
theorem impl_of {P : Program} {t u : TypeId} {b : Bool} (h : implO P t u = some b) : ∃ ms i, P.underlying t = some (.interface ms) ∧ P.info? u = some i ∧ (Instr.missingMethod ms i.methods).isNone = b := by
  unfold implO at h
  split at h
  · rename_i ms i h1 h2
    cases h
    refine ⟨ms, i, h1, h2, ?_⟩
    cases hl : lacking ms i.methods with
    | nil => rw [missingMethod_none hl]; rfl
    | cons x r =>
      obtain ⟨m, hm⟩ := missingMethod_some (want := ms) (got := i.methods) (by rw [hl]; simp)
      rw [hm]; rfl
  · cases h
theorem comp_of {P : Program} {t : TypeId} (h : (P.info? t).map (·.comparable) = some true) : ∃ i, P.info? t = some i ∧ i.comparable = true := by
  cases hi : P.info? t with
  | none => rw [hi] at h; cases h
  | some i => rw [hi] at h; simp at h; exact ⟨i, rfl, h⟩
end Go.Eng

namespace Go.Eng
open Go

def Cx.start (W : World) : Cx := { F := fun _ => False, blk := fun _ => 0, base := fun _ => 0, A := [], w := W }

theorem start_perm {W : World} {b : Nat} (h : b < W.heap.size) : Perm (Cx.start W) b :=
  ⟨h, by
    rintro (h | ⟨i, o, h1, _⟩)
    · exact h
    · simp [Cx.start] at h1⟩

theorem start_ok {T : Tab} {W : World} (hg : ∀ n cs, T.glob n = some cs → VR (Cx.start W) (.ep cs) (.pointer (some ⟨n, 0, none⟩))) : OK T (Cx.start W) where
  wr :=
    { lt := fun i o h => by simp [Cx.start] at h
      nf := fun i o h => by simp [Cx.start] at h
      inj := fun i j o p h => by simp [Cx.start] at h
      cell := fun i o h => by simp [Cx.start] at h
      soft := fun i o h => by simp [Cx.start] at h
      flat := fun i o h => by simp [Cx.start] at h
      kind := fun i o h => by simp [Cx.start] at h }
  gl := hg
  fr := fun b hb h => h

/-- An old address behind which these values lie. -/
theorem start_ep {W : World} {cs : List AV} {vs : List Value} {b o : Nat} (hv : VRs (Cx.start W) cs vs) (hb : b < W.heap.size) (hc : ∀ (k : Nat) (v : Value), vs[k]? = some v → W.cell? ⟨b, o + k, none⟩ = some v) :
    VR (Cx.start W) (.ep cs) (.pointer (some ⟨b, o, none⟩)) := .ep cs vs b o hv.len hv.rel (start_perm hb) hc

theorem run_law {P : Program} {T : Tab} (hT : TabOK P T) (hF : FnOK P T) {f : FuncId} (hcall : ∀ (args : Array Value) (w : World), (callFunc f args).run P w = .ok (.enter f args) w) {args : List AV} {args' : Array Value} {W : World}
    (hg : ∀ n cs, T.glob n = some cs → VR (Cx.start W) (.ep cs) (.pointer (some ⟨n, 0, none⟩))) (ha : VRs (Cx.start W) args args'.toList) {v : AV} {H' : Heap} (h : C T f args [] = some (v, H')) :
    Calls P f args' W fun e w' => ∃ (y : Value) (c' : Cx), e = .returned y ∧ w' = c'.w ∧ Ext (Cx.start W) c' ∧ VR c' v y := by
  have hd := C_ok hT hF f args [] v H' h (Cx.start W) (start_ok hg) rfl args' ha
  rw [hcall] at hd
  have := hd { tmps := #[undef], defers := [] } { dst := some 0, op := .assign (.const undef), type := 0, pos := "", after := #[], guard := none }
    (fun a w => ∃ (y : Value) (c' : Cx), a.tmps[0]? = some y ∧ w = c'.w ∧ Ext (Cx.start W) c' ∧ VR c' v y) (fun _ _ _ => False) (fun y c' h1 h2 h3 h4 => ⟨y, c', by simp [Act.put], rfl, h1, h4⟩)
  rw [Oper.upon_enter] at this
  refine this.mono ?_
  intro e w' he
  cases e with
  | returned y =>
    obtain ⟨y', c', h1, h2, h3, h4⟩ := he
    refine ⟨y', c', ?_, h2, h3, h4⟩
    simp [Act.put] at h1
    rw [h1]
  | panicked c => exact he.elim
  | outgrown =>
    obtain ⟨a, w, h⟩ := he
    exact h.elim

theorem start_same {W : World} {c' : Cx} (h : Ext (Cx.start W) c') {b : Nat} (hb : b < W.heap.size) : c'.w.heap[b]? = W.heap[b]? :=
  h.frame b hb (by rintro ⟨i, o, h1, _⟩; simp [Cx.start] at h1)

theorem start_kept {W : World} {c' : Cx} (h : Ext (Cx.start W) c') (may : MemPlace → Prop) : W.keptBut c'.w may := by
  refine ⟨h.os, h.out, fun i hi => ?_⟩
  have := (World.keptBut_refl W may).2.2 i hi
  rw [start_same h hi]
  exact this
end Go.Eng
