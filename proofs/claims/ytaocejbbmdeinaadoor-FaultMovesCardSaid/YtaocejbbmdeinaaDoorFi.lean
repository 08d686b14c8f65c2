/- errors.As at a status and at a fault, below names. No condition. -/
import Derived.Test.YtaocejbbmdeinaaDoorFh
namespace Go.Eng.S
open Go Go.Eng
section
theorem c_ValueOf (a : List AV) (H : Heap) : C T 32 a H = pValueOf R a H := C_prim (by kernel_rfl) a H
theorem c_Type (a : List AV) (H : Heap) : C T 33 a H = pType R a H := C_prim (by kernel_rfl) a H
theorem c_IsNil (a : List AV) (H : Heap) : C T 34 a H = pIsNil R a H := C_prim (by kernel_rfl) a H
theorem c_TypeOf (a : List AV) (H : Heap) : C T 27 a H = pTypeOf R a H := C_prim (by kernel_rfl) a H
theorem c_ElemV (a : List AV) (H : Heap) : C T 37 a H = pElemV R a H := C_prim (by kernel_rfl) a H
theorem c_Set (a : List AV) (H : Heap) : C T 38 a H = pSet R sizeT a H := C_prim (by kernel_rfl) a H
theorem c_Kind (a : List AV) (H : Heap) : C T 65 a H = pKind R a H := C_prim (by kernel_rfl) a H
theorem c_Elem (a : List AV) (H : Heap) : C T 79 a H = pElem R a H := C_prim (by kernel_rfl) a H
theorem c_Impl (a : List AV) (H : Heap) : C T 80 a H = pImplements R a H := C_prim (by kernel_rfl) a H
theorem c_Asg (a : List AV) (H : Heap) : C T 77 a H = pAssignable R a H := C_prim (by kernel_rfl) a H
theorem m_Kind : T.meth 80 "Kind" = some (65, some 0) := by kernel_rfl
theorem m_Elem : T.meth 80 "Elem" = some (79, none) := by kernel_rfl
theorem m_Impl : T.meth 80 "Implements" = some (80, none) := by kernel_rfl
theorem m_Asg : T.meth 80 "AssignableTo" = some (77, none) := by kernel_rfl
theorem g_err : T.glob 0 = some [R.ty 28] := by kernel_rfl
theorem m_Unw : T.meth 49 "Unwrap" = some (69, none) := by kernel_rfl
theorem m_UnwP : T.meth 65 "Unwrap" = some (72, none) := by kernel_rfl
theorem i_As1 : T.impl 90 30 = some false := by kernel_rfl
theorem i_As2 : T.impl 90 49 = some false := by kernel_rfl
theorem i_As3 : T.impl 90 65 = some false := by kernel_rfl
theorem i_Us : T.impl 85 30 = some false := by kernel_rfl
theorem i_U1 : T.impl 76 30 = some false := by kernel_rfl
theorem i_U2 : T.impl 76 49 = some true := by kernel_rfl
theorem i_U3 : T.impl 76 65 = some true := by kernel_rfl
end
theorem unwrap_ok (s a : Int) (H : Heap) : C T 69 [.agg [.int .i64 s, .int .i64 a]] H = some (.iface 30 (.int .i64 s), H) := anyH fd69 rfl rfl (C_of 9 (by kernel_rfl)) H
theorem punwrap_ok (p : List UInt8) (k : Nat) (v : AV) (hv : v.closed = true) (hs : snap 62 [] v = some (v, [])) (hs2 : ∀ H, snap 63 H v = some (v, H)) (H : Heap) : C T 72 [.agg [.str p, .iface k v]] H = some (.iface k v, H) := by
  refine anyH fd72 rfl (by simp [AV.closed, closedL, hv]) ?_ H
  rw [q72]
  simp (disch := omega) [d72, hget, hs, hs2]
/-- The target of errors.As: its type's pointer, its type, its zero cells. -/
abbrev asHp (pt : Nat) (z : List AV) : Heap := [⟨z, 0, true⟩, ⟨[.ptr 0 0 0], 0, true⟩, ⟨[.cst (.pointer (some ⟨4, pt, none⟩)), .ptr 1 0 0, .int .u64 150], 0, true⟩, ⟨[.cst (.pointer (some ⟨4, pt, none⟩)), .ptr 1 0 0, .int .u64 150], 0, true⟩]
abbrev asTy (t : Nat) : AV := .iface 80 (.agg [.cst (.pointer (some ⟨4, t, none⟩))])
noncomputable abbrev asL (pt t : Nat) (x : AV) (z : List AV) : XR := XL T [0, 1, 3, 6] L35_1 [(0, x), (1, .iface pt (.ptr 0 0 0)), (3, asTy t), (6, .ptr 3 0 0)] (asHp pt z)
def asP (z : List AV) (b : Bool) (r : XR) : Prop := ∃ e' G, r = some (.ret, e', ⟨z, 0, true⟩ :: G) ∧ e'.get 8 = .bool b
def aspK (pt t : Nat) : Prop := (pt = 52 ∧ t = 30) ∨ (pt = 51 ∧ t = 49)
set_option maxHeartbeats 1000000 in
theorem as_step (pt t : Nat) (hk : aspK pt t) (p : List UInt8) (k : Nat) (v : AV) (z : List AV) (hu : ∀ H, C T 72 [.agg [.str p, .iface k v]] H = some (.iface k v, H)) : asL pt t (.iface 65 (.agg [.str p, .iface k v])) z = asL pt t (.iface k v) z := by
  unfold asL
  rw [XL_eq]
  generalize XL T [0, 1, 3, 6] L35_1 = lp at *
  rcases hk with ⟨rfl, rfl⟩ | ⟨rfl, rfl⟩
  · simp [L35_1, hu, i_As3, i_U3, m_UnwP, c_TypeOf, pTypeOf, c_Asg, pAssignable, m_Asg, R, kindT, elemT, rimplT, asgT, RInfo.unh, RInfo.h, RInfo.ty, invokeM]
  · simp [L35_1, hu, i_As3, i_U3, m_UnwP, c_TypeOf, pTypeOf, c_Asg, pAssignable, m_Asg, R, kindT, elemT, rimplT, asgT, RInfo.unh, RInfo.h, RInfo.ty, invokeM]
set_option maxHeartbeats 1000000 in
theorem as_SS (s x : Int) : asP [.int .i64 s] true (asL 52 30 (.iface 30 (.int .i64 s)) [.int .i64 x]) := by
  unfold asL
  rw [XL_eq]
  generalize XL T [0, 1, 3, 6] L35_1 = lp at *
  simp [L35_1, c_TypeOf, pTypeOf, c_Asg, pAssignable, m_Asg, c_ElemV, pElemV, c_Set, pSet, sizeT, c_ValueOf, pValueOf, R, kindT, elemT, rimplT, asgT, g_err, c_Type, pType, RInfo.unh, RInfo.h, RInfo.ty, invokeM, m_Kind, c_Kind, pKind, m_Elem, c_Elem, pElem, c_IsNil, pIsNil, m_Impl, c_Impl, pImplements, hget, hset]
  exact ⟨_, _, rfl, rfl⟩
set_option maxHeartbeats 1000000 in
theorem as_SF (s a x : Int) : asP [.int .i64 s] true (asL 52 30 (.iface 49 (.agg [.int .i64 s, .int .i64 a])) [.int .i64 x]) := by
  have h := as_SS s x
  unfold asL at h ⊢
  have hu := unwrap_ok s a
  rw [XL_eq]
  generalize XL T [0, 1, 3, 6] L35_1 = lp at *
  simp [L35_1, hu, i_As2, i_U2, m_Unw, c_TypeOf, pTypeOf, c_Asg, pAssignable, m_Asg, R, kindT, elemT, rimplT, asgT, RInfo.unh, RInfo.h, RInfo.ty, invokeM]
  exact h
set_option maxHeartbeats 1000000 in
theorem as_FF (s a x y : Int) : asP [.int .i64 s, .int .i64 a] true (asL 51 49 (.iface 49 (.agg [.int .i64 s, .int .i64 a])) [.int .i64 x, .int .i64 y]) := by
  unfold asL
  rw [XL_eq]
  generalize XL T [0, 1, 3, 6] L35_1 = lp at *
  simp [L35_1, c_TypeOf, pTypeOf, c_Asg, pAssignable, m_Asg, c_ElemV, pElemV, c_Set, pSet, sizeT, c_ValueOf, pValueOf, R, kindT, elemT, rimplT, asgT, g_err, c_Type, pType, RInfo.unh, RInfo.h, RInfo.ty, invokeM, m_Kind, c_Kind, pKind, m_Elem, c_Elem, pElem, c_IsNil, pIsNil, m_Impl, c_Impl, pImplements, hget, hset]
  exact ⟨_, _, rfl, rfl⟩
set_option maxHeartbeats 1000000 in
theorem as_FS (s x y : Int) : asP [.int .i64 x, .int .i64 y] false (asL 51 49 (.iface 30 (.int .i64 s)) [.int .i64 x, .int .i64 y]) := by
  unfold asL
  rw [XL_eq]
  generalize XL T [0, 1, 3, 6] L35_1 = lp at *
  simp [L35_1, i_As1, i_U1, i_Us, c_TypeOf, pTypeOf, c_Asg, pAssignable, m_Asg, R, kindT, elemT, rimplT, asgT, RInfo.unh, RInfo.h, RInfo.ty, invokeM]
  exact ⟨_, _, rfl, rfl⟩
theorem as_chn (pt t : Nat) (hk : aspK pt t) (f : Bool) (s a : Int) (z : List AV) : ∀ l : List (List UInt8), l.length ≤ 20 → asL pt t (chn (bse f s a) l) z = asL pt t (bse f s a) z
  | [], _ => rfl
  | p :: l, hl => by
    simp only [List.length_cons] at hl
    have ih := as_chn pt t hk f s a z l (by omega)
    obtain ⟨k, v, h1, h2⟩ := chn_if f s a l
    have s1 := chn_snap f s a l 63 [] (by omega)
    have s2 := fun H => chn_snap f s a l 64 H (by omega)
    simp only [chn]
    rw [h1] at ih s1 s2 ⊢
    have e : ∀ j H, snap (j + 1) H (.iface k v) = some (.iface k v, H) → snap j H v = some (v, H) := fun j H h => by
      rw [snap_iface] at h
      split at h
      · rename_i h'; simp at h; rw [h', h.1, h.2]
      · cases h
    rw [as_step pt t hk p k v z (fun H => punwrap_ok p k v h2 (e 62 [] s1) (fun H => e 63 H (s2 H)) H)]
    exact ih
end Go.Eng.S
