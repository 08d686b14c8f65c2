/- errors.As at a status, on any heap. No condition. -/
import Derived.Test.YtpdkdkdcmnipfaaGreatDoorKd
namespace Go.Eng.S
open Go Go.Eng
theorem hget_tail (H G : Heap) (k off n g : Nat) : hget (H ++ G) (H.length + k) off n g = hget G k off n g := by
  unfold hget
  rw [List.getElem?_append_right (by omega), Nat.add_sub_cancel_left]
theorem hset_tail (H G : Heap) (k off g : Nat) (vs : List AV) : hset (H ++ G) (H.length + k) off g vs = (hset G k off g vs).map (H ++ ·) := by
  unfold hset
  rw [List.getElem?_append_right (by omega), Nat.add_sub_cancel_left]
  cases G[k]? with
  | none => rfl
  | some o =>
    simp only
    split
    · simp
    · rfl
theorem hget_tail0 (H G : Heap) (off n g : Nat) : hget (H ++ G) H.length off n g = hget G 0 off n g := hget_tail H G 0 off n g
theorem hset_tail0 (H G : Heap) (off g : Nat) (vs : List AV) : hset (H ++ G) H.length off g vs = (hset G 0 off g vs).map (H ++ ·) := hset_tail H G 0 off g vs
theorem hg0 (o : AObj) (G : Heap) (off n g : Nat) : hget (o :: G) 0 off n g = if g = o.gen ∧ off + n ≤ o.cells.length then some ((o.cells.drop off).take n) else none := rfl
theorem hs0 (o : AObj) (G : Heap) (off g : Nat) (vs : List AV) : hset (o :: G) 0 off g vs = if g = o.gen ∧ o.live = true ∧ off + vs.length ≤ o.cells.length then some ({ o with cells := splice o.cells off vs } :: G) else none := rfl
theorem hgS (a : AObj) (G : Heap) (k off n g : Nat) : hget (a :: G) (k + 1) off n g = hget G k off n g := rfl
theorem hsS (a : AObj) (G : Heap) (k off g : Nat) (vs : List AV) : hset (a :: G) (k + 1) off g vs = (hset G k off g vs).map (a :: ·) := by
  unfold hset
  rw [List.getElem?_cons_succ]
  cases G[k]? with
  | none => rfl
  | some o =>
    simp only
    split <;> rfl
theorem hg1 (a : AObj) (G : Heap) (off n g : Nat) : hget (a :: G) 1 off n g = hget G 0 off n g := rfl
theorem hg2 (a b : AObj) (G : Heap) (off n g : Nat) : hget (a :: b :: G) 2 off n g = hget G 0 off n g := rfl
theorem hg3 (a b c : AObj) (G : Heap) (off n g : Nat) : hget (a :: b :: c :: G) 3 off n g = hget G 0 off n g := rfl
theorem hg4 (a b c d : AObj) (G : Heap) (off n g : Nat) : hget (a :: b :: c :: d :: G) 4 off n g = hget G 0 off n g := rfl
theorem hg5 (a b c d e : AObj) (G : Heap) (off n g : Nat) : hget (a :: b :: c :: d :: e :: G) 5 off n g = hget G 0 off n g := rfl
theorem hs1 (a : AObj) (G : Heap) (off g : Nat) (vs : List AV) : hset (a :: G) 1 off g vs = (hset G 0 off g vs).map (a :: ·) := hsS a G 0 off g vs
theorem hs2 (a b : AObj) (G : Heap) (off g : Nat) (vs : List AV) : hset (a :: b :: G) 2 off g vs = (hset (b :: G) 1 off g vs).map (a :: ·) := hsS a _ 1 off g vs
theorem hs3 (a b c : AObj) (G : Heap) (off g : Nat) (vs : List AV) : hset (a :: b :: c :: G) 3 off g vs = (hset (b :: c :: G) 2 off g vs).map (a :: ·) := hsS a _ 2 off g vs
theorem hs4 (a b c d : AObj) (G : Heap) (off g : Nat) (vs : List AV) : hset (a :: b :: c :: d :: G) 4 off g vs = (hset (b :: c :: d :: G) 3 off g vs).map (a :: ·) := hsS a _ 3 off g vs
section
theorem c_ValueOf (a : List AV) (H : Heap) : C T 46 a H = pValueOf R a H := C_prim (by kernel_rfl) a H
theorem c_Type (a : List AV) (H : Heap) : C T 47 a H = pType R a H := C_prim (by kernel_rfl) a H
theorem c_IsNil (a : List AV) (H : Heap) : C T 48 a H = pIsNil R a H := C_prim (by kernel_rfl) a H
theorem c_TypeOf (a : List AV) (H : Heap) : C T 34 a H = pTypeOf R a H := C_prim (by kernel_rfl) a H
theorem c_ElemV (a : List AV) (H : Heap) : C T 63 a H = pElemV R a H := C_prim (by kernel_rfl) a H
theorem c_Set (a : List AV) (H : Heap) : C T 64 a H = pSet R sizeT a H := C_prim (by kernel_rfl) a H
theorem c_Kind (a : List AV) (H : Heap) : C T 125 a H = pKind R a H := C_prim (by kernel_rfl) a H
theorem c_Elem (a : List AV) (H : Heap) : C T 137 a H = pElem R a H := C_prim (by kernel_rfl) a H
theorem c_Impl (a : List AV) (H : Heap) : C T 138 a H = pImplements R a H := C_prim (by kernel_rfl) a H
theorem c_Asg (a : List AV) (H : Heap) : C T 135 a H = pAssignable R a H := C_prim (by kernel_rfl) a H
theorem m_Kind : T.meth 103 "Kind" = some (125, some 0) := by kernel_rfl
theorem m_Elem : T.meth 103 "Elem" = some (137, none) := by kernel_rfl
theorem m_Impl : T.meth 103 "Implements" = some (138, none) := by kernel_rfl
theorem m_Asg : T.meth 103 "AssignableTo" = some (135, none) := by kernel_rfl
theorem g_err : T.glob 0 = some [R.ty 28] := by kernel_rfl
theorem m_Unw : T.meth 81 "Unwrap" = some (130, none) := by kernel_rfl
end
theorem unwrap_ok (s a : Int) (H : Heap) : C T 130 [.agg [.int .i64 s, .int .i64 a]] H = some (.iface 49 (.int .i64 s), H) := anyH fd130 rfl rfl (C_of 9 (by kernel_rfl)) H
theorem as_nil (x : AV) (H : Heap) : C T 30 [.cst .nilIface, x] H = some (.bool false, H) := by
  rw [q30]
  simp [d30]
def sttP (H : Heap) (s : Int) (r : Option (AV × Heap)) : Prop := ∃ G, r = some (.bool true, H ++ ⟨[.int .i64 s], 0, true⟩ :: G)
theorem i_As1 : T.impl 129 49 = some false := by kernel_rfl
theorem i_As2 : T.impl 129 81 = some false := by kernel_rfl
theorem i_Un : T.impl 108 81 = some true := by kernel_rfl
abbrev hv (t : Nat) : AV := .cst (.pointer (some ⟨R.G, t, none⟩))
abbrev asArg (n : Nat) : AV := .agg [.cst (.pointer (some ⟨7, 72, none⟩)), .ptr (n + 1) 0 0, .int .u64 150]
abbrev asRow (n : Nat) : AObj := ⟨[.cst (.pointer (some ⟨7, 72, none⟩)), .ptr (n + 1) 0 0, .int .u64 150], 0, true⟩
abbrev asTy : AV := .iface 103 (.agg [.cst (.pointer (some ⟨7, 49, none⟩))])
def asP (H : Heap) (s : Int) (r : XR) : Prop := ∃ e' G, r = some (.ret, e', H ++ ⟨[.int .i64 s], 0, true⟩ :: G) ∧ e'.get 8 = .bool true
set_option maxHeartbeats 1000000 in
theorem as_rnd (H : Heap) (s x : Int) :
    asP H s (XL T [0, 1, 3, 6] L49_1 [(0, .iface 49 (.int .i64 s)), (1, .iface 72 (.ptr H.length 0 0)), (3, asTy), (6, .ptr (H.length + 3) 0 0)] (H ++ [⟨[.int .i64 x], 0, true⟩, ⟨[.ptr H.length 0 0], 0, true⟩, asRow H.length, asRow H.length])) := by
  rw [XL_eq]
  generalize XL T [0, 1, 3, 6] L49_1 = lp at *
  simp [L49_1, c_TypeOf, pTypeOf, c_Asg, pAssignable, m_Asg, c_ElemV, pElemV, c_Set, pSet, sizeT, c_ValueOf, pValueOf, R, kindT, elemT, asgT, RInfo.unh, RInfo.h, RInfo.ty, invokeM, hget_tail, hset_tail0, hg0, hg1, hg3, hg4, hs0]
  exact ⟨_, _, rfl, rfl⟩
theorem as_rndF (H : Heap) (s a x : Int) :
    asP H s (XL T [0, 1, 3, 6] L49_1 [(0, flt s a), (1, .iface 72 (.ptr H.length 0 0)), (3, asTy), (6, .ptr (H.length + 3) 0 0)] (H ++ [⟨[.int .i64 x], 0, true⟩, ⟨[.ptr H.length 0 0], 0, true⟩, asRow H.length, asRow H.length])) := by
  have h := as_rnd H s x
  have hu := unwrap_ok s a
  rw [XL_eq]
  generalize XL T [0, 1, 3, 6] L49_1 = lp at *
  simp [L49_1, hu, i_As2, i_Un, m_Unw, c_TypeOf, pTypeOf, c_Asg, pAssignable, m_Asg, R, kindT, asgT, RInfo.unh, RInfo.h, RInfo.ty, invokeM]
  exact h
set_option maxHeartbeats 1000000 in
theorem as_gen (H : Heap) (e : AV) (s x : Int) (t : Nat) (v : AV) (he : e = .iface t v)
    (hr : asP H s (XL T [0, 1, 3, 6] L49_1 [(0, e), (1, .iface 72 (.ptr H.length 0 0)), (3, asTy), (6, .ptr (H.length + 3) 0 0)] (H ++ [⟨[.int .i64 x], 0, true⟩, ⟨[.ptr H.length 0 0], 0, true⟩, asRow H.length, asRow H.length]))) :
    sttP H s (C T 30 [e, .iface 72 (.ptr H.length 0 0)] (H ++ [⟨[.int .i64 x], 0, true⟩])) := by
  have ha : sttP H s (C T 49 [e, .iface 72 (.ptr H.length 0 0), asArg H.length, asTy] (H ++ [⟨[.int .i64 x], 0, true⟩, ⟨[.ptr H.length 0 0], 0, true⟩, asRow H.length])) := by
    rw [q49]
    obtain ⟨e', G, h1, h2⟩ := hr
    simp [d49, h1, h2]
    exact ⟨G, rfl⟩
  obtain ⟨G, ha⟩ := ha
  subst he
  rw [q30]
  simp [d30, ha, c_ValueOf, pValueOf, R, kindT, elemT, rimplT, g_err, c_Type, pType, RInfo.unh, RInfo.h, RInfo.ty, invokeM, m_Kind, c_Kind, pKind, m_Elem, c_Elem, pElem, c_IsNil, pIsNil, m_Impl, c_Impl, pImplements, hset_tail, hget_tail, hg0, hg1, hg2, hs0, hs1, hs2]
  exact ⟨G, rfl⟩
theorem as_status (H : Heap) (s x : Int) : sttP H s (C T 30 [.iface 49 (.int .i64 s), .iface 72 (.ptr H.length 0 0)] (H ++ [⟨[.int .i64 x], 0, true⟩])) := as_gen H _ s x _ _ rfl (as_rnd H s x)
theorem as_fault (H : Heap) (s a x : Int) : sttP H s (C T 30 [flt s a, .iface 72 (.ptr H.length 0 0)] (H ++ [⟨[.int .i64 x], 0, true⟩])) := as_gen H _ s x _ _ rfl (as_rndF H s a x)
end Go.Eng.S
