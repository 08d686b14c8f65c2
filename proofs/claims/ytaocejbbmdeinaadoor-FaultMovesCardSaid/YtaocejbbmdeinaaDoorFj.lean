/- fault.Status, At, Move; errors.Is; FaultMoves, the plain law. No condition. -/
import Derived.Test.YtaocejbbmdeinaaDoorFi
namespace Go.Eng.S
open Go Go.Eng
set_option maxHeartbeats 1000000 in
theorem as_full (pt t : Nat) (hk : aspK pt t) (k : Nat) (v : AV) (z z' : List AV) (b : Bool) (hr : asP z' b (asL pt t (.iface k v) z)) : ∃ G, C T 24 [.iface k v, .iface pt (.ptr 0 0 0)] [⟨z, 0, true⟩] = some (.bool b, ⟨z', 0, true⟩ :: G) := by
  have ha : ∃ G, C T 35 [.iface k v, .iface pt (.ptr 0 0 0), .agg [.cst (.pointer (some ⟨4, pt, none⟩)), .ptr 1 0 0, .int .u64 150], asTy t] [⟨z, 0, true⟩, ⟨[.ptr 0 0 0], 0, true⟩, ⟨[.cst (.pointer (some ⟨4, pt, none⟩)), .ptr 1 0 0, .int .u64 150], 0, true⟩] = some (.bool b, ⟨z', 0, true⟩ :: G) := by
    rw [q35]
    obtain ⟨e', G, h1, h2⟩ := hr
    unfold asL at h1
    simp [d35, h1, h2]
  obtain ⟨G, ha⟩ := ha
  refine ⟨G, ?_⟩
  rw [q24]
  rcases hk with ⟨rfl, rfl⟩ | ⟨rfl, rfl⟩
  · simp [d24, ha, c_ValueOf, pValueOf, R, kindT, elemT, rimplT, asgT, g_err, c_Type, pType, RInfo.unh, RInfo.h, RInfo.ty, invokeM, m_Kind, c_Kind, pKind, m_Elem, c_Elem, pElem, c_IsNil, pIsNil, m_Impl, c_Impl, pImplements, hget, hset]
  · simp [d24, ha, c_ValueOf, pValueOf, R, kindT, elemT, rimplT, asgT, g_err, c_Type, pType, RInfo.unh, RInfo.h, RInfo.ty, invokeM, m_Kind, c_Kind, pKind, m_Elem, c_Elem, pElem, c_IsNil, pIsNil, m_Impl, c_Impl, pImplements, hget, hset]
theorem unif {k : Nat} {v : AV} (j : Nat) (H : Heap) (h : snap (j + 1) H (.iface k v) = some (.iface k v, H)) : snap j H v = some (v, H) := by
  rw [snap_iface] at h
  split at h
  · rename_i h'; simp at h; rw [h', h.1, h.2]
  · cases h
theorem status_ok (f : Bool) (s a : Int) (l : List (List UInt8)) (hl : l.length ≤ 20) (H : Heap) : C T 11 [chn (bse f s a) l] H = some (.tup [.int .i64 s, .bool true], H) := by
  refine anyH fd11 rfl (by simp [closedL, chn_closed]) ?_ H
  have hr : asP [.int .i64 s] true (asL 52 30 (chn (bse f s a) l) [.int .i64 0]) := by
    rw [as_chn _ _ (.inl ⟨rfl, rfl⟩) f s a _ l hl]
    cases f
    · exact as_SS s 0
    · exact as_SF s a 0
  have s2 := chn_snap f s a l 64 [] (by omega)
  obtain ⟨k, v, h1, h2⟩ := chn_if f s a l
  rw [h1] at hr s2 ⊢
  have s3 := unif 63 [] s2
  obtain ⟨G, hA⟩ := as_full _ _ (.inl ⟨rfl, rfl⟩) k v _ _ _ hr
  rw [q11]
  simp [d11, s3, hA, hget]
theorem at_ok (f : Bool) (s a : Int) (l : List (List UInt8)) (hl : l.length ≤ 20) (H : Heap) : C T 12 [chn (bse f s a) l] H = some (.tup [.int .i64 (bif f then a else 0), .bool f], H) := by
  refine anyH fd12 rfl (by simp [closedL, chn_closed]) ?_ H
  have hr : asP [.int .i64 (bif f then s else 0), .int .i64 (bif f then a else 0)] f (asL 51 49 (chn (bse f s a) l) [.int .i64 0, .int .i64 0]) := by
    rw [as_chn _ _ (.inr ⟨rfl, rfl⟩) f s a _ l hl]
    cases f
    · exact as_FS s 0 0
    · exact as_FF s a 0 0
  have s2 := chn_snap f s a l 64 [] (by omega)
  obtain ⟨k, v, h1, h2⟩ := chn_if f s a l
  rw [h1] at hr s2 ⊢
  have s3 := unif 63 [] s2
  obtain ⟨G, hA⟩ := as_full _ _ (.inr ⟨rfl, rfl⟩) k v _ _ _ hr
  rw [q12]
  simp [d12, s3, hA, hget]
theorem new_ok (s a : Int) (H : Heap) : C T 16 [.int .i64 s, .int .i64 a] H = some (bse true s a, H) := by
  refine anyH fd16 rfl rfl ?_ H
  rw [q16]
  simp [d16, bse]
theorem move_ok (f : Bool) (s a b : Int) (l : List (List UInt8)) (hl : l.length ≤ 20) (h1 : -9223372036854775808 ≤ a + b) (h2 : a + b < 9223372036854775808) (H : Heap) : C T 14 [chn (bse f s a) l, .int .i64 b] H = some (bif f then bse true s (a + b) else chn (bse f s a) l, H) := by
  refine anyH fd14 rfl (by simp [closedL, AV.closed, chn_closed]) ?_ H
  have g1 := status_ok f s a l hl
  have g2 := at_ok f s a l hl
  have s2 := chn_snap f s a l 64 [] (by omega)
  have g3 := new_ok s (a + b)
  have s4 := bse_snap true s (a + b) 64 [] (by decide)
  generalize chn (bse f s a) l = x at *
  rw [q14]
  cases f with
  | true =>
    generalize bse true s (a + b) = y at *
    simp (disch := omega) [d14, s2, g1, g2, g3, s4]
  | false => simp (disch := omega) [d14, s2, g1, g2]
theorem c_Comp (a : List AV) (H : Heap) : C T 78 a H = pComparable R a H := C_prim (by kernel_rfl) a H
theorem m_Comp : T.meth 80 "Comparable" = some (78, none) := by kernel_rfl
theorem eq_F : T.eqt 49 = some (.struct [(0, .int), (1, .int)]) := by kernel_rfl
theorem is_ok (s a : Int) (H : Heap) : C T 15 [bse true s a, bse true s a] H = some (.bool true, H) := by
  have hi : ∀ H, C T 28 [bse true s a, bse true s a, .bool true] H = some (.bool true, H) := by
    intro H
    refine anyH fd28 rfl rfl ?_ H
    have hx : ∃ e', XL T [0, 1, 2] L28_1 [(0, bse true s a), (1, bse true s a), (2, .bool true)] [] = some (.ret, e', []) ∧ e'.get 6 = .bool true := by
      rw [XL_eq]
      generalize XL T [0, 1, 2] L28_1 = lp at *
      simp [L28_1, bse, aeq, eq_F]
      done
    obtain ⟨e', h1, h2⟩ := hx
    simp only [bse, cond_true] at h1 ⊢
    rw [q28]
    simp [d28, h1, h2]
  refine anyH fd15 rfl rfl ?_ H
  simp only [bse, cond_true] at hi ⊢
  rw [q15]
  simp [d15, hi, c_TypeOf, pTypeOf, RInfo.ty, R, invokeM, m_Comp, c_Comp, pComparable, compT, kindT, RInfo.unh, RInfo.h]
end Go.Eng.S
