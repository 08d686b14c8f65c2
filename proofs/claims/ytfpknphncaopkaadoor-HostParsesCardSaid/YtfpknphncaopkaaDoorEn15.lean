/- Every operation of the loaded code does what its translation says: makes, slices, assertions, calls, and all. No condition. -/
import Derived.Test.YtfpknphncaopkaaDoorEn14
namespace Go.Eng
open Go

section
variable {P : Program} {T : Tab} {c : Cx} (hc : OK T c) {a : Act} {e : Env} (he : EnvR c e a.tmps) {cf : CF}

theorem wrap64_id {n : Int} (h0 : 0 ≤ n) (h : n ≤ 1099511627776) : IntKind.i64.wrap n = n := by
  unfold IntKind.wrap
  simp [IntKind.signed, IntKind.bits]
  omega

include hc he in
theorem op_makeSlice {t : TypeId} {x y : Operand} {ao : AOp} (htr : trOp P (.makeSlice t x y) = some ao) {v : AV} {H' : Heap} (h : aop T cf ao e c.A = some (v, H')) : DoesV P (Instr.makeSlice t (a.eval x) (a.eval y)) c v H' := by
  simp only [trOp] at htr
  split at htr
  · rename_i el hu
    split at htr
    · rename_i i z x' y' hi hz hx hy
      split at htr
      · rename_i hcond
        cases htr
        have hvx := opd_ok hc he hx
        have hvy := opd_ok hc he hy
        simp only [aop] at h
        split at h
        · rename_i k l k' cp hex hey
          rw [hex] at hvx; rw [hey] at hvy
          split at h
          · rename_i hb
            obtain ⟨h0, hlc, hlim⟩ := hb
            cases h
            generalize a.eval x = xx at hvx
            generalize a.eval y = yy at hvy
            cases hvx; cases hvy
            obtain ⟨zv, hzv, hzr⟩ := zeroO_some hz c
            have hzs : zv.cells.size = i.size := by have := hzr.len; simp at this; omega
            have hcp : 0 ≤ cp := by omega
            obtain ⟨m, rfl⟩ := Int.eq_ofNat_of_zero_le hcp
            obtain ⟨n, rfl⟩ := Int.eq_ofNat_of_zero_le h0
            have hb1 : (m : Int) * (i.bytes + 1) ≤ 1099511627776 := by simpa [LIM] using hlim
            have hb2 : (m : Int) * i.bytes ≤ 1099511627776 := by
              have : (m : Int) * (i.bytes + 1) = m * i.bytes + m := by rw [Int.mul_add]; omega
              omega
            have hb3 : (m : Int) ≤ 1099511627776 := by
              have h1 : (m : Int) * (i.bytes + 1) = m * i.bytes + m := by rw [Int.mul_add]; omega
              have h2 : 0 ≤ (m : Int) * i.bytes := Int.mul_nonneg (by omega) (by omega)
              omega
            have w1 := wrap64_id h0 (by omega : (n : Int) ≤ _)
            have w2 := wrap64_id hcp hb3
            have hr := reps_vr hzr m
            rw [hzs] at hr
            obtain ⟨c', r1, r2, r3, r4, r5, r6, r7⟩ := new_row (P := P) hc el (VRs.find hr)
            refine ⟨.slice (some ⟨c.w.heap.size, 0, none⟩) n m, c', ?_, r2, r3, by simpa using r4, ?_⟩
            · have hty : ∀ w : World, (typeInfo el).run P w = .ok i w := fun w => by simp [typeInfo, hi]
              have hsz : ∀ w : World, (sizeOf el).run P w = .ok i.size w := fun w => by simp [sizeOf, hty]
              have t1 : ¬ (((m : Int) < 0) ∨ (i.bytes : Int) * m > 2 ^ 48) := by
                rw [Int.mul_comm]; omega
              simp only [Instr.makeSlice, Sem.run_bind, run_underlying hu, Result.andThen_ok, asInt, asIntOf, Sem.run_pure, hty, w1, w2]
              have t2 : (decide ((m : Int) < 0) || decide ((i.bytes : Int) * m > 2 ^ 48) || decide ((n : Int) < 0) || decide ((n : Int) > m)) = false := by
                simp only [Bool.or_eq_false_iff, decide_eq_false_iff_not]
                omega
              rw [if_neg (by rw [t2]; decide)]
              simp only [Sem.run_bind, run_askRoom, Result.andThen_ok, hsz, Sem.run_ite, Int.toNat_natCast]
              by_cases hm0 : m * i.size = 0
              · simp only [hm0, if_true, Sem.run_pure, Result.andThen_ok]
                have : ((Array.range 0).map fun x => (#[] : Array Value)[x % (#[] : Array Value).size]!) = (Array.range (m * i.size)).map (zv.cells[· % i.size]!) := by rw [hm0]; simp
                rw [this]
                simp [r1]
              · simp only [hm0, if_false, hzv, Result.andThen_ok, Sem.run_pure, hzs]
                simp [r1]
            · have hA : c'.A = hnew c.A (reps m z) := by simpa using r4
              refine .ms _ _ _ _ _ ⟨reps m z, 0, true⟩ _ _ (by rw [hA]; exact hnew_new _ _) (Nat.le_refl _) (by omega) rfl (fun _ _ => by simp [Cx.at, r5, r6]) (fun _ _ k hk => ?_)
              simp only [Cx.at, r5, r6, World.cell?, r7]
              rw [Array.getElem?_push]
              simp only [if_true, Option.isSome_none, Bool.false_eq_true, if_false, Nat.zero_add]
              rw [Array.getElem?_eq_getElem (by simp; omega)]; rfl
          · cases h
        · cases h
      · cases htr
    · cases htr
  · cases htr

theorem pair_of_opt {α : Type} {o : Option α} {H H' : Heap} {v : AV} {f : α → AV} (h : o.map (fun x => (f x, H)) = some (v, H')) : ∃ x, o = some x ∧ f x = v ∧ H = H' := some_pair h

include hc he in
theorem op_slice {t : TypeId} {x : Operand} {lo hi mx : Option Operand} {ao : AOp} (htr : trOp P (.slice t x lo hi mx) = some ao) {v : AV} {H' : Heap} (h : aop T cf ao e c.A = some (v, H')) :
    DoesV P (Instr.sliceAt t (a.eval x) (lo.map a.eval) (hi.map a.eval) (mx.map a.eval)) c v H' := by
  simp only [trOp] at htr
  split at htr
  · rename_i x' lo' hi' mx' hx hlo hhi hmx
    have fin : ∀ {k : SlT}, SlK P t k → aop T cf (.slice k x' lo' hi' mx') e c.A = some (v, H') → DoesV P (Instr.sliceAt t (a.eval x) (lo.map a.eval) (hi.map a.eval) (mx.map a.eval)) c v H' := by
      intro k hk h
      simp only [aop] at h
      obtain ⟨h1, rfl⟩ := some_pair' h
      exact slice_ok hc hk (opd_ok hc he hx) (vro hc he hlo) (vro hc he hhi) (vro hc he hmx) h1
    split at htr
    · rename_i hu; cases htr; exact fin (k := .str) hu h
    · rename_i el hu
      obtain ⟨s, hs, rfl⟩ := mapO_some htr
      exact fin (k := .sl s) ⟨el, hu, hs⟩ h
    · rename_i n el hu
      obtain ⟨s, hs, rfl⟩ := mapO_some htr
      exact fin (k := .arr n s) (Or.inl ⟨el, hu, hs⟩) h
    · rename_i arr hu
      split at htr
      · rename_i n el hua
        obtain ⟨s, hs, rfl⟩ := mapO_some htr
        exact fin (k := .arr n s) (Or.inr ⟨arr, el, hu, hua, hs⟩) h
      · cases htr
    · cases htr
  · cases htr

include hc he in
theorem op_assert {x : Operand} {xt t : TypeId} {ok : Bool} {ao : AOp} (hT : TabOK P T) (htr : trOp P (.typeAssert x xt t ok) = some ao) {v : AV} {H' : Heap} (h : aop T cf ao e c.A = some (v, H')) :
    DoesV P (Instr.typeAssert (a.eval x) xt t ok) c v H' := by
  simp only [trOp] at htr
  split at htr
  · rename_i x' ms hx hu
    have hv := opd_ok hc he hx
    split at htr
    · rename_i hz
      cases htr
      simp only [aop] at h
      split at h
      · rename_i h1 h2; cases h1
      · rename_i h1 h2; cases h1
      · rename_i t' u y h1 hev
        cases h1
        rw [hev] at hv
        generalize a.eval x = yy at hv
        cases hv with
        | iface _ _ y' hy =>
          split at h
          · rename_i hi
            obtain ⟨ms', i, e1, e2, e3⟩ := hT.impl _ _ _ hi
            rw [hu] at e1; cases e1
            have e4 : Instr.missingMethod ms i.methods = none := by simpa using e3
            cases h
            cases ok with
            | true => exact .same hc.wr (y := .tuple #[.iface u y', .bool true]) (by simp [Instr.typeAssert, run_underlying hu, typeInfo, e2, e4]) (VRs.tup (.cons (.iface _ _ _ hy) (.cons (.bool _) (.nil c))))
            | false => exact .same hc.wr (y := .iface u y') (by simp [Instr.typeAssert, run_underlying hu, typeInfo, e2, e4]) (.iface _ _ _ hy)
          · rename_i hi
            obtain ⟨ms', i, e1, e2, e3⟩ := hT.impl _ _ _ hi
            rw [hu] at e1; cases e1
            obtain ⟨m, e4⟩ : ∃ m, Instr.missingMethod ms i.methods = some m := Option.isSome_iff_exists.1 (by simpa using e3)
            cases ok with
            | true =>
              cases h
              exact .same hc.wr (y := .tuple #[.nilIface, .bool false]) (by simp [Instr.typeAssert, run_underlying hu, typeInfo, e2, e4, run_zero hz]) (VRs.tup (.cons (.cst _) (.cons (.bool _) (.nil c))))
            | false => cases h
          · cases h
      · rename_i t' h1 hev
        cases h1
        rw [hev] at hv
        generalize a.eval x = yy at hv
        cases hv
        cases ok with
        | true =>
          cases h
          exact .same hc.wr (y := .tuple #[.nilIface, .bool false]) (by simp [Instr.typeAssert, run_underlying hu, run_zero hz]) (VRs.tup (.cons (.cst _) (.cons (.bool _) (.nil c))))
        | false => cases h
      · cases h
    · cases htr
  · rename_i x' d hni hx hu
    have hv := opd_ok hc he hx
    split at htr
    · rename_i z hz
      obtain ⟨za, hza, rfl⟩ := mapO_some htr
      have hzv : VR c za z := ofV_ok hza
      simp only [aop] at h
      split at h
      · rename_i t' z' u y h1 hev
        cases h1
        rw [hev] at hv
        generalize a.eval x = yy at hv
        cases hv with
        | iface _ _ y' hy =>
          split at h
          · rename_i hut
            subst hut
            cases h
            cases ok with
            | true =>
              refine .same hc.wr (y := .tuple #[y', .bool true]) ?_ (VRs.tup (.cons hy (.cons (.bool _) (.nil c))))
              cases d <;> first | exact (hni _ rfl).elim | simp [Instr.typeAssert, run_underlying hu]
            | false =>
              refine .same hc.wr (y := y') ?_ hy
              cases d <;> first | exact (hni _ rfl).elim | simp [Instr.typeAssert, run_underlying hu]
          · rename_i hut
            cases ok with
            | true =>
              cases h
              refine .same hc.wr (y := .tuple #[z, .bool false]) ?_ (VRs.tup (.cons hzv (.cons (.bool _) (.nil c))))
              cases d <;> first | exact (hni _ rfl).elim | simp [Instr.typeAssert, run_underlying hu, hut, run_zero hz]
            | false => cases h
      · rename_i t' z' h1 hev
        cases h1
        rw [hev] at hv
        generalize a.eval x = yy at hv
        cases hv
        cases ok with
        | true =>
          cases h
          refine .same hc.wr (y := .tuple #[z, .bool false]) ?_ (VRs.tup (.cons hzv (.cons (.bool _) (.nil c))))
          cases d <;> first | exact (hni _ rfl).elim | simp [Instr.typeAssert, run_underlying hu, run_zero hz]
        | false => cases h
      · rename_i h1 h2; cases h1
      · rename_i h1 h2; cases h1
      · cases h
    · cases htr
  · cases htr
end
end Go.Eng
