/- Every operation of the loaded code does what its translation says. No condition. -/
import Derived.Test.YtfpknphncaopkaaDoorEn11
namespace Go.Eng
open Go

/-- Calls do what the table's functions say. -/
def CFok (P : Program) (T : Tab) (cf : CF) : Prop := ∀ (f : FuncId) (args : List AV) (H : Heap) (r : AV) (H' : Heap), cf f args H = some (r, H') → ∀ c : Cx, OK T c → c.A = H → ∀ args' : Array Value, VRs c args args'.toList →
  Does P ((callFunc f args').run P c.w) c r H'

theorem vro {T : Tab} {c : Cx} (hc : OK T c) {e : Env} {a : Act} (he : EnvR c e a.tmps) {x : Option Operand} {x' : Option Opd} (h : trOpdO x = some x') : VRO c (evO T e x') (x.map a.eval) := by
  cases x with
  | none => cases h; exact .none
  | some x =>
    simp only [trOpdO] at h
    cases hx : trOpd x with
    | none => rw [hx] at h; cases h
    | some y => rw [hx] at h; cases h; exact .some _ _ (opd_ok hc he hx)

theorem invoke_ok {P : Program} {T : Tab} (hT : TabOK P T) {c : Cx} (hc : OK T c) {cf : CF} (hcf : CFok P T cf) {x : AV} {y : Value} (hx : VR c x y) {m : String} {args : List AV} {args' : Array Value} (ha : VRs c args args'.toList)
    {v : AV} {H' : Heap} (h : invokeM T cf x m args c.A = some (v, H')) : Does P ((callMethod y m args').run P c.w) c v H' := by
  unfold invokeM at h
  split at h
  · rename_i t u
    split at h
    · rename_i f hf
      cases hx with
      | iface t u y hu =>
        have hm := (hT.meth _ _ _ hf y c.w).1
        have := hcf _ _ _ _ _ h c hc rfl (#[y] ++ args') (by simpa using VRs.cons hu ha)
        simpa [callMethod, hm] using this
    · rename_i f k hf
      split at h
      · rename_i z
        cases hx with
        | iface t u y hu =>
          obtain ⟨us, rfl, hl⟩ := hu.agg_inv
          obtain ⟨q, rs, h1, hq2, h3⟩ := hl.uncons
          obtain rfl : rs = [] := List.eq_nil_of_length_eq_zero (by simpa using h3.len.symm)
          obtain rfl : us = #[q] := by rw [← Array.toArray_toList (xs := us), h1]
          have hm := hT.methAt _ _ _ _ hf q c.w
          have := hcf _ _ _ _ _ h c hc rfl (#[q] ++ args') (by simpa using VRs.cons hq2 ha)
          simpa [callMethod, hm] using this
      · cases h
    · cases h
  · cases h

theorem applyF_ok {P : Program} {T : Tab} (hT : TabOK P T) {c : Cx} (hc : OK T c) {cf : CF} (hcf : CFok P T cf) {f : AV} {y : Value} (hf : VR c f y) {args : List AV} {args' : Array Value} (ha : VRs c args args'.toList)
    {v : AV} {H' : Heap} (h : applyF T cf f args c.A = some (v, H')) : Does P ((do let d ← Deferred.ofValue y args'; invoke d.target d.args : Sem Next).run P c.w) c v H' := by
  unfold applyF at h
  split at h
  · rename_i f first cap
    cases hf with
    | fn f x z x' z' hx hx' hz hz' =>
      have h1 : VRs c first x'.toList := ⟨by simpa using hx, fun k a v h1 h2 => hx' k a v h1 (by simpa using h2)⟩
      have h2 : VRs c cap z'.toList := ⟨by simpa using hz, fun k a v h1 h2 => hz' k a v h1 (by simpa using h2)⟩
      have := hcf _ _ _ _ _ h c hc rfl (x' ++ args' ++ z') (by simpa using (h1.append ha).append h2)
      simpa [Deferred.ofValue, invoke] using this
  · rename_i m first cap
    cases hf with
    | fn f x z x' z' hx hx' hz hz' =>
      have h1 : VRs c first x'.toList := ⟨by simpa using hx, fun k a v h1 h2 => hx' k a v h1 (by simpa using h2)⟩
      have hfa := h1.append ha
      split at h
      · rename_i x r heq
        rw [heq] at hfa
        obtain ⟨u, us, e1, hu, hus⟩ := hfa.uncons
        have hargs : x' ++ args' = (u :: us).toArray := by apply Array.ext'; simpa using e1
        have := invoke_ok hT hc hcf hu (args' := us.toArray) (by simpa using hus) h
        have hget : (x' ++ args')[0]? = some u := by rw [hargs]; simp
        have hext : (x' ++ args').extract 1 (x' ++ args').size = us.toArray := by rw [hargs]; apply Array.ext'; simp
        simp only [Deferred.ofValue, Sem.run_bind, Sem.run_pure, Result.andThen_ok, invoke, hget, hext]
        exact this
      · cases h
  · rename_i fv first cap _ _
    cases hf with
    | fn f x z x' z' hx hx' hz hz' =>
      have h1 : VRs c first x'.toList := ⟨by simpa using hx, fun k a v h1 h2 => hx' k a v h1 (by simpa using h2)⟩
      have hfa := h1.append ha
      split at h
      · rename_i f x r hv heq
        rw [heq] at hfa
        obtain ⟨u, us, e1, hu, hus⟩ := hfa.uncons
        have hargs : x' ++ args' = #[u] ++ us.toArray := by apply Array.ext'; simpa using e1
        have := hcf _ _ _ _ _ h c hc rfl (#[u] ++ us.toArray) (by simpa using VRs.cons hu hus)
        simp only [Deferred.ofValue, Sem.run_bind, Sem.run_pure, Result.andThen_ok, hargs]
        rw [hT.via _ _ hv]
        exact this
      · cases h
  · cases h

theorem ix_ok {c : Cx} {m : Nat} {x : AV} {y : Value} (hx : VR c x y) {i : Nat} (h : ix m x = some i) : ∃ k j, y = .int k j ∧ 0 ≤ j ∧ j < (m : Int) ∧ j.toNat = i := by
  unfold ix at h
  split at h
  · split at h
    · rename_i k j hj
      cases h; cases hx
      exact ⟨_, _, rfl, hj.1, hj.2, rfl⟩
    · cases h
  · cases h

theorem aeqBin_ok {P : Program} {T : Tab} (hT : TabOK P T) {c : Cx} (hc : OK T c) {t : TypeId} {q : EqT} (hq : eqtO P 9 t = some q) {cn : Bool} {x y : AV} {x' y' : Value} (hx : VR c x x') (hy : VR c y y') (hn : AV.num x y = false) {r : Bool} (h : aeq T 9 q cn x y = some r) :
    DoesV P (binOp .eql t x' y') c (.bool r) c.A ∧ DoesV P (binOp .neq t x' y') c (.bool (!r)) c.A := by
  obtain ⟨h1, h2⟩ := aeq_ok hT 9 q cn x y r h t 9 hq Op.maxDepth (by decide) x' y' hx hy
  have hp := h2 hn t
  constructor
  · exact .same hc.wr (y := .bool r) (by rw [hp.1]; simp [Op.equal, h1]) (.bool _)
  · exact .same hc.wr (y := .bool (!r)) (by rw [hp.2]; simp [Op.equal, h1]) (.bool _)

theorem aeq_unk {T : Tab} {f : Nat} {q : EqT} {cn : Bool} {x : AV} : aeq T f q cn .unk x = none ∧ aeq T f q cn x .unk = none := by
  cases f with
  | zero => exact ⟨rfl, rfl⟩
  | succ f => constructor <;> (unfold aeq; split <;> first | rfl | (rename_i h; cases h) | (rename_i h1 h2; cases h1) | (rename_i h1 h2; cases h2))

theorem aeq_nil {T : Tab} {f : Nat} {q : EqT} {cn : Bool} {r : Bool} (h : aeq T f q cn (.cst .nilIface) (.cst .nilIface) = some r) : cn = true := by
  cases f with
  | zero => cases h
  | succ f => cases q <;> cases cn <;> simp [aeq] at h ⊢

theorem guard_nil {T : Tab} {c : Cx} {a b : AV} {q : EqT} {cn r : Bool} (ha : VR c a .nilIface) (hb : VR c b .nilIface) (h : aeq T 9 q cn a b = some r) : cn = true := by
  cases ha with
  | unk => rw [aeq_unk.1] at h; cases h
  | cst =>
    cases hb with
    | unk => rw [aeq_unk.2] at h; cases h
    | cst => exact aeq_nil h

theorem guard_agg {P : Program} {T : Tab} {c : Cx} {a b : AV} {q : EqT} {cn r : Bool} {t : TypeId} {u u' : Array Value} (ha : VR c a (.agg u)) (hb : VR c b (.agg u')) (hng : noGuard P t = true) (hq : eqtO P 9 t = some q) (h : aeq T 9 q cn a b = some r) :
    P.eqGuardType P.depth t = false := by
  have hs : ∃ fs, q = .struct fs := by
    cases ha with
    | unk => rw [aeq_unk.1] at h; cases h
    | cst => cases q <;> simp [aeq] at h
    | agg x x' _ _ =>
      cases hb with
      | unk => rw [aeq_unk.2] at h; cases h
      | cst => cases q <;> simp [aeq] at h
      | agg y y' _ _ => cases q <;> first | exact ⟨_, rfl⟩ | (simp [aeq] at h; done)
  obtain ⟨fs, rfl⟩ := hs
  obtain ⟨fs', k', _, hu, _⟩ := eqtO_struct hq
  unfold noGuard at hng
  rw [hu] at hng
  simpa using hng

/-- The guard against two nil interface values does not speak up. -/
theorem eqGuard_ok {P : Program} {T : Tab} {c : Cx} (op : BinOp) {t : TypeId} {x y : Operand} {a b : AV} {a' b' : Value} (ha : VR c a a') (hb : VR c b b') {q : EqT} {r : Bool} (hng : noGuard P t = true) (hq : eqtO P 9 t = some q)
    (h : aeq T 9 q (isK x || isK y) a b = some r) : (eqGuard op t x y a' b').run P c.w = .ok () c.w := by
  have hA : a' = .nilIface → b' = .nilIface → (isK x || isK y) = true := by rintro rfl rfl; exact guard_nil ha hb h
  have hB : ∀ u u', a' = .agg u → b' = .agg u' → P.eqGuardType P.depth t = false := by rintro u u' rfl rfl; exact guard_agg ha hb hng hq h
  clear ha hb h hq hng
  cases op with
  | eql =>
    unfold eqGuard
    simp only [Bool.not_true, Bool.false_eq_true, if_false]
    split
    · have hk := hA rfl rfl
      clear hA hB
      cases x <;> cases y <;> first | rfl | (simp; done) | (simp [isK] at hk; done)
    · simp [hB _ _ rfl rfl]
    · rfl
  | neq =>
    unfold eqGuard
    simp only [Bool.not_true, Bool.false_eq_true, if_false]
    split
    · have hk := hA rfl rfl
      clear hA hB
      cases x <;> cases y <;> first | rfl | (simp; done) | (simp [isK] at hk; done)
    · simp [hB _ _ rfl rfl]
    · rfl
  | _ => simp [eqGuard]
end Go.Eng
