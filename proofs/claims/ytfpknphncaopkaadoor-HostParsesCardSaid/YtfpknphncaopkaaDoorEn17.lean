/- Regions and code: the loaded code does what its translation says. No condition. -/
import Derived.Test.YtfpknphncaopkaaDoorEn16
namespace Go.Eng
open Go

theorem op_ok {P : Program} {T : Tab} (hT : TabOK P T) {c : Cx} (hc : OK T c) {a : Act} {e : Env} (he : EnvR c e a.tmps) {cf : CF} (hcf : CFok P T cf) {o : Oper} {v : AV} {H' : Heap}
    (h : aop T cf ((trOp P o.op).getD .fail) e c.A = some (v, H')) : Does P ((execOp a.eval o).run P c.w) c v H' := by
  cases htr : trOp P o.op with
  | none => rw [htr] at h; cases h
  | some ao =>
    rw [htr] at h
    simp only [Option.getD_some] at h
    have hmem := op_mem (cf := cf) hc he htr
    obtain ⟨dst, op, ty, pos, after, guard⟩ := o
    cases op <;> simp only at htr hmem <;> first
      | exact hmem trivial hT h
      | (cases htr; done)
      | skip
    case build t parts => exact (op_build hc he htr h).does
    case buildSlice t n parts => exact (op_lit hc he htr h).does
    case binOp b t x y t' => exact (op_bin hc he hT htr h).does
    case convert s d x => exact (op_conv hc he htr h).does
    case makeSlice t x y => exact (op_makeSlice hc he htr h).does
    case slice t x lo hi mx => exact (op_slice hc he htr h).does
    case typeAssert x xt t ok => exact (op_assert hc he hT htr h).does
    case call k => exact op_call hc he hT hcf htr h

theorem get_put (e : Env) (d : Nat) (v : AV) (t : Nat) : Env.get (putA e (some d) v) t = bif d == t then v else e.get t := rfl

theorem envR_put {c : Cx} {e : Env} {a : Act} (he : EnvR c e a.tmps) {d : Option Nat} (hd : ∀ x, d = some x → x < a.tmps.size) {v : AV} {y : Value} (hv : VR c v y) :
    EnvR c (putA e d v) (a.put d y).tmps := by
  cases d with
  | none => exact he
  | some d =>
    intro t
    simp only [get_put, Act.put]
    by_cases hdt : d = t
    · subst hdt
      simp only [beq_self_eq_true, cond_true, Array.getD_eq_getD_getElem?]
      rw [Array.getElem?_setIfInBounds_self_of_lt (hd d rfl)]
      exact hv
    · have : (d == t) = false := by simpa using hdt
      rw [this, cond_false]
      have := he t
      simp only [Array.getD_eq_getD_getElem?] at this ⊢
      rw [Array.getElem?_setIfInBounds_ne hdt]; exact this

theorem envR_und {c : Cx} {e : Env} {a : Act} (he : EnvR c e a.tmps) (d : Option Nat) : EnvR c (putA e d .und) (a.put d undef).tmps := by
  cases d with
  | none => exact he
  | some d =>
    intro t
    simp only [get_put, Act.put]
    by_cases hdt : d = t
    · subst hdt
      simp only [beq_self_eq_true, cond_true, Array.getD_eq_getD_getElem?]
      by_cases hb : d < a.tmps.size
      · rw [Array.getElem?_setIfInBounds_self_of_lt hb]; exact .cst _
      · rw [Array.getElem?_eq_none (by simp; omega)]; exact .cst _
    · have : (d == t) = false := by simpa using hdt
      rw [this, cond_false]
      have := he t
      simp only [Array.getD_eq_getD_getElem?] at this ⊢
      rw [Array.getElem?_setIfInBounds_ne hdt]; exact this

theorem put_size (a : Act) (d : Option Nat) (y : Value) : (a.put d y).tmps.size = a.tmps.size := by
  cases d <;> simp [Act.put]
theorem put_defers (a : Act) (d : Option Nat) (y : Value) : (a.put d y).defers = a.defers := by
  cases d <;> rfl

theorem keep_ok {c : Cx} {e : Env} {tmps : Array Value} (he : EnvR c e tmps) (live : List Nat) : EnvR c (Env.keep live e) tmps := by
  intro t
  unfold Env.keep
  induction live with
  | nil => exact .unk _
  | cons x l ih =>
    simp only [List.map_cons, Env.get]
    by_cases hx : x = t
    · subst hx; simp only [beq_self_eq_true, cond_true]; exact he x
    · have : (x == t) = false := by simpa using hx
      rw [this, cond_false]; exact ih

/-- Whether an operation is wanted. -/
theorem wanted_ok {c : Cx} {e : Env} {a : Act} (he : EnvR c e a.tmps) {P : Program} {nt : Nat} {ops : Array Oper} {o : Oper} {b : Bool} (h : wantedA e (trOper P nt ops o).guard = some b) : Region.wanted o (yielded ops a.tmps) = b := by
  unfold trOper at h
  simp only at h
  unfold Region.wanted
  cases hg : o.guard with
  | none => rw [hg] at h; cases h; rfl
  | some p =>
    obtain ⟨j, w⟩ := p
    rw [hg] at h
    simp only at h ⊢
    cases hd : (ops[j]?).bind (·.dst) with
    | none =>
      rw [hd] at h
      cases h
    | some t =>
      rw [hd] at h
      simp only [wantedA] at h
      have hv := he t
      unfold yielded
      rw [hd]
      simp only [Option.bind_some]
      split at h
      · rename_i u hu
        cases h
        rw [hu] at hv
        rw [Array.getD_eq_getD_getElem?] at hv
        cases hx : a.tmps[t]? with
        | none => rw [hx] at hv; simp [undef] at hv; cases hv
        | some y =>
          rw [hx] at hv
          simp only [Option.getD_some] at hv
          cases hv
          rfl
      · rename_i u hu
        cases h
        rw [hu] at hv
        rw [Array.getD_eq_getD_getElem?] at hv
        cases hx : a.tmps[t]? with
        | none => rfl
        | some y =>
          rw [hx] at hv
          simp only [Option.getD_some] at hv
          cases hv
          rfl
      · cases h

/-- A region in the order of its text. -/
theorem ops_ok {P : Program} {T : Tab} (hT : TabOK P T) {cf : CF} (hcf : CFok P T cf) {nt : Nat} {ops : Array Oper} {Q : Exit → Act → World → Prop} : ∀ (l : List Oper) (k : Nat), ops.toList.drop k = l → ∀ (c : Cx), OK T c → ∀ (e : Env) (a : Act), EnvR c e a.tmps → nt ≤ a.tmps.size →
    ∀ (e' : Env) (H' : Heap), runOps T cf (l.map (trOper P nt ops)) e c.A = some (e', H') →
    (∀ (a' : Act) (c' : Cx), Ext c c' → OK T c' → c'.A = H' → EnvR c' e' a'.tmps → nt ≤ a'.tmps.size → a'.defers = a.defers → Q .normal a' c'.w) → wpOps P ops Q (List.range' k l.length) a c.w
  | [], k, hl, c, hc, e, a, he, hsz, e', H', h, hQ => by
    cases h
    exact hQ a c (Ext.refl c) hc rfl he hsz rfl
  | o :: l, k, hl, c, hc, e, a, he, hsz, e', H', h, hQ => by
    have hk : ops[k]? = some o := by
      have : (ops.toList.drop k)[0]? = some o := by rw [hl]; rfl
      rw [List.getElem?_drop] at this
      simpa using this
    have hl' : ops.toList.drop (k + 1) = l := by
      have : (ops.toList.drop k).drop 1 = l := by rw [hl]; rfl
      rwa [List.drop_drop] at this
    simp only [List.length_cons, List.range'_succ, wpOps, hk]
    simp only [List.map_cons] at h
    unfold runOps at h
    split at h
    · cases h
    · rename_i hw
      have := wanted_ok he hw
      rw [this]
      simp only [Bool.false_eq_true, if_false]
      exact ops_ok hT hcf l (k + 1) hl' c hc _ _ (envR_und he o.dst) (by rw [put_size]; exact hsz) e' H' h (fun a' c' h1 h2 h3 h4 h5 h6 => hQ a' c' h1 h2 h3 h4 h5 (by rw [h6, put_defers]))
    · rename_i hw
      have := wanted_ok he hw
      rw [this]
      simp only [if_true]
      refine .inl ?_
      split at h
      · rename_i v H1 ha
        have ha' : (∀ x, o.dst = some x → x < nt) ∧ aop T cf ((trOp P o.op).getD .fail) e c.A = some (v, H1) := by
          unfold trOper at ha
          simp only at ha
          cases hod : o.dst with
          | none =>
            rw [hod] at ha
            simp only [if_true] at ha
            exact ⟨fun x hx => (by cases hx), ha⟩
          | some d =>
            rw [hod] at ha
            by_cases hd : d < nt
            · simp only [hd, decide_true, if_true] at ha
              exact ⟨fun x hx => (by cases hx; exact hd), ha⟩
            · simp only [hd, decide_false, Bool.false_eq_true, if_false] at ha
              cases ha
        refine op_ok hT hc he hcf ha'.2 a o _ Q fun y c' hE hW hA hv => ?_
        have hc' := hc.ext hE hW
        rw [← hA] at h
        exact ops_ok hT hcf l (k + 1) hl' c' hc' _ _ (envR_put (he.ext hE) (fun x hx => Nat.lt_of_lt_of_le (ha'.1 x hx) hsz) hv) (by rw [put_size]; exact hsz) e' H' h
          (fun a' c'' h1 h2 h3 h4 h5 h6 => hQ a' c'' (hE.trans h1) h2 h3 h4 h5 (by rw [h6, put_defers]))
      · cases h

def toExit : AEx → Exit
  | .normal => .normal
  | .exit id => .exit id
  | .ret => .ret

/-- What the code's end must meet. -/
def Post (T : Tab) (nt : Nat) (c : Cx) (a : Act) (x : AEx) (e' : Env) (H' : Heap) (Q : Exit → Act → World → Prop) : Prop :=
  ∀ (a' : Act) (c' : Cx), Ext c c' → OK T c' → c'.A = H' → EnvR c' e' a'.tmps → nt ≤ a'.tmps.size → a'.defers = a.defers → Q (toExit x) a' c'.w

theorem Post.then {T : Tab} {nt : Nat} {c c1 : Cx} {a a1 : Act} {x : AEx} {e' : Env} {H' : Heap} {Q : Exit → Act → World → Prop} (h : Post T nt c a x e' H' Q) (hE : Ext c c1) (hd : a1.defers = a.defers) : Post T nt c1 a1 x e' H' Q :=
  fun a' c' h1 h2 h3 h4 h5 h6 => h a' c' (hE.trans h1) h2 h3 h4 h5 (h6.trans hd)
end Go.Eng
