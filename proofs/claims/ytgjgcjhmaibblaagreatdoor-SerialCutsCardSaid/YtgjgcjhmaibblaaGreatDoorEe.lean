/- Regions whose order is drawn. Regions whose order is drawn: any order does what the text's order does. Regions whose order is drawn, and all code. The abstract interpreter is sound: what it gives is what the loaded program's calls give. The abstract interpreter is sound: calls. No condition. -/
import Derived.Test.YtgjgcjhmaibblaaGreatDoorEd
import Derived.Scope
namespace Go.Eng
open Go

/-! ### an operation reads its own slots alone -/
def Same (l : List Nat) (e e' : Env) : Prop := ∀ t ∈ l, e.get t = e'.get t

theorem ev_congr {T : Tab} {e e' : Env} {x : Opd} (h : Same x.names e e') : ev T e x = ev T e' x := by
  cases x with
  | t n => exact h n (by simp [Opd.names])
  | _ => rfl
theorem evO_congr {T : Tab} {e e' : Env} {x : Option Opd} (h : Same (Opd.namesO x) e e') : evO T e x = evO T e' x := by
  cases x with
  | none => rfl
  | some x => simp only [evO]; rw [ev_congr h]
theorem Same.left {l l' : List Nat} {e e' : Env} (h : Same (l ++ l') e e') : Same l e e' := fun t ht => h t (by simp [ht])
theorem Same.right {l l' : List Nat} {e e' : Env} (h : Same (l ++ l') e e') : Same l' e e' := fun t ht => h t (by simp [ht])
theorem map_congr {T : Tab} {e e' : Env} {l : List Opd} (h : Same (l.flatMap Opd.names) e e') : l.map (ev T e) = l.map (ev T e') := by
  apply List.map_congr_left
  intro x hx
  exact ev_congr fun t ht => h t (List.mem_flatMap.2 ⟨x, hx, ht⟩)
theorem parts_congr {T : Tab} {e e' : Env} {l : List (Nat × Nat × Opd)} (h : Same (l.flatMap fun p => p.2.2.names) e e') : (l.map fun p => (p.1, p.2.1, ev T e p.2.2)) = l.map fun p => (p.1, p.2.1, ev T e' p.2.2) := by
  apply List.map_congr_left
  intro x hx
  rw [ev_congr (e' := e') fun t ht => h t (List.mem_flatMap.2 ⟨x, hx, ht⟩)]

theorem aop_congr {T : Tab} {cf : CF} {e e' : Env} {H : Heap} (o : AOp) (h : Same o.names e e') : aop T cf o e H = aop T cf o e' H ∧ quietOp T e o = quietOp T e' o := by
  cases o with
  | alloc k z => exact ⟨rfl, rfl⟩
  | rangeS x => exact ⟨by simp only [aop]; rw [ev_congr h], rfl⟩
  | nextS x => exact ⟨by simp only [aop]; rw [ev_congr h], rfl⟩
  | cap x => exact ⟨by simp only [aop]; rw [ev_congr h], rfl⟩
  | sdata x => exact ⟨by simp only [aop]; rw [ev_congr h], rfl⟩
  | ustr t x n => exact ⟨by simp only [aop]; rw [ev_congr h.left, ev_congr h.right], rfl⟩
  | lenC n => exact ⟨rfl, rfl⟩
  | fail => exact ⟨rfl, rfl⟩
  | pick k a b => exact ⟨by simp only [aop]; rw [ev_congr h.left.left, ev_congr h.left.right, ev_congr h.right], rfl⟩
  | build z ps => exact ⟨by simp only [aop]; rw [parts_congr h], rfl⟩
  | lit n s z ps => exact ⟨by simp only [aop]; rw [parts_congr h], rfl⟩
  | litM n s z ps => exact ⟨by simp only [aop]; rw [parts_congr h], rfl⟩
  | reown x => exact ⟨by simp only [aop]; rw [ev_congr h], rfl⟩
  | mkFunc f a k => exact ⟨by simp only [aop]; rw [map_congr h.left, map_congr h.right], rfl⟩
  | slice k x lo hi mx => exact ⟨by simp only [aop]; rw [ev_congr h.left.left.left, evO_congr h.left.left.right, evO_congr h.left.right, evO_congr h.right], rfl⟩
  | call f args => exact ⟨by simp only [aop]; rw [ev_congr h.left, map_congr h.right], by simp only [quietOp]; rw [ev_congr h.left, map_congr h.right]⟩
  | invoke x m args => exact ⟨by simp only [aop]; rw [ev_congr h.left, map_congr h.right], by simp only [quietOp]; rw [ev_congr h.left, map_congr h.right]⟩
  | load n x => cases n <;> exact ⟨by simp only [aop]; rw [ev_congr h], rfl⟩
  | conv k x => cases k <;> exact ⟨by simp only [aop]; rw [ev_congr h], rfl⟩
  | iaddr n s x i => cases n <;> exact ⟨by simp only [aop]; rw [ev_congr h.left, ev_congr h.right], rfl⟩
  | mv x => exact ⟨by simp only [aop]; rw [ev_congr h], rfl⟩
  | box x => exact ⟨by simp only [aop]; rw [ev_congr h], rfl⟩
  | nilCheck x => exact ⟨by simp only [aop]; rw [ev_congr h], rfl⟩
  | un op x => exact ⟨by simp only [aop]; rw [ev_congr h], rfl⟩
  | mkIface t x => exact ⟨by simp only [aop]; rw [ev_congr h], rfl⟩
  | faddr off x => exact ⟨by simp only [aop]; rw [ev_congr h], rfl⟩
  | field off n x => exact ⟨by simp only [aop]; rw [ev_congr h], rfl⟩
  | extract x k => exact ⟨by simp only [aop]; rw [ev_congr h], rfl⟩
  | len x => exact ⟨by simp only [aop]; rw [ev_congr h], rfl⟩
  | lenS x => exact ⟨by simp only [aop]; rw [ev_congr h], rfl⟩
  | tassert x k ok => exact ⟨by simp only [aop]; rw [ev_congr h], rfl⟩
  | store n a x => exact ⟨by simp only [aop]; rw [ev_congr h.left, ev_congr h.right], rfl⟩
  | bin op q k x y => exact ⟨by simp only [aop]; rw [ev_congr h.left, ev_congr h.right], rfl⟩
  | mkSlice s b z x y => exact ⟨by simp only [aop]; rw [ev_congr h.left, ev_congr h.right], rfl⟩
  | idxS x y => exact ⟨by simp only [aop]; rw [ev_congr h.left, ev_congr h.right], rfl⟩
  | idxA l s n x y => exact ⟨by simp only [aop]; rw [ev_congr h.left, ev_congr h.right], rfl⟩
  | min x y => exact ⟨by simp only [aop]; rw [ev_congr h.left, ev_congr h.right], rfl⟩
  | max x y => exact ⟨by simp only [aop]; rw [ev_congr h.left, ev_congr h.right], rfl⟩
  | append k s b x y => exact ⟨by simp only [aop]; rw [ev_congr h.left, ev_congr h.right], rfl⟩
  | copy s x y => exact ⟨by simp only [aop]; rw [ev_congr h.left, ev_congr h.right], rfl⟩

theorem wantedA_congr {e e' : Env} {o : AOper} (h : Same o.names e e') : wantedA e o.guard = wantedA e' o.guard := by
  unfold AOper.names at h
  cases hg : o.guard with
  | none => rfl
  | some p =>
    obtain ⟨t, b⟩ := p
    cases t with
    | none => rfl
    | some t =>
      rw [hg] at h
      have := h t (by simp)
      simp only [wantedA]; rw [this]

/-! ### quiet operations leave the heap -/
def QF (T : Tab) (cf : CF) : Prop := ∀ f args H r H', isPure T f = true → closedL args = true → cf f args H = some (r, H') → H' = H

theorem map_fst {o : Option AV} {H H' : Heap} {v : AV} (h : o.map (·, H) = some (v, H')) : H' = H := (some_pair' h).2.symm
theorem map_fst' {α : Type} {o : Option α} {H H' : Heap} {f : α → AV} {v : AV} (h : o.map (fun x => (f x, H)) = some (v, H')) : H' = H := by
  obtain ⟨_, _, _, h⟩ := some_pair h; exact h.symm

theorem quiet_heap {T : Tab} {cf : CF} (hq : QF T cf) {o : AOp} {e : Env} {H H' : Heap} {v : AV} (h1 : quietOp T e o = true) (h2 : aop T cf o e H = some (v, H')) : H' = H := by
  cases o with
  | alloc k z => cases h1
  | rangeS x => cases h1
  | nextS x => cases h1
  | ustr t x n => cases h1
  | cap x => simp only [aop] at h2; split at h2 <;> cases h2; rfl
  | sdata x => simp only [aop] at h2; (repeat' split at h2) <;> first | (cases h2; done) | (cases h2; rfl)
  | box x => cases h1
  | store n a x => cases h1
  | mkSlice s b z x y => cases h1
  | append k s b x y => cases h1
  | copy s x y => cases h1
  | fail => cases h1
  | litM n s z ps => cases h1
  | reown x => cases h1
  | conv k x => cases k with
    | toBytes => cases h1
    | int k => simp only [aop] at h2; split at h2 <;> cases h2; rfl
    | same => simp only [aop] at h2; split at h2 <;> cases h2; rfl
    | ofRune => simp only [aop] at h2; split at h2 <;> cases h2; rfl
    | uns t k => simp only [aop] at h2; (repeat' split at h2) <;> first | (cases h2; done) | (cases h2; rfl)
    | ofBytes => simp only [aop] at h2; split at h2 <;> first | (cases h2; done) | (split at h2 <;> first | (cases h2; done) | exact map_fst' h2)
  | call f args =>
    simp only [quietOp] at h1
    simp only [aop, applyF] at h2
    split at h1
    · rename_i g x k hev
      rw [hev] at h2
      simp only [Bool.and_eq_true] at h1
      refine hq _ _ _ _ _ h1.1.1.1 ?_ h2
      have cl : ∀ (l l' : List AV), closedL l = true → closedL l' = true → closedL (l ++ l') = true := by
        intro l l' hl hl'
        induction l with
        | nil => exact hl'
        | cons y l ih => simp only [closedL, Bool.and_eq_true, List.cons_append] at hl ⊢; exact ⟨hl.1, ih hl.2⟩
      exact cl _ _ (cl _ _ h1.1.1.2 h1.2) h1.1.2
    · rename_i m t u x k hev
      rw [hev] at h2
      split at h1
      · rename_i g hg
        simp only [Bool.and_eq_true] at h1
        simp only [List.cons_append, invokeM, hg] at h2
        refine hq _ _ _ _ _ h1.1.1.1 ?_ h2
        have cl : ∀ (l l' : List AV), closedL l = true → closedL l' = true → closedL (l ++ l') = true := by
          intro l l' hl hl'
          induction l with
          | nil => exact hl'
          | cons y l ih => simp only [closedL, Bool.and_eq_true, List.cons_append] at hl ⊢; exact ⟨hl.1, ih hl.2⟩
        simp only [closedL, Bool.and_eq_true]
        exact ⟨h1.1.1.2, cl _ _ h1.1.2 h1.2⟩
      · cases h1
    · cases h1
  | invoke x m args =>
    simp only [quietOp] at h1
    simp only [aop, invokeM] at h2
    split at h1
    · rename_i t u hev
      rw [hev] at h2
      simp only at h2
      split at h1
      · rename_i g hg
        simp only [Bool.and_eq_true] at h1
        simp only [hg] at h2
        refine hq _ _ _ _ _ h1.1.1 ?_ h2
        simp only [closedL, Bool.and_eq_true]
        exact ⟨h1.1.2, h1.2⟩
      · cases h1
    · cases h1
  | mv x => cases h2; rfl
  | mkIface t x => cases h2; rfl
  | mkFunc f a k => cases h2; rfl
  | lenC n => cases h2; rfl
  | un op x => simp only [aop] at h2; exact map_fst h2
  | slice k x lo hi mx => simp only [aop] at h2; exact map_fst h2
  | load n x => cases n <;> simp only [aop] at h2 <;> (repeat' split at h2) <;> first | (cases h2; done) | (cases h2; rfl)
  | iaddr n s x i => cases n <;> simp only [aop] at h2 <;> (repeat' split at h2) <;> first | (cases h2; done) | (cases h2; rfl) | exact map_fst' h2
  | pick k a b => simp only [aop] at h2; split at h2 <;> cases h2; rfl
  | build z ps => simp only [aop] at h2; split at h2 <;> cases h2; rfl
  | lit n s z ps => simp only [aop] at h2; split at h2 <;> cases h2; rfl
  | nilCheck x => simp only [aop] at h2; (repeat' split at h2) <;> first | (cases h2; done) | (cases h2; rfl)
  | bin op q k x y => simp only [aop] at h2; (repeat' split at h2) <;> first | (cases h2; done) | (cases h2; rfl) | exact map_fst h2 | exact map_fst' h2
  | faddr off x => simp only [aop] at h2; split at h2 <;> cases h2 <;> rfl
  | field off n x => simp only [aop] at h2; split at h2 <;> first | (cases h2; done) | exact map_fst h2
  | idxS x y => simp only [aop] at h2; (repeat' split at h2) <;> first | (cases h2; done) | (cases h2; rfl)
  | idxA l s n x y => simp only [aop] at h2; (repeat' split at h2) <;> first | (cases h2; done) | exact map_fst h2
  | extract x k => simp only [aop] at h2; (repeat' split at h2) <;> first | (cases h2; done) | (cases h2; rfl)
  | len x => simp only [aop] at h2; split at h2 <;> cases h2 <;> rfl
  | lenS x => simp only [aop] at h2; split at h2 <;> cases h2 <;> rfl
  | min x y => simp only [aop] at h2; split at h2 <;> cases h2; rfl
  | max x y => simp only [aop] at h2; split at h2 <;> cases h2; rfl
  | tassert x k ok => simp only [aop] at h2; (repeat' split at h2) <;> first | (cases h2; done) | (cases h2; rfl) | (cases ok <;> cases h2 <;> rfl)
end Go.Eng

namespace Go.Eng
open Go

/-- What an operation of a drawn region gives. -/
def Gives (T : Tab) (cf : CF) (H : Heap) (E : Env) (o : AOper) (v : AV) : Prop :=
  (wantedA E o.guard = some false ∧ v = .und) ∨ (wantedA E o.guard = some true ∧ quietOp T E o.op = true ∧ ∃ H', aop T cf o.op E H = some (v, H'))

/-- The run of a drawn region, by places. -/
theorem runDraw_steps {T : Tab} {cf : CF} {H : Heap} : ∀ (ops : List AOper) (e e' : Env), runDraw T cf ops e H = some e' → ∃ (es : Nat → Env) (vs : Nat → AV), es 0 = e ∧ es ops.length = e' ∧
    ∀ i o, ops[i]? = some o → Gives T cf H (es i) o (vs i) ∧ es (i + 1) = putA (es i) o.dst (vs i)
  | [], e, e', h => by cases h; exact ⟨fun _ => e, fun _ => .unk, rfl, rfl, fun i o h => by simp at h⟩
  | o :: ops, e, e', h => by
    have fin : ∀ v, Gives T cf H e o v → runDraw T cf ops (putA e o.dst v) H = some e' → ∃ (es : Nat → Env) (vs : Nat → AV), es 0 = e ∧ es (o :: ops).length = e' ∧
        ∀ i o', (o :: ops)[i]? = some o' → Gives T cf H (es i) o' (vs i) ∧ es (i + 1) = putA (es i) o'.dst (vs i) := by
      intro v hv hr
      obtain ⟨es, vs, h1, h2, h3⟩ := runDraw_steps ops _ _ hr
      refine ⟨fun i => match i with | 0 => e | i + 1 => es i, fun i => match i with | 0 => v | i + 1 => vs i, rfl, h2, fun i o' ho => ?_⟩
      cases i with
      | zero => simp at ho; subst ho; exact ⟨hv, h1⟩
      | succ i => simp at ho; exact h3 i o' ho
    unfold runDraw at h
    split at h
    · cases h
    · rename_i hw; exact fin .und (.inl ⟨hw, rfl⟩) h
    · rename_i hw
      cases hq : quietOp T e o.op with
      | false => rw [hq] at h; cases h
      | true =>
        rw [hq] at h
        simp only [cond_true] at h
        split at h
        · rename_i v H' ha; exact fin v (.inr ⟨hw, hq, H', ha⟩) h
        · cases h

theorem drawOK_spec {as : List AOper} {ops : Array Oper} (h : drawOK as ops = true) : as.length = ops.size ∧ ∀ (i : Nat) (ai : AOper) (oi : Oper), as[i]? = some ai → ops[i]? = some oi →
    (∀ e ∈ oi.after, Region.binds .any e = true → e.on < i) ∧ ∀ (k : Nat) (ak : AOper) (ok : Oper), as[k]? = some ak → ops[k]? = some ok → i ≠ k → ∀ d, ak.dst = some d → ai.dst ≠ some d ∧
      (d ∈ ai.names → (k < i ∧ ∃ e ∈ oi.after, e.on = k ∧ Region.binds .any e = true) ∨ (i < k ∧ ∃ e ∈ ok.after, e.on = i ∧ Region.binds .any e = true)) := by
  unfold drawOK at h
  simp only [Bool.and_eq_true, beq_iff_eq, List.all_eq_true, List.mem_range] at h
  obtain ⟨hlen, h⟩ := h
  refine ⟨hlen, fun i ai oi hai hoi => ?_⟩
  have hi : i < ops.size := (Array.getElem?_eq_some_iff.1 hoi).1
  have h := h i hi
  rw [hai, hoi] at h
  simp only [Bool.and_eq_true, List.all_eq_true, List.mem_range, Array.all_eq_true_iff_forall_mem, Bool.or_eq_true, Bool.not_eq_true', decide_eq_true_eq] at h
  refine ⟨fun e he hb => (h.1 e he).resolve_left (by simp [hb]), fun k ak ok hak hok hik d hd => ?_⟩
  have hk : k < ops.size := (Array.getElem?_eq_some_iff.1 hok).1
  have h := h.2 k hk
  rw [hak, hok] at h
  simp only [Bool.or_eq_true, beq_iff_eq, hik, false_or, hd, Bool.and_eq_true, bne_iff_ne] at h
  refine ⟨h.1, fun hm => ?_⟩
  have h2 := h.2
  simp only [Bool.not_eq_true', List.contains_eq_mem, hm, decide_true, Bool.true_eq_false, false_or] at h2
  split at h2
  · rename_i hlt
    rw [Array.any_eq_true] at h2
    obtain ⟨j, hj, hh⟩ := h2
    simp only [Bool.and_eq_true, beq_iff_eq] at hh
    exact .inl ⟨hlt, _, Array.getElem_mem hj, hh.1, hh.2⟩
  · rename_i hlt
    rw [Array.any_eq_true] at h2
    obtain ⟨j, hj, hh⟩ := h2
    simp only [Bool.and_eq_true, beq_iff_eq] at hh
    exact .inr ⟨by omega, _, Array.getElem_mem hj, hh.1, hh.2⟩

section
variable {P : Program} {T : Tab} (hT : TabOK P T) {cf : CF} (hcf : CFok P T cf) (hqf : QF T cf) {nt : Nat} {ops : Array Oper} {Q : Exit → Act → World → Prop}

/-- The slots as they stand where the listed operations have run. -/
def EL (as : List AOper) (e e' : Env) (listed : Array Bool) : Env :=
  ((List.range as.length).filterMap fun k => match as[k]? with
    | some a => (match a.dst with | some d => if listed.getD k false = true then some (d, e'.get d) else none | none => none)
    | none => none) ++ e

theorem get_append (l e : Env) (t : Nat) : ((∃ v : AV, (t, v) ∈ l) → Env.get (l ++ e) t = Env.get l t) ∧ ((¬ ∃ v : AV, (t, v) ∈ l) → Env.get (l ++ e) t = e.get t) := by
  induction l with
  | nil => exact ⟨fun h => by simp at h, fun _ => rfl⟩
  | cons p l ih =>
    obtain ⟨d, v⟩ := p
    simp only [List.cons_append, Env.get]
    by_cases hd : d = t
    · subst hd
      simp only [beq_self_eq_true, cond_true]
      exact ⟨fun _ => trivial, fun h => absurd ⟨v, by simp⟩ h⟩
    · have hb : (d == t) = false := by simpa using hd
      simp only [hb, cond_false]
      refine ⟨fun h => ih.1 ?_, fun h => ih.2 ?_⟩
      · obtain ⟨u, hu⟩ := h
        simp at hu
        rcases hu with ⟨rfl, _⟩ | hu
        · exact absurd rfl hd
        · exact ⟨u, hu⟩
      · rintro ⟨u, hu⟩
        exact h ⟨u, by simp [hu]⟩

theorem get_const (l : Env) (t : Nat) (u : AV) (h : ∀ v, (t, v) ∈ l → v = u) (hx : ∃ v, (t, v) ∈ l) : Env.get l t = u := by
  induction l with
  | nil => obtain ⟨v, hv⟩ := hx; simp at hv
  | cons p l ih =>
    obtain ⟨d, v⟩ := p
    simp only [Env.get]
    by_cases hd : d = t
    · subst hd
      simp only [beq_self_eq_true, cond_true]
      exact h v (by simp)
    · have hb : (d == t) = false := by simpa using hd
      simp only [hb, cond_false]
      refine ih (fun v hv => h v (by simp [hv])) ?_
      obtain ⟨w, hw⟩ := hx
      simp at hw
      rcases hw with ⟨rfl, _⟩ | hw
      · exact absurd rfl hd
      · exact ⟨w, hw⟩

theorem EL_get (as : List AOper) (e e' : Env) (listed : Array Bool) (t : Nat) :
    ((∃ (k : Nat) (a : AOper), as[k]? = some a ∧ a.dst = some t ∧ listed.getD k false = true) → (EL as e e' listed).get t = e'.get t) ∧
    ((¬ ∃ (k : Nat) (a : AOper), as[k]? = some a ∧ a.dst = some t ∧ listed.getD k false = true) → (EL as e e' listed).get t = e.get t) := by
  have mem : ∀ v, (t, v) ∈ ((List.range as.length).filterMap fun k => match as[k]? with
    | some a => (match a.dst with | some d => if listed.getD k false = true then some (d, e'.get d) else none | none => none)
    | none => none) ↔ (∃ (k : Nat) (a : AOper), as[k]? = some a ∧ a.dst = some t ∧ listed.getD k false = true) ∧ v = e'.get t := by
    intro v
    rw [List.mem_filterMap]
    constructor
    · rintro ⟨k, hk, hh⟩
      split at hh
      · rename_i a ha
        split at hh
        · rename_i d hd
          split at hh
          · rename_i hl
            simp at hh
            obtain ⟨rfl, rfl⟩ := hh
            exact ⟨⟨k, a, ha, hd, hl⟩, rfl⟩
          · cases hh
        · cases hh
      · cases hh
    · rintro ⟨⟨k, a, ha, hd, hl⟩, rfl⟩
      refine ⟨k, List.mem_range.2 (List.getElem?_eq_some_iff.1 ha).1, ?_⟩
      simp only [ha, hd, hl, if_true]
  constructor
  · intro h
    unfold EL
    rw [(get_append _ _ _).1 ⟨e'.get t, (mem _).2 ⟨h, rfl⟩⟩]
    exact get_const _ _ _ (fun v hv => ((mem v).1 hv).2) ⟨e'.get t, (mem _).2 ⟨h, rfl⟩⟩
  · intro h
    unfold EL
    rw [(get_append _ _ _).2 (by rintro ⟨v, hv⟩; exact h ((mem v).1 hv).1)]

theorem EnvR.same {c : Cx} {e e' : Env} {tmps : Array Value} (h : EnvR c e tmps) (hs : ∀ t, e.get t = e'.get t) : EnvR c e' tmps := fun t => by rw [← hs]; exact h t

/-- The slots after 'i' operations in the text's order. -/
theorem es_get {as : List AOper} {e e' : Env} {es : Nat → Env} {vs : Nat → AV} (h0 : es 0 = e) (hn : es as.length = e') (hs : ∀ i o, as[i]? = some o → es (i + 1) = putA (es i) o.dst (vs i))
    (hu : ∀ (i k : Nat) (a b : AOper), as[i]? = some a → as[k]? = some b → i ≠ k → ∀ d, b.dst = some d → a.dst ≠ some d) (t : Nat) :
    (∀ (k : Nat) (a : AOper), as[k]? = some a → a.dst = some t → e'.get t = vs k ∧ ∀ i, i ≤ as.length → (es i).get t = if k < i then vs k else e.get t) ∧
    ((¬ ∃ (k : Nat) (a : AOper), as[k]? = some a ∧ a.dst = some t) → ∀ i, i ≤ as.length → (es i).get t = e.get t) := by
  have key : ∀ (k : Nat) (a : AOper), as[k]? = some a → a.dst = some t → ∀ i, i ≤ as.length → (es i).get t = if k < i then vs k else e.get t := by
    intro k a ha hd i
    induction i with
    | zero => intro _; rw [h0]; rfl
    | succ i ih =>
      intro hi
      have hlt : i < as.length := by omega
      have ho := List.getElem?_eq_getElem hlt
      rw [hs i _ ho]
      by_cases hik : i = k
      · subst hik
        rw [ho] at ha; cases ha
        rw [hd, get_put]
        simp
      · have hne := hu i k _ a ho ha hik t hd
        have hg : (putA (es i) as[i].dst (vs i)).get t = (es i).get t := by
          cases hdd : as[i].dst with
          | none => rfl
          | some d =>
            rw [get_put]
            have : (d == t) = false := by
              simp only [beq_eq_false_iff_ne]
              rintro rfl
              exact hne hdd
            rw [this, cond_false]
        rw [hg, ih (by omega)]
        by_cases h1 : k < i
        · rw [if_pos h1, if_pos (by omega)]
        · rw [if_neg h1, if_neg (by omega)]
  refine ⟨fun k a ha hd => ⟨?_, key k a ha hd⟩, fun hno i => ?_⟩
  · rw [← hn, key k a ha hd _ (Nat.le_refl _), if_pos (List.getElem?_eq_some_iff.1 ha).1]
  · induction i with
    | zero => intro _; rw [h0]
    | succ i ih =>
      intro hi
      have ho := List.getElem?_eq_getElem (show i < as.length by omega)
      rw [hs i _ ho]
      cases hdd : as[i].dst with
      | none => exact ih (by omega)
      | some d =>
        rw [get_put]
        have : (d == t) = false := by
          simp only [beq_eq_false_iff_ne]
          rintro rfl
          exact hno ⟨i, _, ho, hdd⟩
        rw [this, cond_false]
        exact ih (by omega)
end
end Go.Eng

namespace Go.Eng
open Go

theorem countP_lt {α : Type} {p q : α → Bool} : ∀ {l : List α}, (∀ x ∈ l, q x = true → p x = true) → (∃ x ∈ l, p x = true ∧ q x = false) → l.countP q < l.countP p
  | [], _, h => by obtain ⟨x, hx, _⟩ := h; simp at hx
  | y :: l, hq, h => by
    have hle : l.countP q ≤ l.countP p := List.countP_mono_left fun x hx => hq x (by simp [hx])
    rw [List.countP_cons, List.countP_cons]
    obtain ⟨x, hx, h1, h2⟩ := h
    simp at hx
    rcases hx with rfl | hx
    · simp only [h1, h2, if_true, Bool.false_eq_true, if_false]; omega
    · have := countP_lt (l := l) (fun x hx => hq x (by simp [hx])) ⟨x, hx, h1, h2⟩
      have hy := hq y (by simp)
      cases hpy : p y <;> cases hqy : q y <;> simp_all <;> omega

def left (n : Nat) (listed : Array Bool) : Nat := (List.range n).countP fun j => !listed.getD j true

theorem earlyH_mem {T : Tab} {j : Nat} {o : AOp} {e : Env} {v : AV} : ∀ {l : List (Nat × Heap)}, earlyH T j o e v l = true → ∀ q ∈ l, q.1 = j → reearl T o e v q.2 = true
  | [], _, q, hq, _ => by cases hq
  | p :: r, h, q, hq, hj => by
    unfold earlyH at h
    rw [Bool.and_eq_true] at h
    rcases List.mem_cons.1 hq with rfl | hq
    · rw [if_pos hj] at h; exact h.1
    · exact earlyH_mem h.2 q hq hj
theorem earlyOK_mem {T : Tab} {k : Nat} {o : AOp} {e : Env} {v : AV} {Hs : List (Nat × Heap)} : ∀ {l : List (Nat × Nat)}, earlyOK T l k o e v Hs = true → ∀ p ∈ l, p.2 = k → isEpOp T e o = true ∨ ∀ q ∈ Hs, q.1 = p.1 → reearl T o e v q.2 = true
  | [], _, p, hp, _ => by cases hp
  | a :: r, h, p, hp, hk => by
    unfold earlyOK at h
    rw [Bool.and_eq_true] at h
    rcases List.mem_cons.1 hp with rfl | hp
    · rw [if_pos hk, Bool.or_eq_true] at h
      exact h.1.imp id fun h => earlyH_mem h
    · exact earlyOK_mem h.2 p hp hk
theorem hpush_sub {earls : List (Nat × Nat)} {k : Nat} {H : Heap} {Hs : List (Nat × Heap)} {q : Nat × Heap} (h : q ∈ Hs) : q ∈ hpush earls k H Hs := by
  unfold hpush
  cases earls.any (fun p => p.1 == k)
  · exact h
  · exact List.mem_cons_of_mem _ h
theorem hpush_mem {earls : List (Nat × Nat)} {k : Nat} {H : Heap} {Hs : List (Nat × Heap)} {p : Nat × Nat} (h : p ∈ earls) (hk : p.1 = k) : (k, H) ∈ hpush earls k H Hs := by
  unfold hpush
  have : earls.any (fun p => p.1 == k) = true := List.any_eq_true.2 ⟨p, h, by simp [hk]⟩
  rw [this]
  exact List.mem_cons_self ..
/-- What an operation of such a region gives. -/
def GivesE (T : Tab) (cf : CF) (effs : List Nat) (lates : List (Nat × AOper)) (k : Nat) (E : Env) (h : Heap) (o : AOper) (v : AV) (h' : Heap) : Prop :=
  (wantedA E o.guard = some false ∧ v = .und ∧ h' = h) ∨ (wantedA E o.guard = some true ∧ (effs.contains k || quietOp T E o.op) = true ∧ aop T cf o.op E h = some (v, h') ∧ lateOK T lates k (putA E o.dst v) h' = true)
/-- What it reads it would have read in the heaps ahead. -/
def EarlyE (T : Tab) (earls : List (Nat × Nat)) (k i : Nat) (Hs : List (Nat × Heap)) (hs : Nat → Heap) (E : Env) (o : AOper) (v : AV) : Prop :=
  wantedA E o.guard = some true → ∀ p ∈ earls, p.2 = k + i → isEpOp T E o.op = true ∨ ((∀ q ∈ Hs, q.1 = p.1 → reearl T o.op E v q.2 = true) ∧ ∀ j, j < i → p.1 = k + j → reearl T o.op E v (hs j) = true)
theorem runDrawE_steps {T : Tab} {cf : CF} {effs : List Nat} {lates : List (Nat × AOper)} {earls : List (Nat × Nat)} : ∀ (ops : List AOper) (k : Nat) (Hs : List (Nat × Heap)) (e : Env) (H : Heap) (e' : Env) (H' : Heap), runDrawE T cf effs lates earls k Hs ops e H = some (e', H') → ∃ (es : Nat → Env) (vs : Nat → AV) (hs : Nat → Heap), es 0 = e ∧ hs 0 = H ∧ es ops.length = e' ∧ hs ops.length = H' ∧
    ∀ i o, ops[i]? = some o → GivesE T cf effs lates (k + i) (es i) (hs i) o (vs i) (hs (i + 1)) ∧ es (i + 1) = putA (es i) o.dst (vs i) ∧ EarlyE T earls k i Hs hs (es i) o (vs i)
  | [], k, Hs, e, H, e', H', h => by cases h; exact ⟨fun _ => e, fun _ => .unk, fun _ => H, rfl, rfl, rfl, rfl, fun i o h => by simp at h⟩
  | o :: ops, k, Hs, e, H, e', H', h => by
    have fin : ∀ v h1, GivesE T cf effs lates k e H o v h1 → (wantedA e o.guard = some true → earlyOK T earls k o.op e v Hs = true) → runDrawE T cf effs lates earls (k + 1) (hpush earls k H Hs) ops (putA e o.dst v) h1 = some (e', H') → ∃ (es : Nat → Env) (vs : Nat → AV) (hs : Nat → Heap), es 0 = e ∧ hs 0 = H ∧ es (o :: ops).length = e' ∧ hs (o :: ops).length = H' ∧
        ∀ i o', (o :: ops)[i]? = some o' → GivesE T cf effs lates (k + i) (es i) (hs i) o' (vs i) (hs (i + 1)) ∧ es (i + 1) = putA (es i) o'.dst (vs i) ∧ EarlyE T earls k i Hs hs (es i) o' (vs i) := by
      intro v h1 hv hel hr
      obtain ⟨es, vs, hs, g1, g2, g3, g4, g5⟩ := runDrawE_steps ops (k + 1) _ _ _ _ _ hr
      refine ⟨fun i => match i with | 0 => e | i + 1 => es i, fun i => match i with | 0 => v | i + 1 => vs i, fun i => match i with | 0 => H | i + 1 => hs i, rfl, rfl, g3, g4, fun i o' ho => ?_⟩
      cases i with
      | zero =>
        simp at ho; subst ho
        refine ⟨(by show GivesE T cf effs lates k e H o v (hs 0); rw [g2]; exact hv), g1, ?_⟩
        intro hw p hp hpk
        exact (earlyOK_mem (hel hw) p hp (by omega)).imp id fun h => ⟨h, fun j hj => absurd hj (Nat.not_lt_zero _)⟩
      | succ i =>
        simp at ho
        have := g5 i o' ho
        rw [show k + 1 + i = k + (i + 1) by omega] at this
        refine ⟨this.1, this.2.1, ?_⟩
        intro hw p hp hpk
        refine (this.2.2 hw p hp (by omega)).imp id fun h => ⟨fun q hq hqp => h.1 q (hpush_sub hq) hqp, fun j hj hpj => ?_⟩
        cases j with
        | zero => exact h.1 (k, H) (hpush_mem hp (by omega)) (by omega)
        | succ j => exact h.2 j (by omega) (by omega)
    unfold runDrawE at h
    split at h
    · cases h
    · rename_i hw; exact fin .und H (.inl ⟨hw, rfl, rfl⟩) (fun hw' => by rw [hw] at hw'; cases hw') h
    · rename_i hw
      cases hq : (effs.contains k || quietOp T e o.op) with
      | false => rw [hq] at h; cases h
      | true =>
        rw [hq] at h
        simp only [cond_true] at h
        split at h
        · rename_i v h1 ha
          cases hl : (lateOK T lates k (putA e o.dst v) h1 && earlyOK T earls k o.op e v Hs) with
          | false => rw [hl] at h; cases h
          | true =>
            rw [hl] at h
            rw [Bool.and_eq_true] at hl
            exact fin v h1 (.inr ⟨hw, hq, ha, hl.1⟩) (fun _ => hl.2) h
        · cases h
/-- The heap is that of the text's order, wherever just the writing operations ahead have run. -/
def HI (ops : Array Oper) (effs : List Nat) (hs : Nat → Heap) (listed : Array Bool) (A : Heap) : Prop := ∀ i, i ≤ ops.size → (∀ k, k ∈ effs → k < ops.size → (listed.getD k false = true ↔ k < i)) → A = hs i
theorem fixed_spec {as : List AOper} {ops : Array Oper} {k i : Nat} (h : fixed as ops k = true) (hi : i < ops.size) {a : AOper} (ha : as[i]? = some a) (hm : a.op.mute = false) : (i < k → reach ops ops.size k i = true ∨ lateable as i = true) ∧ (k < i → reach ops ops.size i k = true ∨ earlyable as i = true) := by
  unfold fixed at h
  rw [List.all_eq_true] at h
  have := h i (List.mem_range.2 hi)
  rw [ha] at this
  simp only [hm, Bool.or_false, Bool.or_eq_true, beq_iff_eq] at this
  refine ⟨fun hlt => ?_, fun hlt => ?_⟩
  · rcases this with h1 | h1
    · omega
    · rw [if_pos hlt] at h1; simpa using h1
  · rcases this with h1 | h1
    · omega
    · rw [if_neg (by omega)] at h1; simpa using h1
theorem late_early {as : List AOper} {i : Nat} (h : earlyable as i = false) : lateable as i = false := by
  rw [← Bool.not_eq_true]
  intro hl
  unfold lateable at hl
  split at hl
  · rename_i d g x hx
    unfold earlyable at h
    rw [hx] at h
    cases h
  · cases hl
theorem rdop_loud {o : AOp} (h : o.reads = true) : o.loud = false := by
  cases o with
  | conv c x => cases c <;> first | rfl | (cases h; done)
  | load => rfl
  | _ => cases h
theorem rdop_mute {o : AOp} (h : o.reads = true) : o.mute = false := by
  cases o with
  | conv c x => cases c <;> first | rfl | (cases h; done)
  | load => rfl
  | _ => cases h
theorem rdop_any {T : Tab} {cf cf' : CF} {o : AOp} (h : o.reads = true) {e : Env} {H : Heap} : aop T cf o e H = aop T cf' o e H := by
  cases o with
  | conv c x => cases c <;> first | rfl | (cases h; done)
  | load g x => cases g <;> rfl
  | _ => cases h
theorem rdop_heap {T : Tab} {cf : CF} {o : AOp} (hr : o.reads = true) {e : Env} {H H' : Heap} {v} (h : aop T cf o e H = some (v, H')) : H' = H := by
  cases o with
  | conv c x =>
    cases c with
    | ofBytes =>
      simp only [aop] at h
      split at h
      · split at h
        · cases h
        · rw [Option.map_eq_some_iff] at h
          obtain ⟨_, _, h⟩ := h
          cases h; rfl
      · cases h
    | _ => cases hr
  | load g x => cases g <;> simp only [aop] at h <;> split at h <;> first | (split at h <;> first | (cases h; rfl) | (cases h; done)) | (cases h; rfl) | (cases h; done)
  | _ => cases hr
theorem earlyable_spec {as : List AOper} {i : Nat} (h : earlyable as i = true) : ∃ d o gd, as[i]? = some ⟨some d, o, gd⟩ ∧ o.reads = true := by
  unfold earlyable at h
  split at h
  · rename_i d o gd hx
    exact ⟨d, o, gd, hx, h⟩
  · cases h
theorem earlsOf_mem {as : List AOper} {ops : Array Oper} {effs : List Nat} {k i : Nat} (hk : k ∈ effs) (hi : k < i) (his : i < ops.size) (he : earlyable as i = true) (hr : reach ops ops.size i k = false) : (k, i) ∈ earlsOf as ops effs := by
  unfold earlsOf
  rw [List.mem_flatMap]
  refine ⟨k, hk, ?_⟩
  rw [List.mem_filterMap]
  exact ⟨i, List.mem_range.2 his, by simp [hi, he, hr]⟩
theorem loud_mute {o : AOp} (h : o.loud = true) : o.mute = false := by
  cases o with
  | conv c x => cases c <;> first | rfl | (cases h; done)
  | _ => first | rfl | (cases h; done)
theorem lateable_spec {as : List AOper} {i : Nat} (h : lateable as i = true) : ∃ d g x, as[i]? = some ⟨some d, .load g x, none⟩ ∧ ∀ k a d', i ≤ k → as[k]? = some a → a.dst = some d' → d' ∉ (AOp.load g x).names := by
  unfold lateable at h
  split at h
  · rename_i d g x hx
    refine ⟨d, g, x, hx, fun k a d' hk ha hd => ?_⟩
    rw [List.all_eq_true] at h
    have := h k (List.mem_range.2 (List.getElem?_eq_some_iff.1 ha).1)
    rw [ha] at this
    simp only [Nat.not_lt.2 hk, decide_false, Bool.false_or, hd, Bool.not_eq_true', ← Bool.not_eq_true, List.contains_iff_mem] at this
    exact this
  · cases h
theorem latesOf_mem {as : List AOper} {ops : Array Oper} {effs : List Nat} {k i : Nat} {a : AOper} (hk : k ∈ effs) (hi : i < k) (ha : as[i]? = some a) (hl : lateable as i = true) (hr : reach ops ops.size k i = false) : (k, a) ∈ latesOf as ops effs := by
  unfold latesOf
  rw [List.mem_flatMap]
  refine ⟨k, hk, ?_⟩
  rw [List.mem_filterMap]
  exact ⟨i, List.mem_range.2 hi, by rw [ha]; simp [hl, hr]⟩
theorem lateOK_mem {T : Tab} {k : Nat} {e : Env} {H : Heap} {a : AOper} : ∀ {l : List (Nat × AOper)}, lateOK T l k e H = true → (k, a) ∈ l → recheck T a e H = true
  | [], _, h => by cases h
  | p :: r, h, hm => by
    unfold lateOK at h
    rw [Bool.and_eq_true] at h
    rcases List.mem_cons.1 hm with rfl | hm
    · simpa using h.1
    · exact lateOK_mem h.2 hm
theorem vsame_eq {a b : Value} (h : vsame a b = true) : a = b := by
  unfold vsame at h
  split at h
  · rw [Bool.and_eq_true, beq_iff_eq, beq_iff_eq] at h; rw [h.1, h.2]
  · rfl
  · rfl
  · cases h
mutual
theorem aveq_eq : ∀ (n : Nat) (a b : AV), aveq n a b = true → a = b
  | 0, a, b, h => by cases a <;> cases b <;> simp [aveq] at h
  | n + 1, a, b, h => by
    cases a <;> cases b <;> simp [aveq] at h
    case bool.bool => rw [h]
    case int.int => rw [h.1, h.2]
    case str.str => rw [h]
    case cst.cst => rw [vsame_eq h]
    case ptr.ptr => obtain ⟨⟨h1, h2⟩, h3⟩ := h; rw [h1, h2, h3]
    case sl.sl x m e y f m' e' z => obtain ⟨⟨⟨h1, h2⟩, h3⟩, h4⟩ := h; rw [h1, h2, h3, aveqL_eq n _ _ h4]
    case agg.agg x y => rw [aveqL_eq n x y h]
theorem aveqL_eq : ∀ (n : Nat) (a b : List AV), aveq.aveqL n a b = true → a = b
  | _, [], [], _ => rfl
  | n, x :: a, y :: b, h => by
    unfold aveq.aveqL at h
    rw [Bool.and_eq_true] at h
    rw [aveq_eq n x y h.1, aveqL_eq n a b h.2]
  | _, [], _ :: _, h => by simp [aveq.aveqL] at h
  | _, _ :: _, [], h => by simp [aveq.aveqL] at h
end
theorem load_any {T : Tab} {cf cf' : CF} {g x} {e : Env} {H : Heap} : aop T cf (.load g x) e H = aop T cf' (.load g x) e H := by
  cases g <;> rfl
theorem load_heap {T : Tab} {cf : CF} {g x} {e : Env} {H H' : Heap} {v} (h : aop T cf (.load g x) e H = some (v, H')) : H' = H := by
  cases g <;> simp only [aop] at h <;> split at h <;> first | (split at h <;> first | (cases h; rfl) | (cases h; done)) | (cases h; rfl) | (cases h; done)
theorem load_ep {T : Tab} {cf : CF} {o : AOp} {e : Env} {H H' : Heap} {v} (h : aop T cf o e H = some (v, H')) (hp : isEpOp T e o = true) (H2 : Heap) : aop T cf o e H2 = some (v, H2) := by
  unfold isEpOp at hp
  split at hp
  · rename_i g x
    split at hp
    · rename_i cs hx
      cases g with
      | none =>
        simp only [aop] at h ⊢
        rw [hx] at h ⊢
        cases cs with
        | nil => cases h
        | cons a r => cases h; rfl
      | some n =>
        simp only [aop] at h ⊢
        rw [hx] at h ⊢
        dsimp only at h ⊢
        split at h
        · rename_i hle; cases h; rw [if_pos hle]
        · cases h
    · cases hp
  · cases hp
theorem aslice_str (H H2 : Heap) {x : AV} {lo hi mx : Option AV} : aslice H .str x lo hi mx = aslice H2 .str x lo hi mx := by
  cases x <;> first | rfl | (unfold aslice; rfl)
theorem aslice_sl (H H2 : Heap) {e : Nat} {x : AV} {lo hi mx : Option AV} : aslice H (.sl e) x lo hi mx = aslice H2 (.sl e) x lo hi mx := by
  cases x with
  | cst v => cases v <;> first | rfl | (rename_i a n c; cases a <;> cases n <;> cases c <;> rfl)
  | _ => rfl
theorem mute_any {T : Tab} {cf : CF} {o : AOp} {e : Env} {H H' : Heap} {v : AV} (hm : o.mute = true) (h : aop T cf o e H = some (v, H')) : H' = H ∧ ∀ H2, aop T cf o e H2 = some (v, H2) := by
  cases o with
  | mv x => cases h; exact ⟨rfl, fun _ => rfl⟩
  | mkIface t x => cases h; exact ⟨rfl, fun _ => rfl⟩
  | mkFunc f a k => cases h; exact ⟨rfl, fun _ => rfl⟩
  | lenC n => cases h; exact ⟨rfl, fun _ => rfl⟩
  | un op x =>
    simp only [aop] at h ⊢
    cases hx : aun op (ev T e x) with
    | none => rw [hx] at h; cases h
    | some r => rw [hx] at h; cases h; exact ⟨rfl, fun _ => rfl⟩
  | field off n x =>
    simp only [aop] at h ⊢
    split at h
    · rename_i cs hx
      cases hp : partA cs off n with
      | none => rw [hp] at h; cases h
      | some r => rw [hp] at h; cases h; exact ⟨rfl, fun _ => rfl⟩
    · cases h
  | idxA l s n x i =>
    simp only [aop] at h ⊢
    split at h
    · rename_i cs hx
      split at h
      · rename_i k hk
        cases hp : partA cs (k * s) n with
        | none => rw [hp] at h; cases h
        | some r => rw [hp] at h; cases h; exact ⟨rfl, fun _ => rfl⟩
      · cases h
    · cases h
  | pick => simp only [aop] at h ⊢; (repeat' split at h) <;> first | (cases h; done) | (cases h; exact ⟨rfl, fun _ => rfl⟩)
  | build => simp only [aop] at h ⊢; (repeat' split at h) <;> first | (cases h; done) | (cases h; exact ⟨rfl, fun _ => rfl⟩)
  | lit => simp only [aop] at h ⊢; (repeat' split at h) <;> first | (cases h; done) | (cases h; exact ⟨rfl, fun _ => rfl⟩)
  | nilCheck x =>
    simp only [aop] at h ⊢
    split at h
    · cases h; exact ⟨rfl, fun _ => rfl⟩
    · cases h; exact ⟨rfl, fun _ => rfl⟩
    · cases h; exact ⟨rfl, fun _ => rfl⟩
    · split at h
      · cases h; exact ⟨rfl, fun _ => rfl⟩
      · cases h
    · cases h; exact ⟨rfl, fun _ => rfl⟩
    · cases h
  | iaddr arr n x i => cases arr <;> simp only [aop] at h ⊢ <;> (repeat' split at h) <;> first | (cases h; done) | (rw [Option.map_eq_some_iff] at h; obtain ⟨_, h1, h2⟩ := h; cases h2; exact ⟨rfl, fun _ => by rw [h1]; first | rfl | (rw [if_pos (by assumption)]; rfl)⟩)
  | faddr => simp only [aop] at h ⊢; (repeat' split at h) <;> first | (cases h; done) | (cases h; exact ⟨rfl, fun _ => rfl⟩)
  | idxS => simp only [aop] at h ⊢; (repeat' split at h) <;> first | (cases h; done) | (cases h; exact ⟨rfl, fun _ => rfl⟩)
  | extract => simp only [aop] at h ⊢; (repeat' split at h) <;> first | (cases h; done) | (cases h; exact ⟨rfl, fun _ => rfl⟩)
  | lenS => simp only [aop] at h ⊢; (repeat' split at h) <;> first | (cases h; done) | (cases h; exact ⟨rfl, fun _ => rfl⟩)
  | len => simp only [aop] at h ⊢; (repeat' split at h) <;> first | (cases h; done) | (cases h; exact ⟨rfl, fun _ => rfl⟩)
  | min => simp only [aop] at h ⊢; split at h <;> first | (cases h; done) | (cases h; exact ⟨rfl, fun _ => rfl⟩)
  | max => simp only [aop] at h ⊢; split at h <;> first | (cases h; done) | (cases h; exact ⟨rfl, fun _ => rfl⟩)
  | bin op q c x y => simp only [aop] at h ⊢; (repeat' split at h) <;> first | (cases hm; done) | (cases h; done) | (rw [Option.map_eq_some_iff] at h; obtain ⟨r, hr, h⟩ := h; cases h; exact ⟨rfl, fun _ => by first | (rw [hr]; rfl) | (rw [if_pos (by assumption), hr]; rfl)⟩)
  | conv c x => cases c with
    | int k => simp only [aop] at h ⊢; (repeat' split at h) <;> first | (cases h; done) | (cases h; exact ⟨rfl, fun _ => rfl⟩)
    | _ => cases hm
  | slice k x lo hi mx =>
    simp only [aop] at h ⊢
    rw [Option.map_eq_some_iff] at h
    obtain ⟨r, hr, h⟩ := h
    cases h
    refine ⟨rfl, fun H2 => ?_⟩
    cases k with
    | arr n e => cases hm
    | str => rw [aslice_str H2 H, hr]; rfl
    | sl n => rw [aslice_sl H2 H, hr]; rfl
  | _ => cases hm
theorem aheadE_spec {n : Nat} {l : List Nat} {k : Nat} : ∀ {es : List Edge}, (aheadE n l es).testBit k = true → ∃ ed ∈ es, Region.binds .any ed = true ∧ (ed.on = k ∨ (aheadAt n l ed.on).testBit k = true)
  | [], h => by simp [aheadE] at h
  | e :: r, h => by
    unfold aheadE at h
    split at h
    · rename_i hb
      rw [Nat.testBit_or, Nat.testBit_or, Bool.or_eq_true, Bool.or_eq_true] at h
      rcases h with (h | h) | h
      · refine ⟨e, List.mem_cons_self .., hb, .inl ?_⟩
        rw [Nat.one_shiftLeft, Nat.testBit_two_pow] at h
        simpa using h
      · exact ⟨e, List.mem_cons_self .., hb, .inr h⟩
      · obtain ⟨ed, h1, h2⟩ := aheadE_spec h
        exact ⟨ed, List.mem_cons_of_mem _ h1, h2⟩
    · obtain ⟨ed, h1, h2⟩ := aheadE_spec h
      exact ⟨ed, List.mem_cons_of_mem _ h1, h2⟩
theorem reach_spec {ops : Array Oper} : ∀ {f i k : Nat}, reach ops f i k = true → i < f ∧ ∃ o, ops[i]? = some o ∧ ∃ ed ∈ o.after, Region.binds .any ed = true ∧ (ed.on = k ∨ ∃ f', f' < f ∧ f' ≤ i ∧ reach ops f' ed.on k = true)
  | 0, i, k, h => by simp [reach, aheadAt] at h
  | n + 1, i, k, h => by
    unfold reach aheadAt at h
    by_cases hi : i < n + 1
    · rw [if_pos hi] at h
      by_cases hin : i = n
      · subst hin
        have e0 : i + 1 - 1 - i = 0 := by omega
        rw [e0] at h
        unfold aheads at h
        rw [List.getD_cons_zero] at h
        split at h
        · rename_i o ho
          obtain ⟨ed, h1, h2, h3⟩ := aheadE_spec h
          refine ⟨hi, o, ho, ed, by simpa using h1, h2, ?_⟩
          rcases h3 with h3 | h3
          · exact .inl h3
          · exact .inr ⟨i, by omega, Nat.le_refl _, h3⟩
        · simp at h
      · have hlt : i < n := by omega
        have e0 : n + 1 - 1 - i = (n - 1 - i) + 1 := by omega
        rw [e0] at h
        unfold aheads at h
        rw [List.getD_cons_succ] at h
        have h' : reach ops n i k = true := by unfold reach aheadAt; rw [if_pos hlt]; exact h
        obtain ⟨_, o, ho, ed, h1, h2, h3⟩ := reach_spec h'
        refine ⟨hi, o, ho, ed, h1, h2, ?_⟩
        rcases h3 with h3 | ⟨f', g1, g2, g3⟩
        · exact .inl h3
        · exact .inr ⟨f', by omega, g2, g3⟩
    · rw [if_neg hi] at h; simp at h
theorem reach_listed {ops : Array Oper} {listed : Array Bool} (hcl : ∀ (k : Nat) (o : Oper), ops[k]? = some o → listed.getD k false = true → ∀ ed ∈ o.after, Region.binds .any ed = true → listed.getD ed.on false = true) :
    ∀ (f i k : Nat), listed.getD i false = true → reach ops f i k = true → listed.getD k false = true := by
  intro f
  induction f using Nat.strongRecOn with
  | ind f IH =>
    intro i k hi h
    obtain ⟨_, o, ho, ed, h1, h2, h3⟩ := reach_spec h
    have hl := hcl i o ho hi ed h1 h2
    rcases h3 with h3 | ⟨f', g1, _, g3⟩
    · rw [← h3]; exact hl
    · exact IH f' g1 _ k hl g3
theorem reach_ready {ops : Array Oper} {listed : Array Bool} (hcl : ∀ (k : Nat) (o : Oper), ops[k]? = some o → listed.getD k false = true → ∀ ed ∈ o.after, Region.binds .any ed = true → listed.getD ed.on false = true)
    {f i k : Nat} {o : Oper} (ho : ops[i]? = some o) (hd : ∀ ed ∈ o.after, Region.binds .any ed = true → listed.getD ed.on false = true) (h : reach ops f i k = true) : listed.getD k false = true := by
  obtain ⟨_, o', ho', ed, h1, h2, h3⟩ := reach_spec h
  obtain rfl : o = o' := Option.some.inj (ho.symm.trans ho')
  have hl := hd ed h1 h2
  rcases h3 with h3 | ⟨f', _, _, g3⟩
  · rw [← h3]; exact hl
  · exact reach_listed hcl f' _ k hl g3

section
variable {P : Program} {T : Tab} (hT : TabOK P T) {cf : CF} (hcf : CFok P T cf) (hqf : QF T cf) {nt : Nat} {ops : Array Oper} {Q : Exit → Act → World → Prop}

include hT hcf hqf in
theorem draw_any {as : List AOper} (has : as = ops.toList.map (trOper P nt ops)) (hd : drawOK as ops = true) {H : Heap} {e e' : Env} (hr : runDraw T cf as e H = some e') {c0 : Cx} {a0 : Act}
    (hQ : ∀ (a' : Act) (c' : Cx), Ext c0 c' → OK T c' → c'.A = H → EnvR c' e' a'.tmps → nt ≤ a'.tmps.size → a'.defers = a0.defers → Q .normal a' c'.w) :
    ∀ (fuel : Nat) (listed : Array Bool) (c : Cx) (a : Act), Ext c0 c → OK T c → c.A = H → EnvR c (EL as e e' listed) a.tmps → nt ≤ a.tmps.size → a.defers = a0.defers → listed.size = ops.size →
      (∀ (k : Nat) (o : Oper), ops[k]? = some o → listed.getD k false = true → ∀ ed ∈ o.after, Region.binds .any ed = true → listed.getD ed.on false = true) → left ops.size listed ≤ fuel →
      wpAny P .any ops Q fuel listed a c.w := by
  obtain ⟨es, vs, h0, hn, hst⟩ := runDraw_steps as e e' hr
  obtain ⟨hlen, hsp⟩ := drawOK_spec hd
  have hget : ∀ i, (as[i]?) = (ops[i]?).map (trOper P nt ops) := fun i => by rw [has, List.getElem?_map, Array.getElem?_toList]
  have hu : ∀ (i k : Nat) (x b : AOper), as[i]? = some x → as[k]? = some b → i ≠ k → ∀ d, b.dst = some d → x.dst ≠ some d := by
    intro i k x b hx hb hik d hbd
    rw [hget] at hx hb
    cases hoi : ops[i]? with
    | none => rw [hoi] at hx; cases hx
    | some oi =>
      cases hok : ops[k]? with
      | none => rw [hok] at hb; cases hb
      | some ok =>
        rw [hoi] at hx; rw [hok] at hb
        cases hx; cases hb
        exact ((hsp i _ oi (by rw [hget, hoi]; rfl) hoi).2 k _ ok (by rw [hget, hok]; rfl) hok hik d hbd).1
  have heg := fun t => es_get h0 hn (fun i o ho => (hst i o ho).2) hu t
  have gd : ∀ (listed : Array Bool) (j : Nat), listed.size = ops.size → j < ops.size → listed.getD j true = listed.getD j false := fun listed j hs hj => by
    simp only [Array.getD_eq_getD_getElem?]
    rw [Array.getElem?_eq_getElem (by omega)]; rfl
  have done : ∀ (listed : Array Bool) (c : Cx) (a : Act), Ext c0 c → OK T c → c.A = H → EnvR c (EL as e e' listed) a.tmps → nt ≤ a.tmps.size → a.defers = a0.defers → listed.size = ops.size → Region.ready .any ops listed = [] → Q .normal a c.w := by
    intro listed c a hE hc hA he hsz hdf hls hready
    have hall : ∀ k, k < ops.size → listed.getD k false = true := by
      intro k
      induction k using Nat.strongRecOn with
      | _ k ih =>
        intro hk
        cases hl : listed.getD k false with
        | true => rfl
        | false =>
          exfalso
          have hok := Array.getElem?_eq_getElem hk
          have : k ∈ Region.ready .any ops listed := by
            rw [mem_ready]
            refine ⟨by rw [gd _ _ hls hk]; exact hl, _, hok, fun ed hed hbd => ?_⟩
            have hlt := (hsp k _ _ (by rw [hget, hok]; rfl) hok).1 ed hed hbd
            exact ih ed.on hlt (by omega)
          rw [hready] at this; cases this
    refine hQ a c hE hc hA (he.same fun t => ?_) hsz hdf
    by_cases hx : ∃ (k : Nat) (x : AOper), as[k]? = some x ∧ x.dst = some t
    · obtain ⟨k, x, hx1, hx2⟩ := hx
      exact (EL_get as e e' listed t).1 ⟨k, x, hx1, hx2, hall k (by rw [← hlen]; exact (List.getElem?_eq_some_iff.1 hx1).1)⟩
    · rw [(EL_get as e e' listed t).2 (by rintro ⟨k, x, h1, h2, _⟩; exact hx ⟨k, x, h1, h2⟩), ← hn]
      exact ((heg t).2 hx _ (Nat.le_refl _)).symm
  intro fuel
  induction fuel with
  | zero =>
    intro listed c a hE hc hA he hsz hdf hls hcl hf
    have hready : Region.ready .any ops listed = [] := by
      rw [List.eq_nil_iff_forall_not_mem]
      intro k hk
      rw [mem_ready] at hk
      obtain ⟨hl, o, ho, _⟩ := hk
      have hlt := (Array.getElem?_eq_some_iff.1 ho).1
      have : left ops.size listed = 0 := by omega
      unfold left at this
      rw [List.countP_eq_zero] at this
      have := this k (List.mem_range.2 hlt)
      simp [hl] at this
    exact ⟨hready, done listed c a hE hc hA he hsz hdf hls hready⟩
  | succ fuel ih =>
    intro listed c a hE hc hA he hsz hdf hls hcl hf
    refine ⟨fun hready => done listed c a hE hc hA he hsz hdf hls hready, fun i hi => ?_⟩
    rw [mem_ready] at hi
    obtain ⟨hl, o, ho, hdep⟩ := hi
    have hilt := (Array.getElem?_eq_some_iff.1 ho).1
    have hai : as[i]? = some (trOper P nt ops o) := by rw [hget, ho]; rfl
    have hlf : listed.getD i false = false := by rw [← gd _ _ hls hilt]; exact hl
    obtain ⟨hg, hnext⟩ := hst i _ hai
    -- the slots that it reads stand as in the text's order
    have hsame : Same (trOper P nt ops o).names (EL as e e' listed) (es i) := by
      intro t ht
      by_cases hx : ∃ (k : Nat) (x : AOper), as[k]? = some x ∧ x.dst = some t
      · obtain ⟨k, x, hx1, hx2⟩ := hx
        have huniq : ∀ (k' : Nat) (x' : AOper), as[k']? = some x' → x'.dst = some t → k' = k := fun k' x' h1 h2 => by
          by_cases e1 : k' = k
          · exact e1
          · exact absurd h2 (hu k' k x' x h1 hx1 e1 t hx2)
        have hes := ((heg t).1 k x hx1 hx2).2 i (by rw [hlen]; omega)
        have hek := ((heg t).1 k x hx1 hx2).1
        cases hlk : listed.getD k false with
        | true =>
          rw [(EL_get as e e' listed t).1 ⟨k, x, hx1, hx2, hlk⟩, hek, hes]
          by_cases hki : k < i
          · rw [if_pos hki]
          · exfalso
            have hok := hx1
            rw [hget] at hok
            cases hok' : ops[k]? with
            | none => rw [hok'] at hok; cases hok
            | some ok =>
              rw [hok'] at hok; cases hok
              by_cases hik : i = k
              · subst hik; rw [hlf] at hlk; cases hlk
              · rcases ((hsp i _ o hai ho).2 k _ ok hx1 hok' hik t hx2).2 ht with ⟨h1, _⟩ | ⟨_, ed, hed, hon, hb⟩
                · exact hki h1
                · have := hcl k ok hok' hlk ed hed hb
                  rw [hon, hlf] at this; cases this
        | false =>
          have hno : ¬ ∃ (k' : Nat) (x' : AOper), as[k']? = some x' ∧ x'.dst = some t ∧ listed.getD k' false = true := by
            rintro ⟨k', x', h1, h2, h3⟩
            rw [huniq k' x' h1 h2, hlk] at h3; cases h3
          rw [(EL_get as e e' listed t).2 hno, hes]
          by_cases hki : k < i
          · exfalso
            have hok := hx1
            rw [hget] at hok
            cases hok' : ops[k]? with
            | none => rw [hok'] at hok; cases hok
            | some ok =>
              rw [hok'] at hok; cases hok
              rcases ((hsp i _ o hai ho).2 k _ ok hx1 hok' (by omega) t hx2).2 ht with ⟨_, ed, hed, hon, hb⟩ | ⟨h1, _⟩
              · have := hdep ed hed hb
                rw [hon, hlk] at this; cases this
              · omega
          · rw [if_neg hki]
      · rw [(EL_get as e e' listed t).2 (by rintro ⟨k, x, h1, h2, _⟩; exact hx ⟨k, x, h1, h2⟩)]
        exact ((heg t).2 hx i (by rw [hlen]; omega)).symm
    -- afterwards
    have hnew : ∀ t, (putA (EL as e e' listed) (trOper P nt ops o).dst (vs i)).get t = (EL as e e' (listed.setIfInBounds i true)).get t := by
      intro t
      have hother : ∀ k, k ≠ i → (listed.setIfInBounds i true).getD k false = listed.getD k false := fun k hk => getD_set_ne false (fun e => hk e.symm)
      have hself : (listed.setIfInBounds i true).getD i false = true := by
        simp only [Array.getD_eq_getD_getElem?]
        rw [Array.getElem?_setIfInBounds_self_of_lt (by omega)]; rfl
      by_cases hdt : (trOper P nt ops o).dst = some t
      · rw [hdt, get_put]
        simp only [beq_self_eq_true, cond_true]
        rw [(EL_get as e e' _ t).1 ⟨i, _, hai, hdt, hself⟩]
        exact (((heg t).1 i _ hai hdt).1).symm
      · have hg1 : (putA (EL as e e' listed) (trOper P nt ops o).dst (vs i)).get t = (EL as e e' listed).get t := by
          cases hdd : (trOper P nt ops o).dst with
          | none => rfl
          | some d =>
            rw [get_put]
            have : (d == t) = false := by
              simp only [beq_eq_false_iff_ne]
              rintro rfl
              exact hdt hdd
            rw [this, cond_false]
        rw [hg1]
        by_cases hx : ∃ (k : Nat) (x : AOper), as[k]? = some x ∧ x.dst = some t ∧ listed.getD k false = true
        · rw [(EL_get as e e' listed t).1 hx]
          obtain ⟨k, x, h1, h2, h3⟩ := hx
          refine ((EL_get as e e' _ t).1 ⟨k, x, h1, h2, ?_⟩).symm
          rw [hother k (by rintro rfl; rw [hai] at h1; cases h1; exact hdt h2)]; exact h3
        · rw [(EL_get as e e' listed t).2 hx]
          refine ((EL_get as e e' _ t).2 ?_).symm
          rintro ⟨k, x, h1, h2, h3⟩
          rw [hother k (by rintro rfl; rw [hai] at h1; cases h1; exact hdt h2)] at h3
          exact hx ⟨k, x, h1, h2, h3⟩
    have hcl' : ∀ (k : Nat) (o' : Oper), ops[k]? = some o' → (listed.setIfInBounds i true).getD k false = true → ∀ ed ∈ o'.after, Region.binds .any ed = true → (listed.setIfInBounds i true).getD ed.on false = true := by
      intro k o' ho' hlk ed hed hb
      have hmono : ∀ j, listed.getD j false = true → (listed.setIfInBounds i true).getD j false = true := fun j hj => by
        by_cases e1 : i = j
        · subst e1; rw [hlf] at hj; cases hj
        · rw [getD_set_ne false e1]; exact hj
      by_cases hki : i = k
      · subst hki
        rw [ho] at ho'; cases ho'
        exact hmono _ (hdep ed hed hb)
      · rw [getD_set_ne false hki] at hlk
        exact hmono _ (hcl k o' ho' hlk ed hed hb)
    have hf' : left ops.size (listed.setIfInBounds i true) ≤ fuel := by
      have : left ops.size (listed.setIfInBounds i true) < left ops.size listed := by
        refine countP_lt (fun x hx hq => ?_) ⟨i, List.mem_range.2 hilt, by simp [hl], ?_⟩
        · by_cases e1 : i = x
          · subst e1; simp [hl]
          · rw [getD_set_ne true e1] at hq; exact hq
        · simp only [Array.getD_eq_getD_getElem?]
          rw [Array.getElem?_setIfInBounds_self_of_lt (by omega)]; rfl
      omega
    unfold wpOp
    rw [ho]
    simp only
    rcases hg with ⟨hw, hv⟩ | ⟨hw, hq, H1, ha⟩
    · rw [← wantedA_congr hsame] at hw
      rw [wanted_ok he hw]
      simp only [Bool.false_eq_true, if_false]
      refine ih _ c _ hE hc hA ((envR_und he o.dst).same fun t => ?_) (by rw [put_size]; exact hsz) (by rw [put_defers]; exact hdf) (by simpa using hls) hcl' hf'
      rw [← hv]; exact hnew t
    · rw [← wantedA_congr hsame] at hw
      rw [← (aop_congr (T := T) (cf := cf) (H := H) _ (fun t ht => hsame t (by simp [AOper.names, ht]))).1] at ha
      rw [← (aop_congr (T := T) (cf := cf) (H := H) _ (fun t ht => hsame t (by simp [AOper.names, ht]))).2] at hq
      have hH := quiet_heap hqf hq ha
      subst hH
      rw [wanted_ok he hw]
      simp only [if_true]
      refine .inl ?_
      have ha' : (∀ x, o.dst = some x → x < nt) ∧ aop T cf ((trOpX P ops o).getD .fail) (EL as e e' listed) c.A = some (vs i, H1) := by
        rw [hA]
        unfold trOper at ha
        simp only at ha
        cases hod : o.dst with
        | none =>
          rw [hod] at ha
          simp only [if_true] at ha
          exact ⟨fun x hx => (by cases hx), ha⟩
        | some d =>
          rw [hod] at ha
          by_cases hd : d < nt
          · simp only [hd, decide_true, if_true] at ha
            exact ⟨fun x hx => (by cases hx; exact hd), ha⟩
          · simp only [hd, decide_false, Bool.false_eq_true, if_false] at ha
            cases ha
      refine op_okX hT hc he hcf ha'.2 a o _ Q fun y c' hE' hW' hA' hv => ?_
      exact ih _ c' _ (hE.trans hE') (hc.ext hE' hW') hA' ((envR_put (he.ext hE') (fun x hx => Nat.lt_of_lt_of_le (ha'.1 x hx) hsz) hv).same hnew) (by rw [put_size]; exact hsz) (by rw [put_defers]; exact hdf) (by simpa using hls) hcl' hf'

include hT hcf hqf in
theorem draw_ok {id : Nat} (hd : (drawOK (ops.toList.map (trOper P nt ops)) ops && P.follows .mixedOrders) = true) {e e' : Env} {c : Cx} (hc : OK T c) {a : Act} (he : EnvR c e a.tmps) (hsz : nt ≤ a.tmps.size)
    (hr : runDraw T cf (ops.toList.map (trOper P nt ops)) e c.A = some e') (hQ : Post T nt c a .normal e' c.A Q) : (Code.region id ops true).wp P Q a c.w := by
  simp only [Bool.and_eq_true] at hd
  refine wp_region_any hd.2 ?_
  obtain ⟨hE, hW⟩ := world_ok hc.wr (w' := { c.w with drawn := c.w.drawn + 1 }) rfl rfl rfl
  refine draw_any hT hcf hqf rfl hd.1 hr (c0 := c) (a0 := a) hQ ops.size _ (c.setW { c.w with drawn := c.w.drawn + 1 }) a hE (hc.ext hE hW) rfl ?_ hsz rfl (by simp) ?_ ?_
  · refine (he.ext hE).same fun t => ((EL_get _ e e' _ t).2 ?_).symm
    rintro ⟨k, x, h1, h2, h3⟩
    have : k < ops.size := by have := (List.getElem?_eq_some_iff.1 h1).1; simpa using this
    simp [Array.getD_eq_getD_getElem?, this] at h3
  · intro k o ho hl
    have := (Array.getElem?_eq_some_iff.1 ho).1
    simp [Array.getD_eq_getD_getElem?, this] at hl
  · unfold left
    exact Nat.le_trans (List.countP_le_length) (by simp)
include hT hcf hqf in
theorem draw_anyE {as : List AOper} (has : as = ops.toList.map (trOper P nt ops)) (hd : drawOK as ops = true) {effs : List Nat} {lates : List (Nat × AOper)} (hlt : lates = latesOf as ops effs) {earls : List (Nat × Nat)} (hel : earls = earlsOf as ops effs) (hfx : ∀ k ∈ effs, fixed as ops k = true) (hlo : ∀ k ∈ effs, ∀ x, as[k]? = some x → x.op.loud = true) {es : Nat → Env} {vs : Nat → AV} {hs : Nat → Heap} {e e' : Env}
    (h0 : es 0 = e) (hn : es as.length = e') (hst : ∀ i o, as[i]? = some o → GivesE T cf effs lates i (es i) (hs i) o (vs i) (hs (i + 1)) ∧ es (i + 1) = putA (es i) o.dst (vs i) ∧ EarlyE T earls 0 i [] hs (es i) o (vs i)) {c0 : Cx} {a0 : Act}
    (hQ : ∀ (a' : Act) (c' : Cx), Ext c0 c' → OK T c' → c'.A = hs ops.size → EnvR c' e' a'.tmps → nt ≤ a'.tmps.size → a'.defers = a0.defers → Q .normal a' c'.w) :
    ∀ (fuel : Nat) (listed : Array Bool) (c : Cx) (a : Act), Ext c0 c → OK T c → HI ops effs hs listed c.A → EnvR c (EL as e e' listed) a.tmps → nt ≤ a.tmps.size → a.defers = a0.defers → listed.size = ops.size →
      (∀ (k : Nat) (o : Oper), ops[k]? = some o → listed.getD k false = true → ∀ ed ∈ o.after, Region.binds .any ed = true → listed.getD ed.on false = true) → left ops.size listed ≤ fuel →
      wpAny P .any ops Q fuel listed a c.w := by
  obtain ⟨hlen, hsp⟩ := drawOK_spec hd
  have hget : ∀ i, (as[i]?) = (ops[i]?).map (trOper P nt ops) := fun i => by rw [has, List.getElem?_map, Array.getElem?_toList]
  have hu : ∀ (i k : Nat) (x b : AOper), as[i]? = some x → as[k]? = some b → i ≠ k → ∀ d, b.dst = some d → x.dst ≠ some d := by
    intro i k x b hx hb hik d hbd
    rw [hget] at hx hb
    cases hoi : ops[i]? with
    | none => rw [hoi] at hx; cases hx
    | some oi =>
      cases hok : ops[k]? with
      | none => rw [hok] at hb; cases hb
      | some ok =>
        rw [hoi] at hx; rw [hok] at hb
        cases hx; cases hb
        exact ((hsp i _ oi (by rw [hget, hoi]; rfl) hoi).2 k _ ok (by rw [hget, hok]; rfl) hok hik d hbd).1
  have heg := fun t => es_get h0 hn (fun i o ho => (hst i o ho).2.1) hu t
  have gd : ∀ (listed : Array Bool) (j : Nat), listed.size = ops.size → j < ops.size → listed.getD j true = listed.getD j false := fun listed j hs hj => by
    simp only [Array.getD_eq_getD_getElem?]
    rw [Array.getElem?_eq_getElem (by omega)]; rfl
  have done : ∀ (listed : Array Bool) (c : Cx) (a : Act), Ext c0 c → OK T c → HI ops effs hs listed c.A → EnvR c (EL as e e' listed) a.tmps → nt ≤ a.tmps.size → a.defers = a0.defers → listed.size = ops.size → Region.ready .any ops listed = [] → Q .normal a c.w := by
    intro listed c a hE hc hA he hsz hdf hls hready
    have hall : ∀ k, k < ops.size → listed.getD k false = true := by
      intro k
      induction k using Nat.strongRecOn with
      | _ k ih =>
        intro hk
        cases hl : listed.getD k false with
        | true => rfl
        | false =>
          exfalso
          have hok := Array.getElem?_eq_getElem hk
          have : k ∈ Region.ready .any ops listed := by
            rw [mem_ready]
            refine ⟨by rw [gd _ _ hls hk]; exact hl, _, hok, fun ed hed hbd => ?_⟩
            have hlt := (hsp k _ _ (by rw [hget, hok]; rfl) hok).1 ed hed hbd
            exact ih ed.on hlt (by omega)
          rw [hready] at this; cases this
    refine hQ a c hE hc (hA ops.size (Nat.le_refl _) fun k _ hk => ⟨fun _ => hk, fun _ => hall k hk⟩) (he.same fun t => ?_) hsz hdf
    by_cases hx : ∃ (k : Nat) (x : AOper), as[k]? = some x ∧ x.dst = some t
    · obtain ⟨k, x, hx1, hx2⟩ := hx
      exact (EL_get as e e' listed t).1 ⟨k, x, hx1, hx2, hall k (by rw [← hlen]; exact (List.getElem?_eq_some_iff.1 hx1).1)⟩
    · rw [(EL_get as e e' listed t).2 (by rintro ⟨k, x, h1, h2, _⟩; exact hx ⟨k, x, h1, h2⟩), ← hn]
      exact ((heg t).2 hx _ (Nat.le_refl _)).symm
  intro fuel
  induction fuel with
  | zero =>
    intro listed c a hE hc hA he hsz hdf hls hcl hf
    have hready : Region.ready .any ops listed = [] := by
      rw [List.eq_nil_iff_forall_not_mem]
      intro k hk
      rw [mem_ready] at hk
      obtain ⟨hl, o, ho, _⟩ := hk
      have hlt := (Array.getElem?_eq_some_iff.1 ho).1
      have : left ops.size listed = 0 := by omega
      unfold left at this
      rw [List.countP_eq_zero] at this
      have := this k (List.mem_range.2 hlt)
      simp [hl] at this
    exact ⟨hready, done listed c a hE hc hA he hsz hdf hls hready⟩
  | succ fuel ih =>
    intro listed c a hE hc hA he hsz hdf hls hcl hf
    refine ⟨fun hready => done listed c a hE hc hA he hsz hdf hls hready, fun i hi => ?_⟩
    rw [mem_ready] at hi
    obtain ⟨hl, o, ho, hdep⟩ := hi
    have hilt := (Array.getElem?_eq_some_iff.1 ho).1
    have hai : as[i]? = some (trOper P nt ops o) := by rw [hget, ho]; rfl
    have hlf : listed.getD i false = false := by rw [← gd _ _ hls hilt]; exact hl
    obtain ⟨hg, hnext, hearl⟩ := hst i _ hai
    have hAi : earlyable as i = false → (trOper P nt ops o).op.mute = false → c.A = hs i := fun hne hmf => hA i (Nat.le_of_lt hilt) fun k hk hkn => by
      have hf := fixed_spec (hfx k hk) hilt hai hmf
      rw [late_early hne, hne] at hf
      simp only [Bool.false_eq_true, or_false] at hf
      rcases Nat.lt_trichotomy k i with h1 | h1 | h1
      · exact ⟨fun _ => h1, fun _ => reach_ready hcl ho hdep (hf.2 h1)⟩
      · subst h1; rw [hlf]; exact ⟨fun h => (by cases h), fun h => absurd h (Nat.lt_irrefl _)⟩
      · refine ⟨fun h => ?_, fun h => absurd h (by omega)⟩
        have := reach_listed hcl _ k i h (hf.1 h1)
        rw [hlf] at this; cases this
    have hquiet : ∀ m, m < ops.size → m ∉ effs → hs (m + 1) = hs m := by
      intro m hm hme
      have hmo := Array.getElem?_eq_getElem hm
      obtain ⟨hgm, _, _⟩ := hst m _ (by rw [hget, hmo]; rfl)
      rcases hgm with ⟨_, _, h⟩ | ⟨_, h, ha, _⟩
      · exact h
      · have : effs.contains m = false := by rw [← Bool.not_eq_true, List.contains_iff_mem]; exact hme
        rw [this, Bool.false_or] at h
        exact quiet_heap hqf h ha
    have hHI' : earlyable as i = false → (trOper P nt ops o).op.mute = false → ∀ A', A' = hs (i + 1) → HI ops effs hs (listed.setIfInBounds i true) A' := by
      intro hne hmf A' hA' j hj hjk
      have hother : ∀ k, k ≠ i → (listed.setIfInBounds i true).getD k false = listed.getD k false := fun k hk => getD_set_ne false (fun e => hk e.symm)
      have hself : (listed.setIfInBounds i true).getD i false = true := by
        simp only [Array.getD_eq_getD_getElem?]
        rw [Array.getElem?_setIfInBounds_self_of_lt (by omega)]; rfl
      by_cases hie : i ∈ effs
      · have hij : i < j := (hjk i hie hilt).1 hself
        have : ∀ d, i + 1 + d ≤ j → hs (i + 1 + d) = hs (i + 1) := by
          intro d
          induction d with
          | zero => intro _; rfl
          | succ d ihd =>
            intro hd'
            rw [← ihd (by omega)]
            refine hquiet (i + 1 + d) (by omega) fun hmem => ?_
            have hlm := (hjk _ hmem (by omega)).2 (by omega)
            rw [hother _ (by omega)] at hlm
            have hf := fixed_spec (hfx _ hmem) hilt hai hmf
            rw [late_early hne] at hf
            simp only [Bool.false_eq_true, or_false] at hf
            have := reach_listed hcl _ _ i hlm (hf.1 (by omega))
            rw [hlf] at this; cases this
        rw [hA', ← this (j - (i + 1)) (by omega)]
        congr 1; omega
      · rw [hA', hquiet i hilt hie, ← hAi hne hmf]
        refine hA j hj fun k hk hkn => ?_
        have hki : k ≠ i := fun e => hie (e ▸ hk)
        rw [← hother k hki]
        exact hjk k hk hkn
    -- the slots that it reads stand as in the text's order
    have hsame : Same (trOper P nt ops o).names (EL as e e' listed) (es i) := by
      intro t ht
      by_cases hx : ∃ (k : Nat) (x : AOper), as[k]? = some x ∧ x.dst = some t
      · obtain ⟨k, x, hx1, hx2⟩ := hx
        have huniq : ∀ (k' : Nat) (x' : AOper), as[k']? = some x' → x'.dst = some t → k' = k := fun k' x' h1 h2 => by
          by_cases e1 : k' = k
          · exact e1
          · exact absurd h2 (hu k' k x' x h1 hx1 e1 t hx2)
        have hes := ((heg t).1 k x hx1 hx2).2 i (by rw [hlen]; omega)
        have hek := ((heg t).1 k x hx1 hx2).1
        cases hlk : listed.getD k false with
        | true =>
          rw [(EL_get as e e' listed t).1 ⟨k, x, hx1, hx2, hlk⟩, hek, hes]
          by_cases hki : k < i
          · rw [if_pos hki]
          · exfalso
            have hok := hx1
            rw [hget] at hok
            cases hok' : ops[k]? with
            | none => rw [hok'] at hok; cases hok
            | some ok =>
              rw [hok'] at hok; cases hok
              by_cases hik : i = k
              · subst hik; rw [hlf] at hlk; cases hlk
              · rcases ((hsp i _ o hai ho).2 k _ ok hx1 hok' hik t hx2).2 ht with ⟨h1, _⟩ | ⟨_, ed, hed, hon, hb⟩
                · exact hki h1
                · have := hcl k ok hok' hlk ed hed hb
                  rw [hon, hlf] at this; cases this
        | false =>
          have hno : ¬ ∃ (k' : Nat) (x' : AOper), as[k']? = some x' ∧ x'.dst = some t ∧ listed.getD k' false = true := by
            rintro ⟨k', x', h1, h2, h3⟩
            rw [huniq k' x' h1 h2, hlk] at h3; cases h3
          rw [(EL_get as e e' listed t).2 hno, hes]
          by_cases hki : k < i
          · exfalso
            have hok := hx1
            rw [hget] at hok
            cases hok' : ops[k]? with
            | none => rw [hok'] at hok; cases hok
            | some ok =>
              rw [hok'] at hok; cases hok
              rcases ((hsp i _ o hai ho).2 k _ ok hx1 hok' (by omega) t hx2).2 ht with ⟨_, ed, hed, hon, hb⟩ | ⟨h1, _⟩
              · have := hdep ed hed hb
                rw [hon, hlk] at this; cases this
              · omega
          · rw [if_neg hki]
      · rw [(EL_get as e e' listed t).2 (by rintro ⟨k, x, h1, h2, _⟩; exact hx ⟨k, x, h1, h2⟩)]
        exact ((heg t).2 hx i (by rw [hlen]; omega)).symm
    -- afterwards
    have hnew : ∀ t, (putA (EL as e e' listed) (trOper P nt ops o).dst (vs i)).get t = (EL as e e' (listed.setIfInBounds i true)).get t := by
      intro t
      have hother : ∀ k, k ≠ i → (listed.setIfInBounds i true).getD k false = listed.getD k false := fun k hk => getD_set_ne false (fun e => hk e.symm)
      have hself : (listed.setIfInBounds i true).getD i false = true := by
        simp only [Array.getD_eq_getD_getElem?]
        rw [Array.getElem?_setIfInBounds_self_of_lt (by omega)]; rfl
      by_cases hdt : (trOper P nt ops o).dst = some t
      · rw [hdt, get_put]
        simp only [beq_self_eq_true, cond_true]
        rw [(EL_get as e e' _ t).1 ⟨i, _, hai, hdt, hself⟩]
        exact (((heg t).1 i _ hai hdt).1).symm
      · have hg1 : (putA (EL as e e' listed) (trOper P nt ops o).dst (vs i)).get t = (EL as e e' listed).get t := by
          cases hdd : (trOper P nt ops o).dst with
          | none => rfl
          | some d =>
            rw [get_put]
            have : (d == t) = false := by
              simp only [beq_eq_false_iff_ne]
              rintro rfl
              exact hdt hdd
            rw [this, cond_false]
        rw [hg1]
        by_cases hx : ∃ (k : Nat) (x : AOper), as[k]? = some x ∧ x.dst = some t ∧ listed.getD k false = true
        · rw [(EL_get as e e' listed t).1 hx]
          obtain ⟨k, x, h1, h2, h3⟩ := hx
          refine ((EL_get as e e' _ t).1 ⟨k, x, h1, h2, ?_⟩).symm
          rw [hother k (by rintro rfl; rw [hai] at h1; cases h1; exact hdt h2)]; exact h3
        · rw [(EL_get as e e' listed t).2 hx]
          refine ((EL_get as e e' _ t).2 ?_).symm
          rintro ⟨k, x, h1, h2, h3⟩
          rw [hother k (by rintro rfl; rw [hai] at h1; cases h1; exact hdt h2)] at h3
          exact hx ⟨k, x, h1, h2, h3⟩
    have hcl' : ∀ (k : Nat) (o' : Oper), ops[k]? = some o' → (listed.setIfInBounds i true).getD k false = true → ∀ ed ∈ o'.after, Region.binds .any ed = true → (listed.setIfInBounds i true).getD ed.on false = true := by
      intro k o' ho' hlk ed hed hb
      have hmono : ∀ j, listed.getD j false = true → (listed.setIfInBounds i true).getD j false = true := fun j hj => by
        by_cases e1 : i = j
        · subst e1; rw [hlf] at hj; cases hj
        · rw [getD_set_ne false e1]; exact hj
      by_cases hki : i = k
      · subst hki
        rw [ho] at ho'; cases ho'
        exact hmono _ (hdep ed hed hb)
      · rw [getD_set_ne false hki] at hlk
        exact hmono _ (hcl k o' ho' hlk ed hed hb)
    have hf' : left ops.size (listed.setIfInBounds i true) ≤ fuel := by
      have : left ops.size (listed.setIfInBounds i true) < left ops.size listed := by
        refine countP_lt (fun x hx hq => ?_) ⟨i, List.mem_range.2 hilt, by simp [hl], ?_⟩
        · by_cases e1 : i = x
          · subst e1; simp [hl]
          · rw [getD_set_ne true e1] at hq; exact hq
        · simp only [Array.getD_eq_getD_getElem?]
          rw [Array.getElem?_setIfInBounds_self_of_lt (by omega)]; rfl
      omega
    have hgen : (wantedA (es i) (trOper P nt ops o).guard = some false ∧ vs i = .und ∧ HI ops effs hs (listed.setIfInBounds i true) c.A) ∨
        (wantedA (es i) (trOper P nt ops o).guard = some true ∧ ∃ A1, aop T cf (trOper P nt ops o).op (es i) c.A = some (vs i, A1) ∧ HI ops effs hs (listed.setIfInBounds i true) A1) := by
      have hmute_hi : i ∉ effs → HI ops effs hs (listed.setIfInBounds i true) c.A := fun hie j hj hjk => by
        refine hA j hj fun k hk hkn => ?_
        have hki : k ≠ i := fun e => hie (e ▸ hk)
        have := hjk k hk hkn
        rwa [getD_set_ne false (fun e => hki e.symm)] at this
      cases hea : earlyable as i with
      | true =>
        obtain ⟨dd, ro, gd, hax, hro⟩ := earlyable_spec hea
        have hax' : trOper P nt ops o = ⟨some dd, ro, gd⟩ := by rw [hai] at hax; exact Option.some.inj hax
        have hie : i ∉ effs := fun hm => by have := hlo i hm _ hax; rw [rdop_loud hro] at this; cases this
        obtain ⟨j, hj1, hj2, hj3⟩ : ∃ j, j ≤ ops.size ∧ (j < ops.size → j ∈ effs ∧ listed.getD j false = false) ∧ ∀ k, k < j → k ∈ effs → listed.getD k false = true := by
          have : ∀ n, n ≤ ops.size → (∃ j, j < n ∧ j ∈ effs ∧ listed.getD j false = false ∧ ∀ k, k < j → k ∈ effs → listed.getD k false = true) ∨ ∀ k, k < n → k ∈ effs → listed.getD k false = true := by
            intro n
            induction n with
            | zero => intro _; exact .inr fun k hk => absurd hk (Nat.not_lt_zero _)
            | succ n ihn =>
              intro hn'
              rcases ihn (by omega) with ⟨j, h1, h2⟩ | h1
              · exact .inl ⟨j, by omega, h2⟩
              · by_cases hm : n ∈ effs
                · cases hln : listed.getD n false with
                  | false => exact .inl ⟨n, by omega, hm, hln, h1⟩
                  | true =>
                    refine .inr fun k hk hke => ?_
                    rcases Nat.lt_succ_iff_lt_or_eq.1 hk with h2 | rfl
                    · exact h1 k h2 hke
                    · exact hln
                · refine .inr fun k hk hke => ?_
                  rcases Nat.lt_succ_iff_lt_or_eq.1 hk with h2 | rfl
                  · exact h1 k h2 hke
                  · exact absurd hke hm
          rcases this ops.size (Nat.le_refl _) with ⟨j, h1, h2, h3, h4⟩ | h1
          · exact ⟨j, by omega, fun _ => ⟨h2, h3⟩, h4⟩
          · exact ⟨ops.size, Nat.le_refl _, fun h => absurd h (Nat.lt_irrefl _), h1⟩
        have hAj : c.A = hs j := hA j hj1 fun k hk hkn => by
          refine ⟨fun hkl => ?_, fun h => hj3 k h hk⟩
          rcases Nat.lt_trichotomy k j with h | h | h
          · exact h
          · subst h; rw [(hj2 hkn).2] at hkl; cases hkl
          · have hjs : j < ops.size := by omega
            have hjo := Array.getElem?_eq_getElem hjs
            have haj : as[j]? = some (trOper P nt ops ops[j]) := by rw [hget, hjo]; rfl
            have hl1 := hlo j (hj2 hjs).1 _ haj
            have hf := (fixed_spec (hfx k hk) hjs haj (loud_mute hl1)).1 h
            have hnl : lateable as j = false := by
              rw [← Bool.not_eq_true]
              intro hlj
              obtain ⟨_, _, _, h2, _⟩ := lateable_spec hlj
              rw [haj] at h2
              rw [Option.some.inj h2] at hl1
              cases hl1
            rw [hnl] at hf
            simp only [Bool.false_eq_true, or_false] at hf
            have := reach_listed hcl _ k j hkl hf
            rw [(hj2 hjs).2] at this; cases this
        rcases hg with ⟨hw, hv, _⟩ | ⟨hw, _, ha, _⟩
        · exact .inl ⟨hw, hv, hmute_hi hie⟩
        rcases Nat.lt_or_ge j i with hji | hij
        · have hjs : j < ops.size := by omega
          have hnr : reach ops ops.size i j = false := by
            rw [← Bool.not_eq_true]
            intro hr
            have := reach_ready hcl ho hdep hr
            rw [(hj2 hjs).2] at this; cases this
          have hmem := earlsOf_mem (as := as) (hj2 hjs).1 hji hilt hea hnr
          rw [← hel] at hmem
          have hchk := hearl hw _ hmem (by omega)
          refine .inr ⟨hw, c.A, ?_, hmute_hi hie⟩
          rw [hax'] at ha hchk ⊢
          rcases hchk with h | ⟨_, h⟩
          · exact load_ep ha h c.A
          · have h := h j hji (by omega)
            rw [hAj]
            unfold reearl at h
            dsimp only at h
            split at h
            · rename_i v' H' hvv
              have hv := aveq_eq _ _ _ h
              have := rdop_heap hro hvv
              rw [rdop_any hro (cf' := cf), hv, this] at hvv
              exact hvv
            · cases h
        · rw [hax'] at ha
          have hrd : ∀ m, i + m ≤ j → aop T cf ro (es i) (hs (i + m)) = some (vs i, hs (i + m)) := by
            intro m
            induction m with
            | zero =>
              intro _
              have := rdop_heap hro ha
              rw [this] at ha
              exact ha
            | succ m ihm =>
              intro hm
              have hms : i + m < ops.size := by omega
              by_cases hme : i + m ∈ effs
              · have hlm := hj3 (i + m) (by omega) hme
                have hmi : i < i + m := by
                  rcases Nat.eq_zero_or_pos m with rfl | h
                  · exact absurd hme hie
                  · omega
                have hmo := Array.getElem?_eq_getElem hms
                have ham : as[i + m]? = some (trOper P nt ops ops[i + m]) := by rw [hget, hmo]; rfl
                obtain ⟨hgm, hen, _⟩ := hst (i + m) _ ham
                have hnr : reach ops ops.size (i + m) i = false := by
                  rw [← Bool.not_eq_true]
                  intro hr
                  have := reach_listed hcl _ _ i hlm hr
                  rw [hlf] at this; cases this
                have hla : lateable as i = true := by
                  have hf := (fixed_spec (hfx _ hme) hilt hai (by rw [hax']; exact rdop_mute hro)).1 hmi
                  rw [hnr] at hf
                  simpa using hf
                obtain ⟨dd', g, x, hax2, hnn⟩ := lateable_spec hla
                rw [hax] at hax2
                cases hax2
                rcases hgm with ⟨_, _, h⟩ | ⟨_, _, _, hlk⟩
                · show aop T cf (.load g x) (es i) (hs (i + m + 1)) = some (vs i, hs (i + m + 1))
                  rw [h]; exact ihm (by omega)
                · have hmem := latesOf_mem hme hmi hax hla hnr
                  rw [← hlt] at hmem
                  have hrc := lateOK_mem hlk hmem
                  rw [← hen] at hrc
                  unfold recheck at hrc
                  dsimp only at hrc
                  have hsm : Same (AOp.load g x).names (es (i + m + 1)) (es i) := by
                    intro t ht
                    by_cases hx : ∃ (k : Nat) (x : AOper), as[k]? = some x ∧ x.dst = some t
                    · obtain ⟨k, y, hy1, hy2⟩ := hx
                      have hki : k < i := by
                        rcases Nat.lt_or_ge k i with h | h
                        · exact h
                        · exact absurd ht (hnn k y t h hy1 hy2)
                      rw [((heg t).1 k y hy1 hy2).2 i (by rw [hlen]; omega), if_pos hki, ((heg t).1 k y hy1 hy2).2 (i + m + 1) (by rw [hlen]; omega), if_pos (by omega)]
                    · rw [(heg t).2 hx i (by rw [hlen]; omega), (heg t).2 hx (i + m + 1) (by rw [hlen]; omega)]
                  rw [(aop_congr (T := T) (cf := fun _ _ _ => none) (H := hs (i + m + 1)) (.load g x) hsm).1] at hrc
                  split at hrc
                  · rename_i _ _ d' v' H' hdd hvv
                    cases hdd
                    have hv := aveq_eq _ _ _ hrc
                    have hgt : (es (i + m + 1)).get dd = vs i := by
                      rw [((heg dd).1 i _ hax rfl).2 (i + m + 1) (by rw [hlen]; omega), if_pos (by omega)]
                    have := load_heap hvv
                    rw [load_any (cf' := cf), hv, hgt, this] at hvv
                    exact hvv
                  · cases hrc
              · show aop T cf ro (es i) (hs (i + m + 1)) = some (vs i, hs (i + m + 1))
                rw [hquiet (i + m) hms hme]; exact ihm (by omega)
          refine .inr ⟨hw, c.A, ?_, hmute_hi hie⟩
          have := hrd (j - i) (by omega)
          rw [show i + (j - i) = j by omega, ← hAj] at this
          rw [hax']; exact this
      | false =>
      cases hmt : (trOper P nt ops o).op.mute with
      | false =>
        rcases hg with ⟨hw, hv, hh⟩ | ⟨hw, _, ha, _⟩
        · exact .inl ⟨hw, hv, hHI' hea hmt c.A (by rw [hAi hea hmt, hh])⟩
        · exact .inr ⟨hw, hs (i + 1), by rw [hAi hea hmt]; exact ha, hHI' hea hmt _ rfl⟩
      | true =>
        have hie : i ∉ effs := fun hm => by have := loud_mute (hlo i hm _ hai); rw [hmt] at this; cases this
        rcases hg with ⟨hw, hv, hh⟩ | ⟨hw, _, ha, _⟩
        · exact .inl ⟨hw, hv, hmute_hi hie⟩
        · exact .inr ⟨hw, c.A, (mute_any hmt ha).2 c.A, hmute_hi hie⟩
    unfold wpOp
    rw [ho]
    simp only
    rcases hgen with ⟨hw, hv, hhi⟩ | ⟨hw, A1, ha, hhi⟩
    · rw [← wantedA_congr hsame] at hw
      rw [wanted_ok he hw]
      simp only [Bool.false_eq_true, if_false]
      refine ih _ c _ hE hc hhi ((envR_und he o.dst).same fun t => ?_) (by rw [put_size]; exact hsz) (by rw [put_defers]; exact hdf) (by simpa using hls) hcl' hf'
      rw [← hv]; exact hnew t
    · rw [← wantedA_congr hsame] at hw
      rw [← (aop_congr (T := T) (cf := cf) (H := c.A) _ (fun t ht => hsame t (by simp [AOper.names, ht]))).1] at ha
      rw [wanted_ok he hw]
      simp only [if_true]
      refine .inl ?_
      have ha' : (∀ x, o.dst = some x → x < nt) ∧ aop T cf ((trOpX P ops o).getD .fail) (EL as e e' listed) c.A = some (vs i, A1) := by
        unfold trOper at ha
        simp only at ha
        cases hod : o.dst with
        | none =>
          rw [hod] at ha
          simp only [if_true] at ha
          exact ⟨fun x hx => (by cases hx), ha⟩
        | some d =>
          rw [hod] at ha
          by_cases hd : d < nt
          · simp only [hd, decide_true, if_true] at ha
            exact ⟨fun x hx => (by cases hx; exact hd), ha⟩
          · simp only [hd, decide_false, Bool.false_eq_true, if_false] at ha
            cases ha
      refine op_okX hT hc he hcf ha'.2 a o _ Q fun y c' hE' hW' hA' hv => ?_
      exact ih _ c' _ (hE.trans hE') (hc.ext hE' hW') (by rw [hA']; exact hhi) ((envR_put (he.ext hE') (fun x hx => Nat.lt_of_lt_of_le (ha'.1 x hx) hsz) hv).same hnew) (by rw [put_size]; exact hsz) (by rw [put_defers]; exact hdf) (by simpa using hls) hcl' hf'

include hT hcf hqf in
theorem drawE_ok {id : Nat} (hd : (drawOK (ops.toList.map (trOper P nt ops)) ops && P.follows .mixedOrders) = true) {effs : List Nat} {lates : List (Nat × AOper)} (hlt : lates = latesOf (ops.toList.map (trOper P nt ops)) ops effs) {earls : List (Nat × Nat)} (hel : earls = earlsOf (ops.toList.map (trOper P nt ops)) ops effs) (hfx : ∀ k ∈ effs, fixed (ops.toList.map (trOper P nt ops)) ops k = true) (hlo : ∀ k ∈ effs, ∀ x, (ops.toList.map (trOper P nt ops))[k]? = some x → x.op.loud = true) {e e' : Env} {H' : Heap} {c : Cx} (hc : OK T c) {a : Act} (he : EnvR c e a.tmps) (hsz : nt ≤ a.tmps.size)
    (hr : runDrawE T cf effs lates earls 0 [] (ops.toList.map (trOper P nt ops)) e c.A = some (e', H')) (hQ : Post T nt c a .normal e' H' Q) : (Code.region id ops true).wp P Q a c.w := by
  simp only [Bool.and_eq_true] at hd
  refine wp_region_any hd.2 ?_
  obtain ⟨hE, hW⟩ := world_ok hc.wr (w' := { c.w with drawn := c.w.drawn + 1 }) rfl rfl rfl
  obtain ⟨es, vs, hs, g1, g2, g3, g4, g5⟩ := runDrawE_steps _ 0 _ _ _ _ _ hr
  have hlen : (ops.toList.map (trOper P nt ops)).length = ops.size := by simp
  refine draw_anyE hT hcf hqf rfl hd.1 hlt hel hfx hlo (hs := hs) g1 g3 (fun i o ho => by have := g5 i o ho; rwa [Nat.zero_add] at this) (c0 := c) (a0 := a) (fun a' c' h1 h2 h3 h4 h5 h6 => hQ a' c' h1 h2 (by rw [h3, ← hlen, g4]) h4 h5 h6) ops.size _ (c.setW { c.w with drawn := c.w.drawn + 1 }) a hE (hc.ext hE hW) ?_ ?_ hsz rfl (by simp) ?_ ?_
  · intro i hi hk
    have hi0 : ∀ k, k ∈ effs → k < ops.size → ¬ k < i := fun k h1 h2 h3 => by
      have := (hk k h1 h2).2 h3
      simp [Array.getD_eq_getD_getElem?, h2] at this
    have : ∀ d, d ≤ i → hs d = hs 0 := by
      intro d
      induction d with
      | zero => intro _; rfl
      | succ d ihd =>
        intro hd'
        rw [← ihd (by omega)]
        have hmo := Array.getElem?_eq_getElem (show d < ops.size by omega)
        obtain ⟨hgm, _, _⟩ := g5 d (trOper P nt ops ops[d]) (by rw [List.getElem?_map, Array.getElem?_toList, hmo]; rfl)
        rcases hgm with ⟨_, _, h⟩ | ⟨_, h, ha, _⟩
        · exact h
        · have hne : effs.contains (0 + d) = false := by
            rw [← Bool.not_eq_true, List.contains_iff_mem, Nat.zero_add]
            exact fun hm => hi0 d hm (by omega) (by omega)
          rw [hne, Bool.false_or] at h
          exact quiet_heap hqf h ha
    rw [this i (Nat.le_refl _), g2]
    rfl
  · refine (he.ext hE).same fun t => ((EL_get _ e e' _ t).2 ?_).symm
    rintro ⟨k, x, h1, h2, h3⟩
    have : k < ops.size := by have := (List.getElem?_eq_some_iff.1 h1).1; simpa using this
    simp [Array.getD_eq_getD_getElem?, this] at h3
  · intro k o ho hl
    have := (Array.getElem?_eq_some_iff.1 ho).1
    simp [Array.getD_eq_getD_getElem?, this] at hl
  · unfold left
    exact Nat.le_trans (List.countP_le_length) (by simp)
end
end Go.Eng

namespace Go.Eng
open Go

section
variable {P : Program} {T : Tab} (hT : TabOK P T) {cf : CF} (hcf : CFok P T cf) (hqf : QF T cf) {nt : Nat}

theorem loop_ok {body : Code} {f : Env → Heap → Option (AEx × Env × Heap)} {live : List Nat}
    (hb : ∀ (c : Cx), OK T c → ∀ (e : Env) (a : Act), EnvR c e a.tmps → nt ≤ a.tmps.size → ∀ (x : AEx) (e' : Env) (H' : Heap) (Q : Exit → Act → World → Prop), f e c.A = some (x, e', H') → Post T nt c a x e' H' Q → body.wp P Q a c.w)
    {Q : Exit → Act → World → Prop} : ∀ (n : Nat) (c : Cx), OK T c → ∀ (e : Env) (a : Act), EnvR c e a.tmps → nt ≤ a.tmps.size → ∀ (x : AEx) (e' : Env) (H' : Heap), iter f live n e c.A = some (x, e', H') → Post T nt c a x e' H' Q →
      ∀ (b : Frame) (k : List Item) (cs : List Frame), ∃ y a' w', Q y a' w' ∧ Arrives P (lone (b.at a (.code body :: .inLoop body :: k)) cs c.w) b k cs y a' w'
  | 0, _, _, _, _, _, _, _, _, _, h, _ => by cases h
  | n + 1, c, hc, e, a, he, hsz, x, e', H', h, hQ => by
    intro b k cs
    unfold iter at h
    cases hf : f (Env.keep live e) c.A with
    | none => rw [hf] at h; cases h
    | some p =>
      obtain ⟨y, e1, H1⟩ := p
      rw [hf] at h
      have hk := keep_ok he live
      cases y with
      | normal =>
        simp only at h
        have := hb c hc _ a hk hsz .normal e1 H1 (fun z a' w' => z = .normal ∧ ∃ c', c'.w = w' ∧ Ext c c' ∧ OK T c' ∧ c'.A = H1 ∧ EnvR c' e1 a'.tmps ∧ nt ≤ a'.tmps.size ∧ a'.defers = a.defers) hf
          (fun a' c' h1 h2 h3 h4 h5 h6 => ⟨rfl, c', rfl, h1, h2, h3, h4, h5, h6⟩)
        obtain ⟨z, a1, w1, ⟨rfl, c1, rfl, h1, h2, h3, h4, h5, h6⟩, harr⟩ := this b (.inLoop body :: k) cs
        subst h3
        obtain ⟨y2, a2, w2, hq2, harr2⟩ := loop_ok hb n c1 h2 e1 a1 h4 h5 x e' H' h (hQ.then h1 h6) b k cs
        exact ⟨y2, a2, w2, hq2, .of_steps (Steps.trans harr (.one step_inLoop)) harr2⟩
      | exit j =>
        simp only at h
        cases h
        have := hb c hc _ a hk hsz (.exit j) _ _ (fun z a' w' => z = .exit j ∧ Q z a' w') hf (fun a' c' h1 h2 h3 h4 h5 h6 => ⟨rfl, hQ a' c' h1 h2 h3 h4 h5 h6⟩)
        obtain ⟨z, a1, w1, ⟨rfl, hq⟩, harr⟩ := this b (.inLoop body :: k) cs
        exact ⟨_, a1, w1, hq, .pass (x := .inLoop body) rfl (fun _ _ => .inl (by simp)) harr⟩
      | ret =>
        simp only at h
        cases h
        have := hb c hc _ a hk hsz .ret _ _ (fun z a' w' => z = .ret ∧ Q z a' w') hf (fun a' c' h1 h2 h3 h4 h5 h6 => ⟨rfl, hQ a' c' h1 h2 h3 h4 h5 h6⟩)
        obtain ⟨z, a1, w1, ⟨rfl, hq⟩, harr⟩ := this b (.inLoop body :: k) cs
        exact ⟨_, a1, w1, hq, .pass (x := .inLoop body) rfl (fun _ _ => .inl (by simp)) harr⟩

include hT hcf hqf in
theorem code_ok (n : Nat) : ∀ (code : Code) (lv : List (List Nat)) (ac : ACode) (rest : List (List Nat)), trCode P nt code lv = some (ac, rest) → ∀ (c : Cx), OK T c → ∀ (e : Env) (a : Act), EnvR c e a.tmps → nt ≤ a.tmps.size →
    ∀ (x : AEx) (e' : Env) (H' : Heap) (Q : Exit → Act → World → Prop), exec T cf n ac e c.A = some (x, e', H') → Post T nt c a x e' H' Q → code.wp P Q a c.w := by
  intro code
  induction code with
  | skip =>
    intro lv ac rest htr c hc e a he hsz x e' H' Q h hQ
    cases htr; cases h
    exact wp_skip (hQ a c (Ext.refl c) hc rfl he hsz rfl)
  | label l =>
    intro lv ac rest htr c hc e a he hsz x e' H' Q h hQ
    cases htr; cases h
    exact wp_label (hQ a c (Ext.refl c) hc rfl he hsz rfl)
  | exit id =>
    intro lv ac rest htr c hc e a he hsz x e' H' Q h hQ
    cases htr; cases h
    exact wp_exit (hQ a c (Ext.refl c) hc rfl he hsz rfl)
  | ret =>
    intro lv ac rest htr c hc e a he hsz x e' H' Q h hQ
    cases htr; cases h
    exact wp_ret (hQ a c (Ext.refl c) hc rfl he hsz rfl)
  | goto l => intro lv ac rest htr c hc e a he hsz x e' H' Q h hQ; cases htr; cases h
  | refuse s => intro lv ac rest htr c hc e a he hsz x e' H' Q h hQ; cases htr; cases h
  | rangeFunc f p as body => intro lv ac rest htr c hc e a he hsz x e' H' Q h hQ; cases htr; cases h
  | region id ops d =>
    intro lv ac rest htr c hc e a he hsz x e' H' Q h hQ
    simp only [trCode] at htr
    cases d with
    | false =>
      simp only [Bool.false_eq_true, if_false] at htr
      cases htr
      unfold exec at h
      split at h
      · rename_i e1 H1 hr
        cases h
        refine wp_region ?_
        rw [List.range_eq_range']
        exact ops_ok hT hcf ops.toList 0 rfl c hc e a he hsz e' H' hr hQ
      · cases h
    | true =>
      simp only [if_true] at htr
      split at htr
      · rename_i hd
        split at htr
        · cases htr
          unfold exec at h
          split at h
          · rename_i e1 hr
            cases h
            exact draw_ok hT hcf hqf hd hc he hsz hr hQ
          · cases h
        · cases htr
          unfold exec at h
          split at h
          · rename_i e1 H1 hr
            cases h
            exact drawE_ok hT hcf hqf hd rfl rfl (fun k hk => by
              unfold effsOf at hk
              rw [List.mem_filter] at hk
              simp only [Bool.and_eq_true] at hk
              exact hk.2.2) (fun k hk x hx => by
              unfold effsOf at hk
              rw [List.mem_filter, hx] at hk
              simp only [Bool.and_eq_true] at hk
              exact hk.2.1) hc he hsz hr hQ
          · cases h
      · cases htr; cases h
  | seq p q ihp ihq =>
    intro lv ac rest htr c hc e a he hsz x e' H' Q h hQ
    simp only [trCode] at htr
    split at htr
    · rename_i p' l1 hp
      split at htr
      · rename_i q' l2 hq
        cases htr
        unfold exec at h
        cases hx : exec T cf n p' e c.A with
        | none => rw [hx] at h; cases h
        | some r =>
          obtain ⟨y, e1, H1⟩ := r
          rw [hx] at h
          refine wp_seq ?_
          refine ihp lv p' l1 hp c hc e a he hsz y e1 H1 _ hx fun a1 c1 h1 h2 h3 h4 h5 h6 => ?_
          cases y with
          | normal =>
            simp only at h
            subst h3
            exact ihq l1 q' _ hq c1 h2 e1 a1 h4 h5 x e' H' Q h (hQ.then h1 h6)
          | exit j => simp only at h; cases h; exact hQ a1 c1 h1 h2 h3 h4 h5 h6
          | ret => simp only at h; cases h; exact hQ a1 c1 h1 h2 h3 h4 h5 h6
      · cases htr
    · cases htr
  | cond k p q ihp ihq =>
    intro lv ac rest htr c hc e a he hsz x e' H' Q h hQ
    simp only [trCode] at htr
    split at htr
    · rename_i k' p' l1 hk hp
      split at htr
      · rename_i q' l2 hq
        cases htr
        unfold exec at h
        split at h
        · rename_i t ht
          have hv := opd_ok hc he hk
          rw [ht] at hv
          have hev : a.eval k = .bool t := by generalize a.eval k = z at hv; cases hv; rfl
          cases t with
          | true => exact wp_cond_true hev (ihp lv p' l1 hp c hc e a he hsz x e' H' Q h hQ)
          | false => exact wp_cond_false hev (ihq l1 q' _ hq c hc e a he hsz x e' H' Q h hQ)
        · cases h
      · cases htr
    · cases htr
  | block id body ih =>
    intro lv ac rest htr c hc e a he hsz x e' H' Q h hQ
    cases lv with
    | nil => simp only [trCode] at htr; cases htr; cases h
    | cons v l =>
    simp only [trCode] at htr
    split at htr
    · rename_i b' l1 hb
      cases htr
      unfold exec at h
      cases hx : exec T cf n b' e c.A with
      | none => rw [hx] at h; cases h
      | some r =>
        obtain ⟨y, e1, H1⟩ := r
        rw [hx] at h
        refine wp_block ?_
        refine ih l b' _ hb c hc e a he hsz y e1 H1 _ hx fun a1 c1 h1 h2 h3 h4 h5 h6 => ?_
        cases y with
        | normal => simp only at h; cases h; exact hQ a1 c1 h1 h2 h3 (keep_ok h4 v) h5 h6
        | exit j =>
          simp only at h
          by_cases hj : j = id
          · subst hj
            simp only [beq_self_eq_true, cond_true] at h
            cases h
            simp only [toExit, Exit.inBlock, if_true]
            exact hQ a1 c1 h1 h2 h3 (keep_ok h4 v) h5 h6
          · have hb : (j == id) = false := by simpa using hj
            simp only [hb, cond_false] at h
            cases h
            simp only [toExit, Exit.inBlock, hj, if_false]
            exact hQ a1 c1 h1 h2 h3 h4 h5 h6
        | ret => simp only at h; cases h; exact hQ a1 c1 h1 h2 h3 h4 h5 h6
    · cases htr
  | loop body ih =>
    intro lv ac rest htr c hc e a he hsz x e' H' Q h hQ
    cases lv with
    | nil => simp only [trCode] at htr; cases htr; cases h
    | cons v l =>
    simp only [trCode] at htr
    split at htr
    · rename_i b' l1 hb
      cases htr
      unfold exec at h
      intro b k cs
      obtain ⟨y, a', w', hq, harr⟩ := loop_ok (fun c hc e a he hsz x e' H' Q h hQ => ih l b' _ hb c hc e a he hsz x e' H' Q h hQ) n c hc e a he hsz x e' H' h hQ b k cs
      exact ⟨y, a', w', hq, .of_steps (.one step_loop) harr⟩
    · cases htr
  | scope body ih =>
    intro lv ac rest htr c hc e a he hsz x e' H' Q h hQ
    simp only [trCode] at htr
    split at htr
    · rename_i b' l1 hb
      cases htr
      unfold exec at h
      refine wp_scope_straight ?_
      refine ih lv b' _ hb c hc e a he hsz x e' H' _ h fun a1 c1 h1 h2 h3 h4 h5 h6 => ?_
      have := hQ a1 c1 h1 h2 h3 h4 h5 h6
      cases x <;> exact this
    · cases htr
end

/-! ### calls -/
theorem mapO_ok {f : ResV → Option AV} : ∀ {l : List ResV} {vs : List AV}, mapO f l = some vs → vs.length = l.length ∧ ∀ (k : Nat) (r : ResV), l[k]? = some r → ∃ v, vs[k]? = some v ∧ f r = some v
  | [], vs, h => by cases h; exact ⟨rfl, fun k r hk => by simp at hk⟩
  | x :: l, vs, h => by
    unfold mapO at h
    split at h
    · rename_i v hv
      split at h
      · rename_i vs' hvs
        cases h
        obtain ⟨h1, h2⟩ := mapO_ok hvs
        refine ⟨by simp [h1], fun k r hk => ?_⟩
        cases k with
        | zero => simp at hk; subst hk; exact ⟨v, rfl, hv⟩
        | succ k => simp at hk; simpa using h2 k r hk
      · cases h
    · cases h

/-- A function's results. -/
theorem results_ok {P : Program} {T : Tab} {c : Cx} (hc : OK T c) {e : Env} {tmps : Array Value} (he : EnvR c e tmps) {fn : Func} {rs : List ResV} (hrs : mapOpt (trRes P) fn.results.toList = some rs) {vs : List AV} (h : mapO (resOf e c.A) rs = some vs) :
    ∃ y, (results fn tmps).run P c.w = .ok y c.w ∧ VR c (results1 vs) y := by
  obtain ⟨hl1, hr1⟩ := mapOpt_len hrs
  obtain ⟨hl2, hr2⟩ := mapO_ok h
  let g : ResultVar → Sem Value := fun r => match r with
    | .tmp t => pure (tmps.getD t undef)
    | .cell a t => do loadVar t (← asAddr (tmps.getD a undef))
  have one : ∀ (r : ResultVar) (r' : ResV) (v : AV), trRes P r = some r' → resOf e c.A r' = some v → ∃ y, (g r).run P c.w = .ok y c.w ∧ VR c v y := by
    intro r r' v h1 h2
    cases r with
    | tmp t => cases h1; cases h2; exact ⟨_, rfl, he t⟩
    | cell t ty =>
      simp only [trRes] at h1
      cases hag : aggO P ty with
      | none => rw [hag] at h1; cases h1
      | some n =>
        rw [hag] at h1; cases h1
        have hv := he t
        cases n with
        | none =>
          simp only [resOf] at h2
          split at h2
          · rename_i i off gg hev
            rw [hev] at hv
            split at h2
            · rename_i u hu
              cases h2
              obtain ⟨_, b, o, us, hy, h3, h4⟩ := behind_ok hc.wr hv (n := 1) hu
              obtain ⟨u', x', rfl, h5, h6⟩ := h3.uncons
              have h0 : c.w.cell? ⟨b, o, none⟩ = some u' := by simpa using h4 0 u' rfl
              exact ⟨u', by simp only [g, Sem.run_bind, hy, asAddr, Sem.run_pure, Result.andThen_ok, run_loadVar_one hag h0], h5⟩
            · cases h2
          · cases h2
        | some n =>
          simp only [resOf] at h2
          split at h2
          · rename_i i off gg hev
            rw [hev] at hv
            obtain ⟨cs, hcs, rfl⟩ := mapO_some h2
            obtain ⟨hl, b, o, us, hy, h3, h4⟩ := behind_ok hc.wr hv (n := n) hcs
            exact ⟨.agg us.toArray, by simp only [g, Sem.run_bind, hy, asAddr, Sem.run_pure, Result.andThen_ok, run_loadVar_agg hag (h3.len.symm.trans hl) h4], h3.agg⟩
          · cases h2
  have all : ∀ (l : List ResultVar) (rs : List ResV) (vs : List AV), mapOpt (trRes P) l = some rs → mapO (resOf e c.A) rs = some vs → ∃ ys : List Value, (l.mapM g).run P c.w = .ok ys c.w ∧ VRs c vs ys := by
    intro l
    induction l with
    | nil => intro rs vs h1 h2; cases h1; cases h2; exact ⟨[], rfl, .nil c⟩
    | cons r l ih =>
      intro rs vs h1 h2
      unfold mapOpt at h1
      split at h1
      · rename_i r' hr'
        split at h1
        · rename_i rs' hrs'
          cases h1
          unfold mapO at h2
          split at h2
          · rename_i v hv
            split at h2
            · rename_i vs' hvs'
              cases h2
              obtain ⟨y, hy1, hy2⟩ := one r r' v hr' hv
              obtain ⟨ys, hys1, hys2⟩ := ih rs' vs' hrs' hvs'
              exact ⟨y :: ys, by simp only [List.mapM_cons, Sem.run_bind, hy1, Result.andThen_ok, hys1, Sem.run_pure], .cons hy2 hys2⟩
            · cases h2
          · cases h2
        · cases h1
      · cases h1
  obtain ⟨ys, hys1, hys2⟩ := all _ rs vs hrs h
  have hM : (fn.results.mapM g).run P c.w = .ok ys.toArray c.w := by
    rw [Array.mapM_eq_mapM_toList]
    simp only [Sem.run_map, hys1, Result.andThen_ok]
  have hres : (results fn tmps).run P c.w = .ok (if h : ys.toArray.size = 1 then ys.toArray[0] else .tuple ys.toArray) c.w := by
    have hdef : results fn tmps = (do let vs ← fn.results.mapM g; pure (if h : vs.size = 1 then vs[0] else .tuple vs)) := rfl
    rw [hdef]
    simp only [Sem.run_bind, hM, Result.andThen_ok, Sem.run_pure]
  refine ⟨_, hres, ?_⟩
  match vs, ys, hys2 with
  | [], [], h => exact h.tup
  | [v], [y], h =>
    obtain ⟨_, _, e1, h1, _⟩ := h.uncons
    cases e1
    exact h1
  | v :: v' :: vs, y :: y' :: ys, h =>
    have : ¬ ((y :: y' :: ys).toArray.size = 1) := by simp
    rw [dif_neg this]
    exact h.tup
  | [], _ :: _, h => have := h.len; simp at this
  | [_], [], h => have := h.len; simp at this
  | [_], _ :: _ :: _, h => have := h.len; simp at this
  | _ :: _ :: _, [], h => have := h.len; simp at this
  | _ :: _ :: _, [_], h => have := h.len; simp at this
end Go.Eng

namespace Go.Eng
open Go

/-! ### closed values -/
theorem closedL_get : ∀ {l : List AV} {k : Nat} {a : AV}, closedL l = true → l[k]? = some a → a.closed = true
  | [], k, a, _, h => by simp at h
  | x :: l, 0, a, hc, h => by simp at h; subst h; simp only [closedL, Bool.and_eq_true] at hc; exact hc.1
  | x :: l, k + 1, a, hc, h => by simp only [closedL, Bool.and_eq_true] at hc; exact closedL_get hc.2 (by simpa using h)

theorem VR.closed {c c' : Cx} (hw : c'.w = c.w) (hp : ∀ b, Perm c b → Perm c' b) {a : AV} {y : Value} (h : VR c a y) : a.closed = true → VR c' a y := by
  induction h with
  | unk y => intro h; cases h
  | bool b => intro _; exact .bool b
  | int k n => intro _; exact .int k n
  | str s => intro _; exact .str s
  | cst v => intro _; exact .cst v
  | ptr i off g o a h1 hg ha => intro h; cases h
  | ms i off n e g o a cap h1 hg hn hs ha hroom => intro h; cases h
  | ep cells vs b o hl hr hpm hc ih =>
    intro h
    simp only [AV.closed] at h
    exact .ep cells vs b o hl (fun k a v h1 h2 => ih k a v h1 h2 (closedL_get h h1)) (hp _ hpm) (fun k v hk => by rw [hw]; exact hc k v hk)
  | sl full n e cells vs b o cap sp hsp hn hf he hl hr hpm hc ih =>
    intro h
    simp only [AV.closed] at h
    exact .sl full n e cells vs b o cap sp hsp hn hf he hl (fun k a v h1 h2 => ih k a v h1 h2 (closedL_get h h1)) (fun hne => hp _ (hpm hne)) (fun k v hk => by rw [hw]; exact hc k v hk)
  | fn f x y x' y' hx hx' hy hy' ih1 ih2 =>
    intro h
    simp only [AV.closed, Bool.and_eq_true] at h
    exact .fn f x y x' y' hx (fun k a v h1 h2 => ih1 k a v h1 h2 (closedL_get h.1 h1)) hy (fun k a v h1 h2 => ih2 k a v h1 h2 (closedL_get h.2 h1))
  | iface t x y h ih => intro h; simp only [AV.closed] at h; exact .iface t x y (ih h)
  | agg x x' hx hx' ih => intro h; simp only [AV.closed] at h; exact .agg x x' hx (fun k a v h1 h2 => ih k a v h1 h2 (closedL_get h h1))
  | tup x x' hx hx' ih => intro h; simp only [AV.closed] at h; exact .tup x x' hx (fun k a v h1 h2 => ih k a v h1 h2 (closedL_get h h1))

theorem VRs.closed {c c' : Cx} (hw : c'.w = c.w) (hp : ∀ b, Perm c b → Perm c' b) {x : List AV} {y : List Value} (h : VRs c x y) (hc : closedL x = true) : VRs c' x y :=
  ⟨h.len, fun k a v h1 h2 => (h.rel k a v h1 h2).closed hw hp (closedL_get hc h1)⟩

/-! ### snapshots -/
/-- Rows are frozen, nothing else. -/
structure Fro (c c' : Cx) : Prop where
  ext : Ext c c'
  wr : WR c'
  w : c'.w = c.w
  blk : c'.blk = c.blk
  base : c'.base = c.base
  row : ∀ (i : Nat) (o : AObj), c.A[i]? = some o → ∃ l, c'.A[i]? = some { o with live := l }

theorem Fro.refl {c : Cx} (h : WR c) : Fro c c := ⟨Ext.refl c, h, rfl, rfl, rfl, fun _i o ho => ⟨o.live, ho⟩⟩
theorem Fro.trans {a b c : Cx} (h : Fro a b) (k : Fro b c) : Fro a c :=
  ⟨h.ext.trans k.ext, k.wr, k.w.trans h.w, k.blk.trans h.blk, k.base.trans h.base, fun i o ho => by
    obtain ⟨l, h1⟩ := h.row i o ho
    obtain ⟨l', h2⟩ := k.row i _ h1
    exact ⟨l', h2⟩⟩

theorem freeze_ok {c : Cx} (hW : WR c) {i : Nat} {o : AObj} (hi : c.A[i]? = some o) : ∃ c', Fro c c' ∧ c'.A = freeze c.A i ∧ Perm c' (c.blk i) := by
  have hre := re_ok hW hi (b := c.blk i) (p := c.base i) (o' := { o with live := false }) (w' := c.w) (fun h => by cases h) (Nat.le_refl _) (fun _ => ⟨rfl, rfl⟩) (.inl rfl) (Nat.le_refl _) (hW.lt i o hi)
    (fun _ _ _ => rfl) (fun _ h => h) rfl rfl (fun h => by cases h) (fun h => by cases h) (fun h => by cases h) (fun k a hk => hW.cell i o hi k a hk)
  have hb : (c.re i (c.blk i) (c.base i) { o with live := false } c.w).blk = c.blk := by funext j; simp only [Cx.re]; split <;> simp_all
  have hp : (c.re i (c.blk i) (c.base i) { o with live := false } c.w).base = c.base := by funext j; simp only [Cx.re]; split <;> simp_all
  refine ⟨c.re i (c.blk i) (c.base i) { o with live := false } c.w, ⟨hre.1, hre.2, rfl, hb, hp, fun j q hq => ?_⟩, by simp [Cx.re, freeze, hi], hW.lt i o hi, ?_⟩
  · by_cases e : j = i
    · subst e
      obtain rfl : o = q := Option.some.inj (hi.symm.trans hq)
      exact ⟨false, by simp [Cx.re, lt_of_some hi]⟩
    · exact ⟨q.live, by simp only [Cx.re]; rw [List.getElem?_set_ne (by omega)]; exact hq⟩
  · rintro (h | ⟨j, q, h1, h2, h3⟩)
    · exact hW.nf i o hi h
    · rw [hb] at h3
      simp only [Cx.re] at h1
      rcases set_some h1 with ⟨h4, h5⟩ | ⟨h4, h5, _⟩
      · exact h4 (hW.inj j i q o h5 hi h3)
      · subst h5; cases h2

theorem mapS_ok {f : Heap → AV → Option (AV × Heap)}
    (hf : ∀ (c : Cx), WR c → ∀ (v : AV) (y : Value), VR c v y → ∀ v' H', f c.A v = some (v', H') → ∃ c', Fro c c' ∧ c'.A = H' ∧ VR c' v' y ∧ v'.closed = true) :
    ∀ (x : List AV) (c : Cx), WR c → ∀ (y : List Value), VRs c x y → ∀ x' H', mapS f c.A x = some (x', H') → ∃ c', Fro c c' ∧ c'.A = H' ∧ VRs c' x' y ∧ closedL x' = true
  | [], c, hW, y, h, x', H', hm => by
    cases hm
    exact ⟨c, Fro.refl hW, rfl, h, rfl⟩
  | a :: x, c, hW, y, h, x', H', hm => by
    obtain ⟨v, ys, rfl, hv, hvs⟩ := h.uncons
    unfold mapS at hm
    split at hm
    · rename_i a' H1 ha
      obtain ⟨c1, h1, h2, h3, h4⟩ := hf c hW a v hv a' H1 ha
      split at hm
      · rename_i as' H2 has
        cases hm
        rw [← h2] at has
        obtain ⟨c2, k1, k2, k3, k4⟩ := mapS_ok hf x c1 h1.wr ys (hvs.ext h1.ext) as' _ has
        exact ⟨c2, h1.trans k1, k2, .cons (h3.ext k1.ext) k3, by simp only [closedL, Bool.and_eq_true]; exact ⟨h4, k4⟩⟩
      · cases hm
    · cases hm

theorem snap_ok : ∀ (k : Nat) (c : Cx), WR c → ∀ (v : AV) (y : Value), VR c v y → ∀ v' H', snap k c.A v = some (v', H') → ∃ c', Fro c c' ∧ c'.A = H' ∧ VR c' v' y ∧ v'.closed = true
  | 0, c, hW, v, y, h, v', H', hs => by cases hs
  | k + 1, c, hW, v, y, h, v', H', hs => by
    have ih := snap_ok k
    unfold snap at hs
    split at hs
    · rename_i i off n e g
      split at hs
      · rename_i cs hcs
        split at hs
        · rename_i cs' H1 hm
          cases hs
          obtain ⟨hl, vs, h2, h3⟩ := row_cells hW hcs
          obtain ⟨o', ho', hg', _, _⟩ := hget_some hcs
          obtain ⟨c1, f1, f2, f3, f4⟩ := mapS_ok ih cs c hW vs h2 cs' H1 hm
          cases h with
          | ms i off n e g o a cap q1 hg hn hsp ha hroom =>
            obtain rfl : o = o' := Option.some.inj (q1.symm.trans ho')
            obtain ⟨l, hl1⟩ := f1.row i o q1
            obtain ⟨c2, g1, g2, g3⟩ := freeze_ok f1.wr hl1
            have hfr := f1.trans g1
            refine ⟨c2, hfr, by rw [g2, f2], ?_, by simp only [AV.closed]; exact f4⟩
            have f3' := f3.ext g1.ext
            have hcl : cs'.length = n * e := by rw [f3.len, ← h2.len, hl]
            obtain ⟨ab, ao, asp⟩ := a
            simp only at hsp
            subst hsp
            by_cases hcap : cap = 0
            · obtain rfl : n = 0 := by omega
              have hnil : cs' = [] := List.eq_nil_of_length_eq_zero (by simpa using hcl)
              subst hnil
              exact .sl _ _ _ _ [] ab ao _ none (fun _ => rfl) hn (fun h => by cases h) (by simp) rfl (fun k a v h => by simp at h) (fun h => absurd rfl h) (fun k v h => by simp at h)
            · have hA := ha hg' hcap
              simp only [Cx.at, Addr.mk.injEq, and_true] at hA
              obtain ⟨rfl, rfl⟩ := hA
              refine .sl _ _ _ _ vs _ _ _ none (fun _ => rfl) hn (fun h => by cases h) hcl f3'.len f3'.rel (fun _ => by rw [← f1.blk]; exact g3) (fun k v hk => ?_)
              rw [hfr.w]; exact h3 k v hk
        · cases hs
      · cases hs
    · rename_i cs
      split at hs
      · rename_i cs' H1 hm
        cases hs
        obtain ⟨ys, rfl, hl⟩ := h.agg_inv
        obtain ⟨c1, f1, f2, f3, f4⟩ := mapS_ok ih cs c hW _ hl cs' H' hm
        exact ⟨c1, f1, f2, by simpa using f3.agg, by simp only [AV.closed]; exact f4⟩
      · cases hs
    · rename_i cs
      split at hs
      · rename_i cs' H1 hm
        cases hs
        obtain ⟨ys, rfl, hl⟩ := h.tup_inv
        obtain ⟨c1, f1, f2, f3, f4⟩ := mapS_ok ih cs c hW _ hl cs' H' hm
        exact ⟨c1, f1, f2, by simpa using f3.tup, by simp only [AV.closed]; exact f4⟩
      · cases hs
    · rename_i t x
      split at hs
      · rename_i x' H1 hm
        cases hs
        cases h with
        | iface t x y hx =>
          obtain ⟨c1, f1, f2, f3, f4⟩ := ih c hW x y hx x' H' hm
          exact ⟨c1, f1, f2, .iface _ _ _ f3, by simp only [AV.closed]; exact f4⟩
      · cases hs
    · rename_i full n e cs
      cases hc : closedL cs with
      | false =>
        rw [hc] at hs
        simp only [cond_false] at hs
        split at hs
        · rename_i cs' H1 hm
          cases hs
          cases h with
          | sl full n e cells vs b o cap sp hsp hn hf he hl hr hpm hcc =>
            obtain ⟨c1, f1, f2, f3, f4⟩ := mapS_ok ih cs c hW vs ⟨hl, hr⟩ cs' H' hm
            have hne' : cs' ≠ [] → cs ≠ [] := fun h1 h2 => by
              subst h2
              cases hm
              exact h1 rfl
            exact ⟨c1, f1, f2, .sl false n e cs' vs b o cap sp (fun h => hsp (hne' h)) hn (fun h => by cases h) (by rw [f3.len, ← hl]; exact he) f3.len f3.rel (fun hne => (hpm (hne' hne)).ext f1.ext) (fun k v hk => by rw [f1.w]; exact hcc k v hk), by simp only [AV.closed]; exact f4⟩
        · cases hs
      | true =>
        rw [hc] at hs; cases hs
        cases h with
        | sl full n e cells vs b o cap sp hsp hn hf he hl hr hpm hcc =>
          exact ⟨c, Fro.refl hW, rfl, .sl false n e cs vs b o cap sp hsp hn (fun h => by cases h) he hl hr hpm hcc, by simp only [AV.closed]; exact hc⟩
    · cases hc : v.closed with
      | false => rw [hc] at hs; cases hs
      | true =>
        rw [hc] at hs; cases hs
        exact ⟨c, Fro.refl hW, rfl, h, hc⟩

/-- A closed value's snapshot leaves the heap. -/
theorem mapS_closed {f : Heap → AV → Option (AV × Heap)} (hf : ∀ H v v' H', v.closed = true → f H v = some (v', H') → H' = H) : ∀ (x : List AV) (H : Heap) (x' : List AV) (H' : Heap), closedL x = true → mapS f H x = some (x', H') → H' = H
  | [], H, x', H', _, h => by cases h; rfl
  | a :: x, H, x', H', hc, h => by
    simp only [closedL, Bool.and_eq_true] at hc
    unfold mapS at h
    split at h
    · rename_i a' H1 ha
      split at h
      · rename_i as' H2 has
        cases h
        have e1 := hf _ _ _ _ hc.1 ha
        subst e1
        exact mapS_closed hf x _ _ _ hc.2 has
      · cases h
    · cases h

theorem snap_closed : ∀ (k : Nat) (H : Heap) (v v' : AV) (H' : Heap), v.closed = true → snap k H v = some (v', H') → H' = H
  | 0, _, _, _, _, _, h => by cases h
  | k + 1, H, v, v', H', hc, h => by
    have ih := snap_closed k
    unfold snap at h
    split at h
    · cases hc
    · split at h
      · rename_i cs' H1 hm; cases h; simp only [AV.closed] at hc; exact mapS_closed ih _ _ _ _ hc hm
      · cases h
    · split at h
      · rename_i cs' H1 hm; cases h; simp only [AV.closed] at hc; exact mapS_closed ih _ _ _ _ hc hm
      · cases h
    · split at h
      · rename_i x' H1 hm; cases h; simp only [AV.closed] at hc; exact ih _ _ _ _ hc hm
      · cases h
    · rename_i cs
      cases hcc : closedL cs with
      | false => simp only [AV.closed] at hc; rw [hc] at hcc; cases hcc
      | true => rw [hcc] at h; cases h; rfl
    · rw [hc] at h; cases h; rfl

theorem acall_quiet (T : Tab) : ∀ n, QF T (acall T n)
  | 0 => fun f args H r H' _ _ h => by cases h
  | n + 1 => fun f args H r H' hp hc h => by
    unfold acall at h
    unfold isPure at hp
    split at hp
    · rename_i p ac rs hf
      subst hp
      rw [hf] at h
      unfold runDef at h
      simp only at h
      split at h
      · rename_i args' H1 hm
        split at h
        · split at h
          · cases h
            exact mapS_closed (snap_closed 64) _ _ _ _ hc hm
          · cases h
        · cases h
      · cases h
    · cases hp

/-! ### functions -/
def PrimOK (P : Program) (T : Tab) (f : FuncId) (p : List AV → Heap → Option (AV × Heap)) : Prop := ∀ (args : List AV) (H : Heap) (r : AV) (H' : Heap), p args H = some (r, H') → ∀ c : Cx, OK T c → c.A = H → ∀ args' : Array Value, VRs c args args'.toList →
  Does P ((callFunc f args').run P c.w) c r H'

structure FnOK (P : Program) (T : Tab) : Prop where
  code : ∀ (f : FuncId) (p : Bool) (ac : ACode) (rs : List ResV), T.fn f = some (.code p ac rs) → ∃ (fn : Func) (lives : List (List Nat)), P.funcs[f]? = some fn ∧ trFn P fn p lives = some (.code p ac rs) ∧
    ∀ (args : Array Value) (w : World), (callFunc f args).run P w = .ok (.enter f args) w
  prim : ∀ (f : FuncId) (p : List AV → Heap → Option (AV × Heap)), T.fn f = some (.prim p) → PrimOK P T f p
  glob : ∀ n cs, T.glob n = some cs → closedL cs = true

theorem argEnv_get : ∀ (x : List AV) (k t : Nat), (argEnv k x).get t = if k ≤ t then (x[t - k]?).getD .unk else .unk
  | [], k, t => by simp [argEnv, Env.get]
  | a :: x, k, t => by
    unfold argEnv
    simp only [Env.get]
    by_cases hk : k = t
    · subst hk; simp
    · have hb : (k == t) = false := by simpa using hk
      rw [hb, cond_false, argEnv_get x (k + 1) t]
      by_cases h1 : k + 1 ≤ t
      · rw [if_pos h1, if_pos (by omega), show t - k = (t - (k + 1)) + 1 by omega]; simp
      · rw [if_neg h1, if_neg (by omega)]

theorem argEnv_ok {c : Cx} {x : List AV} {args : Array Value} (h : VRs c x args.toList) (m : Nat) : EnvR c (argEnv 0 x) (args ++ Array.replicate m undef) := by
  intro t
  rw [argEnv_get]
  simp only [Nat.zero_le, if_true, Nat.sub_zero]
  cases hx : x[t]? with
  | none => exact .unk _
  | some a =>
    obtain ⟨v, h1, h2⟩ := VRs.find h t a hx
    have hlt := (Array.getElem?_eq_some_iff.1 h1).1
    simp only [Option.getD_some, Array.getD_eq_getD_getElem?]
    rw [Array.getElem?_append_left hlt, h1]
    exact h2

/-- A body's run, in the heap as it stands. -/
theorem body_ok {P : Program} {T : Tab} (hT : TabOK P T) {cf : CF} (hcf : CFok P T cf) (hqf : QF T cf) {n : Nat} {f : FuncId} {fn : Func} (hfn : P.funcs[f]? = some fn) {p : Bool} {lives : List (List Nat)} {ac : ACode} {rs : List ResV}
    (htr : trFn P fn p lives = some (.code p ac rs)) {args : List AV} {r : AV} {H' : Heap} {c : Cx} (hc : OK T c) {args' : Array Value} (ha : VRs c args args'.toList) (h : runBody T cf n ac rs args c.A = some (r, H')) :
    Calls P f args' c.w fun e w' => ∃ y c', e = .returned y ∧ w' = c'.w ∧ Ext c c' ∧ OK T c' ∧ c'.A = H' ∧ VR c' r y := by
  unfold trFn at htr
  split at htr
  · rename_i code hbody
    split at htr
    · rename_i a1 rest rs1 hcode hres
      cases htr
      refine calls_of_wp hfn hbody ?_
      unfold runBody at h
      have fin : ∀ (x : AEx) (e1 : Env) (H1 : Heap), (x = .normal ∨ x = .ret) → exec T cf n ac (argEnv 0 args) c.A = some (x, e1, H1) → (mapO (resOf e1 H1) rs).map (fun vs => (results1 vs, H1)) = some (r, H') →
          code.wp P (bodyPost P fn fun e w' => ∃ y c', e = .returned y ∧ w' = c'.w ∧ Ext c c' ∧ OK T c' ∧ c'.A = H' ∧ VR c' r y) { tmps := args' ++ Array.replicate (fn.ntmps - args'.size) undef, defers := [] } c.w := by
        intro x e1 H1 hx he hm
        obtain ⟨vs, hvs, rfl, rfl⟩ := some_pair hm
        refine code_ok hT hcf hqf n code lives ac rest hcode c hc (argEnv 0 args) _ (argEnv_ok ha _) (by simp; omega) x e1 H1 _ he fun a' c' h1 h2 h3 h4 h5 h6 => ?_
        subst h3
        obtain ⟨y, hy1, hy2⟩ := results_ok h2 h4 hres hvs
        rcases hx with rfl | rfl <;> exact ⟨h6, y, hy1, y, c', rfl, rfl, h1, h2, rfl, hy2⟩
      split at h
      · rename_i e1 H1 he; exact fin .normal e1 H1 (.inl rfl) he h
      · rename_i e1 H1 he; exact fin .ret e1 H1 (.inr rfl) he h
      · cases h
    · cases htr
  · cases htr

theorem acall_ok {P : Program} {T : Tab} (hT : TabOK P T) (hF : FnOK P T) : ∀ n, CFok P T (acall T n)
  | 0 => fun f args H r H' h => by cases h
  | n + 1 => fun f args H r H' h c hc hA args' ha => by
    have ih := acall_ok hT hF n
    have hq := acall_quiet T n
    subst hA
    unfold acall at h
    split at h
    · rename_i d hd
      unfold runDef at h
      split at h
      · rename_i p
        exact hF.prim f p hd args c.A r H' h c hc rfl args' ha
      · rename_i ac rs
        obtain ⟨fn, lives, hfn, htr, hcall⟩ := hF.code f _ _ _ hd
        rw [hcall]
        intro a o next Q hk
        rw [Oper.upon_enter]
        refine (body_ok hT ih hq hfn htr hc ha h).mono ?_
        rintro e w' ⟨y, c', rfl, rfl, h1, h2, h3, h4⟩
        exact hk y c' h1 h2.wr h3 h4
      · rename_i ac rs
        obtain ⟨fn, lives, hfn, htr, hcall⟩ := hF.code f _ _ _ hd
        split at h
        · rename_i args1 H1 hm
          split at h
          · rename_i r1 H2 hb
            split at h
            · rename_i r2 H3 hs
              cases h
              obtain ⟨c1, f1, f2, f3, f4⟩ := mapS_ok (snap_ok 64) args c hc.wr _ ha args1 H' hm
              have hc1 := hc.ext f1.ext f1.wr
              -- the callee's own context
              let c2 : Cx := { F := Own c1, blk := fun _ => 0, base := fun _ => 0, A := [], w := c1.w }
              have hp2 : ∀ b, Perm c1 b → Perm c2 b := fun b hb => ⟨hb.1, by
                rintro (h | ⟨i, o, h1, _⟩)
                · exact hb.2 h
                · simp [c2] at h1⟩
              have hc2 : OK T c2 :=
                { wr := { lt := fun i o h => by simp [c2] at h
                          nf := fun i o h => by simp [c2] at h
                          inj := fun i j o p h => by simp [c2] at h
                          cell := fun i o h => by simp [c2] at h
                          soft := fun i o h => by simp [c2] at h
                          flat := fun i o h => by simp [c2] at h
                          kind := fun i o h => by simp [c2] at h }
                  gl := fun n cs hn => (hc1.gl n cs hn).closed (c := c1) (c' := c2) (show c2.w = c1.w from rfl) hp2 (by simp only [AV.closed]; exact hF.glob n cs hn)
                  fr := fun b hb h => by
                    rcases h with h | ⟨i, o, h1, _, h3⟩
                    · exact hc1.fr b hb h
                    · have := hc1.wr.lt i o h1
                      have hb' : c1.w.heap.size ≤ b := hb
                      omega }
              have ha2 : VRs c2 args1 args'.toList := f3.closed (c := c1) (c' := c2) (show c2.w = c1.w from rfl) hp2 f4
              rw [hcall]
              intro a o next Q hk
              rw [Oper.upon_enter]
              have hcalls := body_ok hT ih hq hfn htr hc2 ha2 hb
              have hcw : c2.w = c.w := f1.w
              rw [hcw] at hcalls
              refine hcalls.mono ?_
              rintro e w' ⟨y, c3, rfl, rfl, h1, h2, h3, h4⟩
              rw [← h3] at hs
              obtain ⟨c4, g1, g2, g3, g4⟩ := snap_ok 64 c3 h2.wr r1 y h4 r H3 hs
              -- back in the caller's
              have hold : ∀ b, b < c1.w.heap.size → c3.w.heap[b]? = c1.w.heap[b]? := fun b hb => h1.frame b hb (by rintro ⟨i, o, q1, _⟩; simp [c2] at q1)
              have hE5 : Ext c1 (c1.setW c3.w) :=
                { F := rfl
                  row := fun i o h => ⟨o, h, Nat.le_refl _, fun _ => ⟨rfl, rfl⟩⟩
                  own := fun b h => .inl h
                  size := h1.size
                  frame := fun b hb _ => hold b hb
                  room := fun a ha => h1.room a ha
                  os := h1.os
                  out := h1.out }
              have hW5 : WR (c1.setW c3.w) :=
                { lt := fun i o h => Nat.lt_of_lt_of_le (hc1.wr.lt i o h) h1.size
                  nf := hc1.wr.nf
                  inj := hc1.wr.inj
                  cell := fun i o h k a hk => by
                    obtain ⟨v, q1, q2⟩ := hc1.wr.cell i o h k a hk
                    exact ⟨v, by rw [← q1]; exact cell_of_heap (hold _ (hc1.wr.lt i o h)), q2.ext hE5⟩
                  soft := fun i o h hl k hk => by
                    have hb := hold _ (hc1.wr.lt i o h)
                    have hk' : (c1.w.cell? ⟨c1.blk i, k, none⟩).isSome = true := by rw [← hk]; congr 1; exact (cell_of_heap hb).symm
                    rw [← hc1.wr.soft i o h hl k hk']; exact frozen_of_heap hb
                  flat := fun i o h hl => (hc1.wr.flat i o h hl).of (hold _ (hc1.wr.lt i o h))
                  kind := fun i o h hl => (hc1.wr.kind i o h hl).of (hold _ (hc1.wr.lt i o h)) }
              have hp5 : ∀ b, Perm c4 b → Perm (c1.setW c3.w) b := fun b hb => by
                refine ⟨by have := hb.1; rw [g1.w] at this; exact this, fun ho => hb.2 (.inl ?_)⟩
                rw [g1.ext.F, h1.F]
                exact ho
              exact hk y (c1.setW c3.w) (f1.ext.trans hE5) hW5 f2 (g3.closed (c' := c1.setW c3.w) (by rw [g1.w]; rfl) hp5 g4)
            · cases h
          · cases h
        · cases h
    · cases h

theorem C_ok {P : Program} {T : Tab} (hT : TabOK P T) (hF : FnOK P T) : CFok P T (C T) := fun f args H r H' h c hc hA args' ha => by
  obtain ⟨n, hn⟩ := C_some.1 h
  exact acall_ok hT hF n f args H r H' hn c hc hA args' ha
end Go.Eng
