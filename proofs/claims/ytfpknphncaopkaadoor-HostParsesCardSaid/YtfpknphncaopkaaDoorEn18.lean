/- Regions whose order is drawn. No condition. -/
import Derived.Test.YtfpknphncaopkaaDoorEn17
namespace Go.Eng
open Go

/-! ### an operation reads its own slots alone -/
def Same (l : List Nat) (e e' : Env) : Prop := ∀ t ∈ l, e.get t = e'.get t

theorem ev_congr {T : Tab} {e e' : Env} {x : Opd} (h : Same x.names e e') : ev T e x = ev T e' x := by
  cases x with
  | t n => exact h n (by simp [Opd.names])
  | _ => rfl
theorem evO_congr {T : Tab} {e e' : Env} {x : Option Opd} (h : Same (Opd.namesO x) e e') : evO T e x = evO T e' x := by
  cases x with
  | none => rfl
  | some x => simp only [evO]; rw [ev_congr h]
theorem Same.left {l l' : List Nat} {e e' : Env} (h : Same (l ++ l') e e') : Same l e e' := fun t ht => h t (by simp [ht])
theorem Same.right {l l' : List Nat} {e e' : Env} (h : Same (l ++ l') e e') : Same l' e e' := fun t ht => h t (by simp [ht])
theorem map_congr {T : Tab} {e e' : Env} {l : List Opd} (h : Same (l.flatMap Opd.names) e e') : l.map (ev T e) = l.map (ev T e') := by
  apply List.map_congr_left
  intro x hx
  exact ev_congr fun t ht => h t (List.mem_flatMap.2 ⟨x, hx, ht⟩)
theorem parts_congr {T : Tab} {e e' : Env} {l : List (Nat × Nat × Opd)} (h : Same (l.flatMap fun p => p.2.2.names) e e') : (l.map fun p => (p.1, p.2.1, ev T e p.2.2)) = l.map fun p => (p.1, p.2.1, ev T e' p.2.2) := by
  apply List.map_congr_left
  intro x hx
  rw [ev_congr (e' := e') fun t ht => h t (List.mem_flatMap.2 ⟨x, hx, ht⟩)]

theorem aop_congr {T : Tab} {cf : CF} {e e' : Env} {H : Heap} (o : AOp) (h : Same o.names e e') : aop T cf o e H = aop T cf o e' H ∧ quietOp T e o = quietOp T e' o := by
  cases o with
  | alloc z => exact ⟨rfl, rfl⟩
  | lenC n => exact ⟨rfl, rfl⟩
  | fail => exact ⟨rfl, rfl⟩
  | pick k a b => exact ⟨by simp only [aop]; rw [ev_congr h.left.left, ev_congr h.left.right, ev_congr h.right], rfl⟩
  | build z ps => exact ⟨by simp only [aop]; rw [parts_congr h], rfl⟩
  | lit n s z ps => exact ⟨by simp only [aop]; rw [parts_congr h], rfl⟩
  | mkFunc f a k => exact ⟨by simp only [aop]; rw [map_congr h.left, map_congr h.right], rfl⟩
  | slice k x lo hi mx => exact ⟨by simp only [aop]; rw [ev_congr h.left.left.left, evO_congr h.left.left.right, evO_congr h.left.right, evO_congr h.right], rfl⟩
  | call f args => exact ⟨by simp only [aop]; rw [ev_congr h.left, map_congr h.right], by simp only [quietOp]; rw [ev_congr h.left, map_congr h.right]⟩
  | invoke x m args => exact ⟨by simp only [aop]; rw [ev_congr h.left, map_congr h.right], by simp only [quietOp]; rw [ev_congr h.left, map_congr h.right]⟩
  | load n x => cases n <;> exact ⟨by simp only [aop]; rw [ev_congr h], rfl⟩
  | conv k x => cases k <;> exact ⟨by simp only [aop]; rw [ev_congr h], rfl⟩
  | iaddr n s x i => cases n <;> exact ⟨by simp only [aop]; rw [ev_congr h.left, ev_congr h.right], rfl⟩
  | mv x => exact ⟨by simp only [aop]; rw [ev_congr h], rfl⟩
  | box x => exact ⟨by simp only [aop]; rw [ev_congr h], rfl⟩
  | nilCheck x => exact ⟨by simp only [aop]; rw [ev_congr h], rfl⟩
  | un op x => exact ⟨by simp only [aop]; rw [ev_congr h], rfl⟩
  | mkIface t x => exact ⟨by simp only [aop]; rw [ev_congr h], rfl⟩
  | faddr off x => exact ⟨by simp only [aop]; rw [ev_congr h], rfl⟩
  | field off n x => exact ⟨by simp only [aop]; rw [ev_congr h], rfl⟩
  | extract x k => exact ⟨by simp only [aop]; rw [ev_congr h], rfl⟩
  | len x => exact ⟨by simp only [aop]; rw [ev_congr h], rfl⟩
  | lenS x => exact ⟨by simp only [aop]; rw [ev_congr h], rfl⟩
  | tassert x k ok => exact ⟨by simp only [aop]; rw [ev_congr h], rfl⟩
  | store n a x => exact ⟨by simp only [aop]; rw [ev_congr h.left, ev_congr h.right], rfl⟩
  | bin op q k x y => exact ⟨by simp only [aop]; rw [ev_congr h.left, ev_congr h.right], rfl⟩
  | mkSlice s b z x y => exact ⟨by simp only [aop]; rw [ev_congr h.left, ev_congr h.right], rfl⟩
  | idxS x y => exact ⟨by simp only [aop]; rw [ev_congr h.left, ev_congr h.right], rfl⟩
  | idxA l s n x y => exact ⟨by simp only [aop]; rw [ev_congr h.left, ev_congr h.right], rfl⟩
  | min x y => exact ⟨by simp only [aop]; rw [ev_congr h.left, ev_congr h.right], rfl⟩
  | max x y => exact ⟨by simp only [aop]; rw [ev_congr h.left, ev_congr h.right], rfl⟩
  | append s b x y => exact ⟨by simp only [aop]; rw [ev_congr h.left, ev_congr h.right], rfl⟩
  | copy s x y => exact ⟨by simp only [aop]; rw [ev_congr h.left, ev_congr h.right], rfl⟩

theorem wantedA_congr {e e' : Env} {o : AOper} (h : Same o.names e e') : wantedA e o.guard = wantedA e' o.guard := by
  unfold AOper.names at h
  cases hg : o.guard with
  | none => rfl
  | some p =>
    obtain ⟨t, b⟩ := p
    cases t with
    | none => rfl
    | some t =>
      rw [hg] at h
      have := h t (by simp)
      simp only [wantedA]; rw [this]

/-! ### quiet operations leave the heap -/
def QF (T : Tab) (cf : CF) : Prop := ∀ f args H r H', isPure T f = true → closedL args = true → cf f args H = some (r, H') → H' = H

theorem map_fst {o : Option AV} {H H' : Heap} {v : AV} (h : o.map (·, H) = some (v, H')) : H' = H := (some_pair' h).2.symm
theorem map_fst' {α : Type} {o : Option α} {H H' : Heap} {f : α → AV} {v : AV} (h : o.map (fun x => (f x, H)) = some (v, H')) : H' = H := by
  obtain ⟨_, _, _, h⟩ := some_pair h; exact h.symm

theorem quiet_heap {T : Tab} {cf : CF} (hq : QF T cf) {o : AOp} {e : Env} {H H' : Heap} {v : AV} (h1 : quietOp T e o = true) (h2 : aop T cf o e H = some (v, H')) : H' = H := by
  cases o with
  | alloc z => cases h1
  | box x => cases h1
  | store n a x => cases h1
  | mkSlice s b z x y => cases h1
  | append s b x y => cases h1
  | copy s x y => cases h1
  | fail => cases h1
  | conv k x => cases k with
    | toBytes => cases h1
    | int k => simp only [aop] at h2; split at h2 <;> cases h2; rfl
    | same => simp only [aop] at h2; split at h2 <;> cases h2; rfl
    | ofBytes => simp only [aop] at h2; split at h2 <;> first | (cases h2; done) | (split at h2 <;> first | (cases h2; done) | exact map_fst' h2)
  | call f args =>
    simp only [quietOp] at h1
    simp only [aop, applyF] at h2
    split at h1
    · rename_i g x k hev
      rw [hev] at h2
      simp only [Bool.and_eq_true] at h1
      refine hq _ _ _ _ _ h1.1.1.1 ?_ h2
      have cl : ∀ (l l' : List AV), closedL l = true → closedL l' = true → closedL (l ++ l') = true := by
        intro l l' hl hl'
        induction l with
        | nil => exact hl'
        | cons y l ih => simp only [closedL, Bool.and_eq_true, List.cons_append] at hl ⊢; exact ⟨hl.1, ih hl.2⟩
      exact cl _ _ (cl _ _ h1.1.1.2 h1.2) h1.1.2
    · rename_i m t u x k hev
      rw [hev] at h2
      split at h1
      · rename_i g hg
        simp only [Bool.and_eq_true] at h1
        simp only [List.cons_append, invokeM, hg] at h2
        refine hq _ _ _ _ _ h1.1.1.1 ?_ h2
        have cl : ∀ (l l' : List AV), closedL l = true → closedL l' = true → closedL (l ++ l') = true := by
          intro l l' hl hl'
          induction l with
          | nil => exact hl'
          | cons y l ih => simp only [closedL, Bool.and_eq_true, List.cons_append] at hl ⊢; exact ⟨hl.1, ih hl.2⟩
        simp only [closedL, Bool.and_eq_true]
        exact ⟨h1.1.1.2, cl _ _ h1.1.2 h1.2⟩
      · cases h1
    · cases h1
  | invoke x m args =>
    simp only [quietOp] at h1
    simp only [aop, invokeM] at h2
    split at h1
    · rename_i t u hev
      rw [hev] at h2
      simp only at h2
      split at h1
      · rename_i g hg
        simp only [Bool.and_eq_true] at h1
        simp only [hg] at h2
        refine hq _ _ _ _ _ h1.1.1 ?_ h2
        simp only [closedL, Bool.and_eq_true]
        exact ⟨h1.1.2, h1.2⟩
      · cases h1
    · cases h1
  | mv x => cases h2; rfl
  | mkIface t x => cases h2; rfl
  | mkFunc f a k => cases h2; rfl
  | lenC n => cases h2; rfl
  | un op x => simp only [aop] at h2; exact map_fst h2
  | slice k x lo hi mx => simp only [aop] at h2; exact map_fst h2
  | load n x => cases n <;> simp only [aop] at h2 <;> (repeat' split at h2) <;> first | (cases h2; done) | (cases h2; rfl)
  | iaddr n s x i => cases n <;> simp only [aop] at h2 <;> (repeat' split at h2) <;> first | (cases h2; done) | (cases h2; rfl) | exact map_fst' h2
  | pick k a b => simp only [aop] at h2; split at h2 <;> cases h2; rfl
  | build z ps => simp only [aop] at h2; split at h2 <;> cases h2; rfl
  | lit n s z ps => simp only [aop] at h2; split at h2 <;> cases h2; rfl
  | nilCheck x => simp only [aop] at h2; (repeat' split at h2) <;> first | (cases h2; done) | (cases h2; rfl)
  | bin op q k x y => simp only [aop] at h2; (repeat' split at h2) <;> first | (cases h2; done) | exact map_fst h2 | exact map_fst' h2
  | faddr off x => simp only [aop] at h2; split at h2 <;> cases h2 <;> rfl
  | field off n x => simp only [aop] at h2; split at h2 <;> first | (cases h2; done) | exact map_fst h2
  | idxS x y => simp only [aop] at h2; (repeat' split at h2) <;> first | (cases h2; done) | (cases h2; rfl)
  | idxA l s n x y => simp only [aop] at h2; (repeat' split at h2) <;> first | (cases h2; done) | exact map_fst h2
  | extract x k => simp only [aop] at h2; (repeat' split at h2) <;> first | (cases h2; done) | (cases h2; rfl)
  | len x => simp only [aop] at h2; split at h2 <;> cases h2 <;> rfl
  | lenS x => simp only [aop] at h2; split at h2 <;> cases h2 <;> rfl
  | min x y => simp only [aop] at h2; split at h2 <;> cases h2; rfl
  | max x y => simp only [aop] at h2; split at h2 <;> cases h2; rfl
  | tassert x k ok => simp only [aop] at h2; (repeat' split at h2) <;> first | (cases h2; done) | (cases h2; rfl) | (cases ok <;> cases h2 <;> rfl)
end Go.Eng
