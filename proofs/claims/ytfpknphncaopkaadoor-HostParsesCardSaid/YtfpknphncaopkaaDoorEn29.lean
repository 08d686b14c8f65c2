/- A pure function's equation at closed arguments holds in every heap. No condition. -/
import Derived.Test.YtfpknphncaopkaaDoorEn28
namespace Go.Eng
open Go

theorem mapSclo {f : Heap → AV → Option (AV × Heap)} (hf : ∀ v, v.closed = true → ∀ H, f H v = (f [] v).map fun p => (p.1, H)) :
    ∀ (cs : List AV), closedL cs = true → ∀ H, mapS f H cs = (mapS f [] cs).map fun p => (p.1, H)
  | [], _, H => rfl
  | a :: as, h, H => by
    simp only [closedL, Bool.and_eq_true] at h
    have h1 := hf a h.1
    have h2 := mapSclo hf as h.2
    rw [mapS_cons, mapS_cons, h1 H]
    cases ha : f [] a with
    | none => rfl
    | some p =>
      obtain ⟨a', H1⟩ := p
      have e1 : H1 = [] := by
        have := h1 []
        rw [ha] at this
        simp at this
        exact this
      subst e1
      simp only [Option.map_some]
      rw [h2 H]
      cases mapS f [] as <;> rfl

theorem snapclo : ∀ (k : Nat) (v : AV), v.closed = true → ∀ H, snap k H v = (snap k [] v).map fun p => (p.1, H)
  | 0, _, _, _ => rfl
  | k + 1, v, h, H => by
    cases v with
    | agg cs =>
      rw [snap_agg, snap_agg, mapSclo (snapclo k) cs (by simpa [AV.closed] using h) H]
      cases mapS (snap k) [] cs <;> rfl
    | tup cs =>
      rw [snap_tup, snap_tup, mapSclo (snapclo k) cs (by simpa [AV.closed] using h) H]
      cases mapS (snap k) [] cs <;> rfl
    | iface t x =>
      rw [snap_iface, snap_iface, snapclo k x (by simpa [AV.closed] using h) H]
      cases snap k [] x <;> rfl
    | ms => simp [AV.closed] at h
    | ptr => simp [AV.closed] at h
    | unk => simp [AV.closed] at h
    | sl full n e cs =>
      have h' : closedL cs = true := by simpa [AV.closed] using h
      simp [snap, h']
    | ep cs =>
      have h' : closedL cs = true := by simpa [AV.closed] using h
      simp [snap, AV.closed, h']
    | fn f a b =>
      have h' : closedL a = true ∧ closedL b = true := by simpa [AV.closed] using h
      simp [snap, AV.closed, h']
    | bool => rfl
    | int => rfl
    | str => rfl
    | cst => rfl

theorem anyH {T : Tab} {f : FuncId} {d : FDef} (h : T.fn f = some d) (hp : d.pure = true) {args : List AV} (ha : closedL args = true) {r : AV} (he : C T f args [] = some (r, [])) (H : Heap) : C T f args H = some (r, H) := by
  rw [Q_pure h hp] at he ⊢
  rw [mapSclo (snapclo 12) args ha H]
  cases hm : mapS (snap 12) [] args with
  | none => rw [hm] at he; cases he
  | some p =>
    obtain ⟨a', H1⟩ := p
    rw [hm] at he
    simp only [Option.map_some, snpK_s] at he ⊢
    revert he
    unfold purK
    cases B T d.body d.res a' [] with
    | none => intro h; cases h
    | some q =>
      obtain ⟨r1, H2⟩ := q
      show (match snap 12 H2 r1 with
        | some (r', _) => some (r', H1)
        | none => none) = _ → (match snap 12 H2 r1 with
        | some (r', _) => some (r', H)
        | none => none) = _
      cases snap 12 H2 r1 with
      | none => intro h; cases h
      | some z => intro h; simp at h; simp [h.1]
end Go.Eng
