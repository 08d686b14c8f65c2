/- A seat's table is sound: what has to be shown, piece by piece. No condition. -/
import Derived.Test.YtfpknphncaopkaaDoorEn24
import Derived.Stop.Asserts
namespace Go.Eng
open Go

def look : List (Nat × FDef) → Nat → Option FDef
  | [], _ => none
  | (k, d) :: r, n => bif k == n then some d else look r n

theorem look_all {Q : Nat → FDef → Prop} : ∀ {l : List (Nat × FDef)}, (∀ e ∈ l, Q e.1 e.2) → ∀ {n : Nat} {d : FDef}, look l n = some d → Q n d
  | [], _, n, d, h => by cases h
  | (k, d0) :: r, hq, n, d, h => by
    unfold look at h
    cases hb : (k == n) with
    | true =>
      rw [hb] at h
      cases h
      rw [← eq_of_beq hb]
      exact hq (k, d0) (by simp)
    | false =>
      rw [hb] at h
      exact look_all (fun e he => hq e (by simp [he])) h

/-- One entry of a table. -/
def FOK (P : Program) (T : Tab) (f : Nat) (d : FDef) : Prop :=
  (∀ (p : Bool) (ac : ACode) (rs : List ResV), d = .code p ac rs → ∃ (fn : Func) (lives : List (List Nat)), P.funcs[f]? = some fn ∧ trFn P fn p lives = some (.code p ac rs) ∧
    ∀ (args : Array Value) (w : World), (callFunc f args).run P w = .ok (.enter f args) w) ∧
  ∀ (p : List AV → Heap → Option (AV × Heap)), d = .prim p → PrimOK P T f p

theorem FOK.code {P : Program} {T : Tab} {f : Nat} {d : FDef} {fn : Func} {p : Bool} {lives : List (List Nat)} (h1 : P.funcs[f]? = some fn) (h2 : trFn P fn p lives = some d)
    (h3 : ∀ (args : Array Value) (w : World), (callFunc f args).run P w = .ok (.enter f args) w) : FOK P T f d := by
  have key : ∃ ac rs, d = .code p ac rs := by
    unfold trFn at h2
    split at h2
    · split at h2
      · cases h2; exact ⟨_, _, rfl⟩
      · cases h2
    · cases h2
  obtain ⟨ac0, rs0, rfl⟩ := key
  exact ⟨fun p' ac rs h => (by cases h; exact ⟨fn, lives, h1, h2, h3⟩), fun q h => (by cases h)⟩

theorem FOK.prim {P : Program} {T : Tab} {f : Nat} {p : List AV → Heap → Option (AV × Heap)} (h : PrimOK P T f p) : FOK P T f (.prim p) :=
  ⟨fun p' ac rs hh => (by cases hh), fun q hq => (by cases hq; exact h)⟩

theorem FnOK.of {P : Program} {T : Tab} {l : List (Nat × FDef)} (h : T.fn = look l) (hl : ∀ e ∈ l, FOK P T e.1 e.2) (hg : ∀ n cs, T.glob n = some cs → closedL cs = true) : FnOK P T where
  code f p ac rs hf := (look_all (Q := FOK P T) hl (by rw [← h]; exact hf)).1 p ac rs rfl
  prim f p hf := (look_all (Q := FOK P T) hl (by rw [← h]; exact hf)).2 p rfl
  glob := hg

/-! ### the other tables -/
def implO (P : Program) (t u : TypeId) : Option Bool := match P.underlying t, P.info? u with
  | some (.interface ms), some i => some (lacking ms i.methods).isEmpty
  | _, _ => none
theorem impl_of {P : Program} {t u : TypeId} {b : Bool} (h : implO P t u = some b) : ∃ ms i, P.underlying t = some (.interface ms) ∧ P.info? u = some i ∧ (Instr.missingMethod ms i.methods).isNone = b := by
  unfold implO at h
  split at h
  · rename_i ms i h1 h2
    cases h
    refine ⟨ms, i, h1, h2, ?_⟩
    cases hl : lacking ms i.methods with
    | nil => rw [missingMethod_none hl]; rfl
    | cons x r =>
      obtain ⟨m, hm⟩ := missingMethod_some (want := ms) (got := i.methods) (by rw [hl]; simp)
      rw [hm]; rfl
  · cases h
theorem comp_of {P : Program} {t : TypeId} (h : (P.info? t).map (·.comparable) = some true) : ∃ i, P.info? t = some i ∧ i.comparable = true := by
  cases hi : P.info? t with
  | none => rw [hi] at h; cases h
  | some i => rw [hi] at h; simp at h; exact ⟨i, rfl, h⟩
end Go.Eng
