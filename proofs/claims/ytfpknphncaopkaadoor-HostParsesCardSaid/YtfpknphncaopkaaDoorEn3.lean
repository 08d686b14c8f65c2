/- The relation between abstract and concrete values and heaps; what steps keep. No condition. -/
import Derived.Test.YtfpknphncaopkaaDoorEn2
import Derived.Tactics
namespace Go.Eng
open Go

/-- A context: rows that others own; where each abstract row lies; the abstract heap; the world. -/
structure Cx where
  F : Nat → Prop
  blk : Nat → Nat
  base : Nat → Nat
  A : Heap
  w : World

def Cx.at (c : Cx) (i k : Nat) : Addr := ⟨c.blk i, c.base i + k, none⟩

def LOwn (c : Cx) (b : Nat) : Prop := ∃ (i : Nat) (o : AObj), c.A[i]? = some o ∧ o.live = true ∧ c.blk i = b
def Own (c : Cx) (b : Nat) : Prop := c.F b ∨ LOwn c b
/-- Nobody writes there any more. -/
def Perm (c : Cx) (b : Nat) : Prop := b < c.w.heap.size ∧ ¬ Own c b

inductive VR (c : Cx) : AV → Value → Prop where
  | unk (y : Value) : VR c .unk y
  | bool (b : Bool) : VR c (.bool b) (.bool b)
  | int (k : IntKind) (n : Int) : VR c (.int k n) (.int k n)
  | str (s : List UInt8) : VR c (.str s) (.string ⟨s.toArray⟩)
  | cst (v : Value) : VR c (.cst v) v
  | ptr (i off g : Nat) (o : AObj) (a : Addr) (h : c.A[i]? = some o) (hg : g ≤ o.gen) (ha : g = o.gen → a = c.at i off) : VR c (.ptr i off g) (.pointer (some a))
  | ep (cells : List AV) (vs : List Value) (b o : Nat) (hl : cells.length = vs.length)
      (hr : ∀ (k : Nat) (a : AV) (v : Value), cells[k]? = some a → vs[k]? = some v → VR c a v) (hp : Perm c b)
      (hc : ∀ (k : Nat) (v : Value), vs[k]? = some v → c.w.cell? ⟨b, o + k, none⟩ = some v) : VR c (.ep cells) (.pointer (some ⟨b, o, none⟩))
  | sl (full : Bool) (n e : Nat) (cells : List AV) (vs : List Value) (b o cap : Nat) (sp : Option Nat) (hsp : cells ≠ [] → sp = none) (hn : n ≤ cap) (hf : full = true → cap = n) (he : cells.length = n * e) (hl : cells.length = vs.length)
      (hr : ∀ (k : Nat) (a : AV) (v : Value), cells[k]? = some a → vs[k]? = some v → VR c a v) (hp : cells ≠ [] → Perm c b)
      (hc : ∀ (k : Nat) (v : Value), vs[k]? = some v → c.w.cell? ⟨b, o + k, none⟩ = some v) : VR c (.sl full n e cells) (.slice (some ⟨b, o, sp⟩) n cap)
  | ms (i off n e g : Nat) (o : AObj) (a : Addr) (cap : Nat) (h : c.A[i]? = some o) (hg : g ≤ o.gen) (hn : n ≤ cap) (hs : a.spot = none)
      (ha : g = o.gen → cap ≠ 0 → a = c.at i off) (hroom : g = o.gen → cap ≠ 0 → ∀ k, k < off + cap * e → (c.w.cell? (c.at i k)).isSome = true) :
      VR c (.ms i off n e g) (.slice (some a) n cap)
  | fn (f : Fn) (x y : List AV) (x' y' : Array Value) (hx : x.length = x'.size) (hx' : ∀ (k : Nat) (a : AV) (v : Value), x[k]? = some a → x'[k]? = some v → VR c a v)
      (hy : y.length = y'.size) (hy' : ∀ (k : Nat) (a : AV) (v : Value), y[k]? = some a → y'[k]? = some v → VR c a v) : VR c (.fn f x y) (.func f x' y')
  | iface (t : TypeId) (x : AV) (y : Value) (h : VR c x y) : VR c (.iface t x) (.iface t y)
  | agg (x : List AV) (x' : Array Value) (hx : x.length = x'.size) (hx' : ∀ (k : Nat) (a : AV) (v : Value), x[k]? = some a → x'[k]? = some v → VR c a v) : VR c (.agg x) (.agg x')
  | tup (x : List AV) (x' : Array Value) (hx : x.length = x'.size) (hx' : ∀ (k : Nat) (a : AV) (v : Value), x[k]? = some a → x'[k]? = some v → VR c a v) : VR c (.tup x) (.tuple x')

/-- Pointwise. -/
structure VRs (c : Cx) (x : List AV) (x' : List Value) : Prop where
  len : x.length = x'.length
  rel : ∀ (k : Nat) (a : AV) (v : Value), x[k]? = some a → x'[k]? = some v → VR c a v

/-- The abstract heap is that of the world. -/
structure WR (c : Cx) : Prop where
  lt : ∀ i o, c.A[i]? = some o → c.blk i < c.w.heap.size
  nf : ∀ i o, c.A[i]? = some o → ¬ c.F (c.blk i)
  inj : ∀ (i j : Nat) (o p : AObj), c.A[i]? = some o → c.A[j]? = some p → c.blk i = c.blk j → i = j
  cell : ∀ (i : Nat) (o : AObj), c.A[i]? = some o → ∀ (k : Nat) (a : AV), o.cells[k]? = some a → ∃ v, c.w.cell? (c.at i k) = some v ∧ VR c a v
  soft : ∀ (i : Nat) (o : AObj), c.A[i]? = some o → o.live = true → ∀ k, (c.w.cell? ⟨c.blk i, k, none⟩).isSome = true → c.w.frozen? ⟨c.blk i, k, none⟩ = false

/-- What a step leaves. -/
structure Ext (c c' : Cx) : Prop where
  F : c'.F = c.F
  row : ∀ (i : Nat) (o : AObj), c.A[i]? = some o → ∃ o', c'.A[i]? = some o' ∧ o.gen ≤ o'.gen ∧ (o.gen = o'.gen → c'.blk i = c.blk i ∧ c'.base i = c.base i)
  own : ∀ b, LOwn c' b → LOwn c b ∨ c.w.heap.size ≤ b
  size : c.w.heap.size ≤ c'.w.heap.size
  frame : ∀ b, b < c.w.heap.size → ¬ LOwn c b → c'.w.heap[b]? = c.w.heap[b]?
  room : ∀ a, (c.w.cell? a).isSome = true → (c'.w.cell? a).isSome = true
  os : c'.w.os = c.w.os
  out : c'.w.output = c.w.output

theorem Ext.refl (c : Cx) : Ext c c where
  F := rfl
  row _i o h := ⟨o, h, Nat.le_refl _, fun _ => ⟨rfl, rfl⟩⟩
  own _b h := .inl h
  size := Nat.le_refl _
  frame _ _ _ := rfl
  room _ h := h
  os := rfl
  out := rfl

theorem Ext.trans {a b c : Cx} (h : Ext a b) (k : Ext b c) : Ext a c where
  F := k.F.trans h.F
  row i o ho := by
    obtain ⟨o', h1, h2, h3⟩ := h.row i o ho
    obtain ⟨o'', k1, k2, k3⟩ := k.row i o' h1
    refine ⟨o'', k1, Nat.le_trans h2 k2, fun e => ?_⟩
    have e1 : o.gen = o'.gen := by omega
    have e2 : o'.gen = o''.gen := by omega
    exact ⟨(k3 e2).1.trans (h3 e1).1, (k3 e2).2.trans (h3 e1).2⟩
  own b hb := by
    rcases k.own b hb with h1 | h1
    · exact h.own b h1
    · exact .inr (Nat.le_trans h.size h1)
  size := Nat.le_trans h.size k.size
  frame b hb ho := by
    rw [k.frame b (Nat.lt_of_lt_of_le hb h.size) (fun hh => ?_), h.frame b hb ho]
    rcases h.own b hh with h1 | h1
    · exact ho h1
    · omega
  room x hx := k.room x (h.room x hx)
  os := k.os.trans h.os
  out := k.out.trans h.out

theorem Perm.ext {c c' : Cx} (h : Ext c c') {b : Nat} (hp : Perm c b) : Perm c' b := by
  refine ⟨Nat.lt_of_lt_of_le hp.1 h.size, fun ho => hp.2 ?_⟩
  rcases ho with ho | ho
  · exact .inl (h.F ▸ ho)
  · rcases h.own b ho with h1 | h1
    · exact .inr h1
    · exact absurd hp.1 (by omega)

theorem Perm.cell {c c' : Cx} (h : Ext c c') {b k : Nat} (hp : Perm c b) : c'.w.cell? ⟨b, k, none⟩ = c.w.cell? ⟨b, k, none⟩ := by
  have := h.frame b hp.1 (fun hh => hp.2 (.inr hh))
  simp only [World.cell?, this]

theorem VR.ext {c c' : Cx} (h : Ext c c') {a : AV} {v : Value} (hv : VR c a v) : VR c' a v := by
  induction hv with
  | unk y => exact .unk y
  | bool b => exact .bool b
  | int k n => exact .int k n
  | str s => exact .str s
  | cst v => exact .cst v
  | ptr i off g o a h1 hg ha =>
    obtain ⟨o', r1, r2, r3⟩ := h.row i o h1
    refine .ptr i off g o' a r1 (Nat.le_trans hg r2) fun e => ?_
    have e1 : g = o.gen := by omega
    rw [ha e1, Cx.at, Cx.at, (r3 (by omega)).1, (r3 (by omega)).2]
  | ep cells vs b o hl hr hp hc ih => exact .ep cells vs b o hl (fun k a v h1 h2 => ih k a v h1 h2) (hp.ext h) (fun k v hk => by rw [hp.cell h]; exact hc k v hk)
  | sl full n e cells vs b o cap sp hsp hn hf he hl hr hp hc ih =>
    refine .sl full n e cells vs b o cap sp hsp hn hf he hl (fun k a v h1 h2 => ih k a v h1 h2) (fun hne => (hp hne).ext h) (fun k v hk => ?_)
    have hne : cells ≠ [] := by
      rintro rfl
      have : vs = [] := List.eq_nil_of_length_eq_zero (by simpa using hl.symm)
      subst this; simp at hk
    rw [(hp hne).cell h]; exact hc k v hk
  | ms i off n e g o a cap h1 hg hn hs ha hroom =>
    obtain ⟨o', r1, r2, r3⟩ := h.row i o h1
    refine .ms i off n e g o' a cap r1 (Nat.le_trans hg r2) hn hs (fun e1 hc => ?_) (fun e1 hc k hk => ?_)
    · rw [ha (by omega) hc, Cx.at, Cx.at, (r3 (by omega)).1, (r3 (by omega)).2]
    · have := h.room _ (hroom (by omega) hc k hk)
      rw [Cx.at] at this ⊢
      rw [(r3 (by omega)).1, (r3 (by omega)).2]; exact this
  | fn f x y x' y' hx hx' hy hy' ih1 ih2 => exact .fn f x y x' y' hx ih1 hy ih2
  | iface t x y h ih => exact .iface t x y ih
  | agg x x' hx hx' ih => exact .agg x x' hx ih
  | tup x x' hx hx' ih => exact .tup x x' hx ih

theorem VRs.ext {c c' : Cx} (h : Ext c c') {x : List AV} {x' : List Value} (hv : VRs c x x') : VRs c' x x' := ⟨hv.len, fun k a v h1 h2 => (hv.rel k a v h1 h2).ext h⟩

theorem VRs.nil (c : Cx) : VRs c [] [] := ⟨rfl, fun k a v h => by simp at h⟩
theorem VRs.cons {c : Cx} {a : AV} {v : Value} {x : List AV} {x' : List Value} (h : VR c a v) (hx : VRs c x x') : VRs c (a :: x) (v :: x') := by
  refine ⟨by simp [hx.len], fun k b u h1 h2 => ?_⟩
  cases k with
  | zero => simp at h1 h2; subst h1; subst h2; exact h
  | succ k => exact hx.rel k b u (by simpa using h1) (by simpa using h2)
theorem VRs.uncons {c : Cx} {a : AV} {x : List AV} {y : List Value} (h : VRs c (a :: x) y) : ∃ v x', y = v :: x' ∧ VR c a v ∧ VRs c x x' := by
  cases y with
  | nil => have := h.len; simp at this
  | cons v x' => exact ⟨v, x', rfl, h.rel 0 a v rfl rfl, by simpa using h.len, fun k b u h1 h2 => h.rel (k + 1) b u (by simpa using h1) (by simpa using h2)⟩
theorem VRs.append {c : Cx} {x y : List AV} {x' y' : List Value} (h : VRs c x x') (k : VRs c y y') : VRs c (x ++ y) (x' ++ y') := by
  induction x generalizing x' with
  | nil => obtain rfl : x' = [] := List.eq_nil_of_length_eq_zero (by simpa using h.len.symm)
           exact k
  | cons a x ih => obtain ⟨v, x', rfl, h1, h2⟩ := h.uncons
                   exact .cons h1 (ih h2)
theorem VRs.take {c : Cx} {x : List AV} {x' : List Value} (h : VRs c x x') (n : Nat) : VRs c (x.take n) (x'.take n) := by
  refine ⟨by simp [h.len], fun k a v h1 h2 => ?_⟩
  rw [List.getElem?_take] at h1 h2
  split at h1
  · rename_i hk; rw [if_pos hk] at h2; exact h.rel k a v h1 h2
  · cases h1
theorem VRs.drop {c : Cx} {x : List AV} {x' : List Value} (h : VRs c x x') (n : Nat) : VRs c (x.drop n) (x'.drop n) := by
  refine ⟨by simp [h.len], fun k a v h1 h2 => ?_⟩
  rw [List.getElem?_drop] at h1 h2
  exact h.rel _ a v h1 h2
theorem VRs.get {c : Cx} {x : List AV} {x' : List Value} (h : VRs c x x') {k : Nat} {a : AV} (hk : x[k]? = some a) : ∃ v, x'[k]? = some v ∧ VR c a v := by
  have hlt : k < x'.length := by
    rw [← h.len]; exact (List.getElem?_eq_some_iff.1 hk).1
  exact ⟨x'[k], List.getElem?_eq_getElem hlt, h.rel k a _ hk (List.getElem?_eq_getElem hlt)⟩

theorem VRs.map {α : Type} {c : Cx} {f : α → AV} {g : α → Value} {l : List α} (h : ∀ x ∈ l, VR c (f x) (g x)) : VRs c (l.map f) (l.map g) := by
  induction l with
  | nil => exact .nil c
  | cons x l ih => exact .cons (h x (by simp)) (ih fun y hy => h y (by simp [hy]))
end Go.Eng
