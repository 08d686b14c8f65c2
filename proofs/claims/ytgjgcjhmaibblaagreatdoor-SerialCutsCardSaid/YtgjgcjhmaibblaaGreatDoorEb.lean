/- What the concrete operations do on related values: tables, operands, loads, equality. The operations, one by one: numbers, memory, aggregates. The operations, one by one: equality, conversions. The operations, one by one: slices, strings, appends. No condition. -/
import Derived.Test.YtgjgcjhmaibblaaGreatDoorEa
import Derived.Laws.StructEq
import Derived.Laws.Cells
import Derived.Laws.BytesString
namespace Go.Eng
open Go

/-- A step's answer, seen from the operation. -/
def Does (P : Program) (r : Result Next) (c : Cx) (v : AV) (H' : Heap) : Prop :=
  ∀ (a : Act) (o : Oper) (next : Act → World → Prop) (Q : Exit → Act → World → Prop),
    (∀ (y : Value) (c' : Cx), Ext c c' → WR c' → c'.A = H' → VR c' v y → next (a.put o.dst y) c'.w) → o.upon P a next Q r

theorem Does.same {P : Program} {c : Cx} (hW : WR c) {v : AV} {y : Value} {r : Result Next} (hr : r = .ok (.value y) c.w) (h : VR c v y) : Does P r c v c.A := by
  subst hr
  intro a o next Q hk
  exact hk y c (Ext.refl c) hW rfl h

theorem Does.of {P : Program} {c c' : Cx} (hE : Ext c c') (hW : WR c') {v : AV} {y : Value} {r : Result Next} (hr : r = .ok (.value y) c'.w) (h : VR c' v y) : Does P r c v c'.A := by
  subst hr
  intro a o next Q hk
  exact hk y c' hE hW rfl h

theorem Does.skip {P : Program} {c c' : Cx} (hE : Ext c c') (hW : WR c') {r : Result Next} (hr : r = .ok .skip c'.w) : Does P r c .und c'.A := by
  subst hr
  intro a o next Q hk
  exact hk undef c' hE hW rfl (.cst _)

/-- Globals, and what is foreign lies in the heap. -/
structure OK (T : Tab) (c : Cx) : Prop where
  wr : WR c
  gl : ∀ n cs, T.glob n = some cs → VR c (.ep cs) (.pointer (some ⟨n, 0, none⟩))
  fr : ∀ b, c.w.heap.size ≤ b → ¬ c.F b

theorem OK.ext {T : Tab} {c c' : Cx} (h : OK T c) (hE : Ext c c') (hW : WR c') : OK T c' where
  wr := hW
  gl n cs hn := (h.gl n cs hn).ext hE
  fr b hb := by rw [hE.F]; exact h.fr b (Nat.le_trans hE.size hb)

structure TabOK (P : Program) (T : Tab) : Prop where
  meth : ∀ (t : TypeId) (m : String) (f : FuncId), T.meth t m = some (f, none) → ∀ (v : Value) (w : World), (method (P.types.size + Made.depth) t v m).run P w = .ok (f, v) w ∧
    (nilAhead (P.types.size + Made.depth) t v m).run P w = .ok (some false) w
  methAt : ∀ (t : TypeId) (m : String) (f : FuncId) (k : Nat), T.meth t m = some (f, some k) → ∀ (v : Value) (w : World), (method (P.types.size + Made.depth) t (.agg #[v]) m).run P w = .ok (f, v) w
  via : ∀ (fv : Fn) (f : FuncId), T.via fv = some f → ∀ (x : Value) (r captured : Array Value) (w : World), (invoke (.fn fv captured) (#[x] ++ r)).run P w = (callFunc f (#[x] ++ r)).run P w
  eqt : ∀ (t : TypeId) (q : EqT), T.eqt t = some q → (∃ i, P.info? t = some i ∧ i.comparable = true) ∧ eqtO P 9 t = some q
  impl : ∀ (t u : TypeId) (b : Bool), T.impl t u = some b → ∃ ms i, P.underlying t = some (.interface ms) ∧ P.info? u = some i ∧ (Instr.missingMethod ms i.methods).isNone = b

/-! ### tables -/
theorem run_size {P : Program} {t : TypeId} {s : Nat} (h : sizeO P t = some s) (w : World) : (sizeOf t).run P w = .ok s w := by
  unfold sizeO at h
  cases hi : P.info? t with
  | none => rw [hi] at h; cases h
  | some i => rw [hi] at h; simp at h; simp [sizeOf, typeInfo, hi, h]

theorem run_zero {P : Program} {t : TypeId} {z : Value} (h : (P.info? t).bind (·.zero) = some z) (w : World) : (zeroValue t).run P w = .ok z w := by
  cases hi : P.info? t with
  | none => rw [hi] at h; cases h
  | some i => rw [hi] at h; simp at h; simp [zeroValue, typeInfo, hi, h]

theorem run_agg {P : Program} {t : TypeId} {n : Option Nat} (h : aggO P t = some n) (w : World) : (isAgg t).run P w = .ok n.isSome w ∧ (∀ k, n = some k → sizeO P t = some k) := by
  unfold aggO at h
  cases hu : P.underlying t with
  | none => rw [hu] at h; cases h
  | some d =>
    rw [hu] at h
    cases d <;> simp only at h <;> first
      | (cases h; exact ⟨by simp [isAgg, run_underlying hu], fun k hk => by cases hk⟩)
      | (cases hs : sizeO P t with
         | none => rw [hs] at h; cases h
         | some k => rw [hs] at h; simp at h; subst h; exact ⟨by simp [isAgg, run_underlying hu], fun j hj => by cases hj; rfl⟩)

/-! ### constants and operands -/
theorem ofC_ok {c : Cx} {v : Value} {a : AV} (h : ofC v = some a) : VR c a v := by
  unfold ofC at h
  split at h <;> first | (cases h; done) | (cases h; first | exact .bool _ | exact .int _ _ | exact .cst _ | exact .str _ )

theorem mapOpt_len {α β : Type} {f : α → Option β} : ∀ {l : List α} {r : List β}, mapOpt f l = some r → r.length = l.length ∧ ∀ (k : Nat) (a : α), l[k]? = some a → ∃ b, r[k]? = some b ∧ f a = some b
  | [], r, h => by cases h; exact ⟨rfl, fun k a hk => by simp at hk⟩
  | x :: l, r, h => by
    unfold mapOpt at h
    cases hx : f x with
    | none => rw [hx] at h; cases h
    | some y =>
      rw [hx] at h
      simp only at h
      cases hl : mapOpt f l with
      | none => rw [hl] at h; cases h
      | some ys =>
        rw [hl] at h
        cases h
        obtain ⟨h1, h2⟩ := mapOpt_len hl
        refine ⟨by simp [h1], fun k a hk => ?_⟩
        cases k with
        | zero => simp at hk; subst hk; exact ⟨y, rfl, hx⟩
        | succ k => simp at hk; simpa using h2 k a hk

theorem mapOpt_rel {α : Type} {c : Cx} {f : α → Option AV} {g : α → Value} (hf : ∀ x a, f x = some a → VR c a (g x)) {l : List α} {r : List AV} (h : mapOpt f l = some r) : VRs c r (l.map g) := by
  obtain ⟨h1, h2⟩ := mapOpt_len h
  refine ⟨by simp [h1], fun k a v hk hv => ?_⟩
  rw [List.getElem?_map] at hv
  cases hx : l[k]? with
  | none => rw [hx] at hv; cases hv
  | some x =>
    rw [hx] at hv
    simp at hv
    obtain ⟨b, hb, hfb⟩ := h2 k x hx
    rw [hk] at hb; cases hb
    subst hv; exact hf x _ hfb

theorem ofV_ok {c : Cx} {v : Value} {a : AV} (h : ofV v = some a) : VR c a v := by
  unfold ofV at h
  split at h
  · rename_i cs
    cases hm : mapOpt ofC cs.toList with
    | none => rw [hm] at h; cases h
    | some l =>
      rw [hm] at h
      cases h
      have := mapOpt_rel (c := c) (g := id) (fun x a hx => ofC_ok hx) hm
      simp at this
      exact .agg _ _ (by have := this.len; simpa using this) (fun k a v h1 h2 => this.rel k a v h1 (by simpa using h2))
  · exact ofC_ok h

theorem cells_ok {c : Cx} {a : AV} {v : Value} (h : VR c a v) (ha : a.cells.all AV.isCell = true) : VRs c a.cells v.cells.toList ∧ ∀ x ∈ v.cells.toList, x.oneCell' = true := by
  have key : ∀ (a : AV) (v : Value), VR c a v → a.isCell = true → v.oneCell' = true := by
    intro a v h ha
    cases h <;> first | rfl | (simp [AV.isCell] at ha; done) | skip
    rename_i v
    cases v <;> first | rfl | (simp [AV.isCell] at ha)
  have all : ∀ (l : List AV) (l' : List Value), VRs c l l' → l.all AV.isCell = true → ∀ x ∈ l', x.oneCell' = true := by
    intro l l' hl ha x hx
    obtain ⟨k, hk, rfl⟩ := List.getElem_of_mem hx
    have hkl : k < l.length := by rw [hl.len]; exact hk
    exact key l[k] _ (hl.rel k _ _ (List.getElem?_eq_getElem hkl) (List.getElem?_eq_getElem hk)) (by
      rw [List.all_eq_true] at ha; exact ha _ (List.getElem_mem hkl))
  have one : ∀ (a : AV) (v : Value), VR c a v → a.cells = [a] → v.cells = #[v] → a.cells.all AV.isCell = true → VRs c a.cells v.cells.toList ∧ ∀ x ∈ v.cells.toList, x.oneCell' = true := by
    intro a v h e e' ha
    rw [e, e'] at *
    have hl : VRs c [a] [v] := .cons h (.nil c)
    exact ⟨hl, all _ _ hl ha⟩
  cases h with
  | agg x x' hx hx' =>
    have hl : VRs c x x'.toList := ⟨by simp [hx], fun k a v h1 h2 => hx' k a v h1 (by simpa using h2)⟩
    exact ⟨hl, all _ _ hl ha⟩
  | cst v =>
    cases v with
    | agg cs => simp [AV.cells, AV.isCell] at ha
    | _ => exact one _ _ (.cst _) rfl rfl ha
  | unk y => simp [AV.cells, AV.isCell] at ha
  | tup x x' hx hx' => simp [AV.cells, AV.isCell] at ha
  | bool b => exact one _ _ (.bool b) rfl rfl ha
  | int k n => exact one _ _ (.int k n) rfl rfl ha
  | str s => exact one _ _ (.str s) rfl rfl ha
  | ptr i off g o a h hg h2 => exact one _ _ (.ptr i off g o a h hg h2) rfl rfl ha
  | ep cells vs b o hl hr hp hc => exact one _ _ (.ep cells vs b o hl hr hp hc) rfl rfl ha
  | sl full n e cells vs b o cap sp hsp hn hf he hl hr hp hc => exact one _ _ (.sl full n e cells vs b o cap sp hsp hn hf he hl hr hp hc) rfl rfl ha
  | ms i off n e g o a cap h hg hn hs h2 hroom => exact one _ _ (.ms i off n e g o a cap h hg hn hs h2 hroom) rfl rfl ha
  | fn f x y x' y' hx hx' hy hy' => exact one _ _ (.fn f x y x' y' hx hx' hy hy') rfl rfl ha
  | iface t x y h => exact one _ _ (.iface t x y h) rfl rfl ha

def EnvR (c : Cx) (e : Env) (tmps : Array Value) : Prop := ∀ t, VR c (e.get t) (tmps.getD t undef)

theorem EnvR.ext {c c' : Cx} {e : Env} {tmps : Array Value} (h : EnvR c e tmps) (hE : Ext c c') : EnvR c' e tmps := fun t => (h t).ext hE

theorem opd_ok {T : Tab} {c : Cx} (hc : OK T c) {e : Env} {a : Act} (he : EnvR c e a.tmps) {x : Operand} {x' : Opd} (h : trOpd x = some x') : VR c (ev T e x') (a.eval x) := by
  cases x with
  | tmp t => cases h; exact he t
  | const v =>
    simp only [trOpd] at h
    cases hv : ofV v with
    | none => rw [hv] at h; cases h
    | some k => rw [hv] at h; cases h; exact ofV_ok hv
  | global g =>
    cases h
    simp only [ev, Act.eval]
    split
    · rename_i cs hg; exact hc.gl g cs hg
    · exact .unk _
  | func f => cases h; exact .fn _ _ _ _ _ rfl (fun k a v h => by simp at h) rfl (fun k a v h => by simp at h)

theorem opds_ok {T : Tab} {c : Cx} (hc : OK T c) {e : Env} {a : Act} (he : EnvR c e a.tmps) {x : Array Operand} {x' : List Opd} (h : mapOpt trOpd x.toList = some x') : VRs c (x'.map (ev T e)) (x.map a.eval).toList := by
  obtain ⟨h1, h2⟩ := mapOpt_len h
  refine ⟨by simp [h1], fun k b v hk hv => ?_⟩
  rw [List.getElem?_map] at hk
  simp only [Array.toList_map, List.getElem?_map] at hv
  cases hx : x.toList[k]? with
  | none => rw [hx] at hv; cases hv
  | some y =>
    rw [hx] at hv
    obtain ⟨y', hy', hf⟩ := h2 k y hx
    rw [hy'] at hk
    cases hk; cases hv
    exact opd_ok hc he hf

/-! ### cells behind an address -/
theorem add_none (b o k : Nat) : (⟨b, o, none⟩ : Addr).add k = ⟨b, o + k, none⟩ := by unfold Addr.add; split <;> simp_all

theorem hget_some {H : Heap} {i off n g : Nat} {cs : List AV} (h : hget H i off n g = some cs) : ∃ o, H[i]? = some o ∧ g = o.gen ∧ off + n ≤ o.cells.length ∧ cs = (o.cells.drop off).take n := by
  unfold hget at h
  split at h
  · rename_i o ho
    split at h
    · rename_i hc; cases h; exact ⟨o, ho, hc.1, hc.2, rfl⟩
    · cases h
  · cases h

/-- The cells of a row, as values. -/
theorem row_cells {c : Cx} (hW : WR c) {i off n g : Nat} {cs : List AV} (h : hget c.A i off n g = some cs) :
    cs.length = n ∧ ∃ vs : List Value, VRs c cs vs ∧ ∀ (k : Nat) (v : Value), vs[k]? = some v → c.w.cell? ⟨c.blk i, c.base i + off + k, none⟩ = some v := by
  obtain ⟨o, ho, hg, hn, rfl⟩ := hget_some h
  have hlen : ((o.cells.drop off).take n).length = n := by simp; omega
  refine ⟨hlen, ?_⟩
  refine ⟨(List.range n).map fun k => ((c.w.cell? (c.at i (off + k))).getD undef), ⟨by simp [hlen], fun k a v hk hv => ?_⟩, fun k v hv => ?_⟩
  · have hkn : k < n := by rw [← hlen]; exact (List.getElem?_eq_some_iff.1 hk).1
    rw [List.getElem?_take, if_pos hkn, List.getElem?_drop] at hk
    obtain ⟨u, hu, hr⟩ := hW.cell i o ho _ _ hk
    simp [hkn, hu] at hv
    subst hv; exact hr
  · have hkn : k < n := by
      rcases Nat.lt_or_ge k n with h1 | h1
      · exact h1
      · rw [List.getElem?_eq_none (by simp; omega)] at hv; cases hv
    have hk : o.cells[off + k]? = some o.cells[off + k] := List.getElem?_eq_getElem (by omega)
    obtain ⟨u, hu, hr⟩ := hW.cell i o ho _ _ hk
    simp [hkn, hu] at hv
    subst hv
    rw [← hu]; simp [Cx.at, Nat.add_assoc]

/-- What lies behind a pointer: 'n' cells. -/
def behind (H : Heap) (n : Nat) : AV → Option (List AV)
  | .ptr i off g => hget H i off n g
  | .ep cs => if n ≤ cs.length then some (cs.take n) else none
  | _ => none

theorem behind_ok {c : Cx} (hW : WR c) {n : Nat} {x : AV} {y : Value} (hv : VR c x y) {cs : List AV} (h : behind c.A n x = some cs) :
    cs.length = n ∧ ∃ (b o : Nat) (vs : List Value), y = .pointer (some ⟨b, o, none⟩) ∧ VRs c cs vs ∧ ∀ (k : Nat) (v : Value), vs[k]? = some v → c.w.cell? ⟨b, o + k, none⟩ = some v := by
  cases hv <;> simp only [behind] at h <;> try (cases h; done)
  · rename_i i off g o a h1 hg ha
    obtain ⟨hl, vs, h2, h3⟩ := row_cells hW h
    obtain ⟨o', ho', hg', _, _⟩ := hget_some h
    obtain rfl : o = o' := Option.some.inj (h1.symm.trans ho')
    refine ⟨hl, c.blk i, c.base i + off, vs, by rw [ha hg']; rfl, h2, h3⟩
  · rename_i cells vs b o hl hr hp hc
    split at h
    · rename_i hn
      cases h
      have hv : VRs c cells vs := ⟨hl, hr⟩
      refine ⟨by simp; omega, b, o, vs.take n, rfl, hv.take n, fun k v hk => ?_⟩
      rw [List.getElem?_take] at hk
      split at hk
      · exact hc k v hk
      · cases hk
    · cases h

theorem run_loadCells' {P : Program} {w : World} {b o : Nat} {vs : List Value} (h : ∀ (k : Nat) (v : Value), vs[k]? = some v → w.cell? ⟨b, o + k, none⟩ = some v) :
    (loadCells ⟨b, o, none⟩ vs.length).run P w = .ok vs.toArray w :=
  run_loadCells_list w _ vs (fun j v hj => by rw [add_none]; exact h j v hj)

theorem run_loadVar_one {P : Program} {w : World} {t : TypeId} (ht : aggO P t = some none) {b o : Nat} {v : Value} (h : w.cell? ⟨b, o, none⟩ = some v) :
    (loadVar t ⟨b, o, none⟩).run P w = .ok v w := by
  simp [loadVar, (run_agg ht w).1, h]
theorem run_loadVar_agg {P : Program} {w : World} {t : TypeId} {n : Nat} (ht : aggO P t = some (some n)) {b o : Nat} {vs : List Value} (hn : vs.length = n)
    (h : ∀ (k : Nat) (v : Value), vs[k]? = some v → w.cell? ⟨b, o + k, none⟩ = some v) :
    (loadVar t ⟨b, o, none⟩).run P w = .ok (.agg vs.toArray) w := by
  subst hn
  have := run_loadCells' (P := P) h
  simp [loadVar, (run_agg ht w).1, run_size ((run_agg ht w).2 _ rfl), this]
end Go.Eng

namespace Go.Eng
open Go

/-- A run that gives a value. -/
def DoesV (P : Program) (s : Sem Value) (c : Cx) (v : AV) (H' : Heap) : Prop :=
  ∃ (y : Value) (c' : Cx), s.run P c.w = .ok y c'.w ∧ Ext c c' ∧ WR c' ∧ c'.A = H' ∧ VR c' v y

theorem DoesV.same {P : Program} {c : Cx} (hW : WR c) {s : Sem Value} {v : AV} {y : Value} (hr : s.run P c.w = .ok y c.w) (h : VR c v y) : DoesV P s c v c.A :=
  ⟨y, c, hr, Ext.refl c, hW, rfl, h⟩

theorem DoesV.does {P : Program} {s : Sem Value} {c : Cx} {v : AV} {H' : Heap} (h : DoesV P s c v H') : Does P ((do pure (Next.value (← s)) : Sem Next).run P c.w) c v H' := by
  obtain ⟨y, c', hr, hE, hW, hA, hv⟩ := h
  subst hA
  exact Does.of hE hW (by simp [hr]) hv

def DoesU (P : Program) (s : Sem Unit) (c : Cx) (H' : Heap) : Prop := ∃ (c' : Cx), s.run P c.w = .ok () c'.w ∧ Ext c c' ∧ WR c' ∧ c'.A = H'

theorem DoesU.does {P : Program} {s : Sem Unit} {c : Cx} {H' : Heap} (h : DoesU P s c H') : Does P ((do s; pure Next.skip : Sem Next).run P c.w) c .und H' := by
  obtain ⟨c', hr, hE, hW, hA⟩ := h
  subst hA
  exact Does.skip hE hW (by simp [hr])

/-! ### new rows -/
theorem new_row {P : Program} {T : Tab} {c : Cx} (hc : OK T c) {cs : List AV} {vs : Array Value} (t : TypeId) (hcs : ∀ (k : Nat) (a : AV), cs[k]? = some a → ∃ v, vs[k]? = some v ∧ VR c a v) :
    ∃ c', (newRow t vs).run P c.w = .ok ⟨c.w.heap.size, 0, none⟩ c'.w ∧ Ext c c' ∧ WR c' ∧ c'.A = hnew c.A cs ∧ c'.blk c.A.length = c.w.heap.size ∧ c'.base c.A.length = 0 ∧
      c'.w.heap = c.w.heap.push (.cells vs t) := by
  have hn := new_ok hc.wr hc.fr (cs := cs) (vs := vs) (t := t) (fr := (0, 0)) (w' := { c.w with heap := c.w.heap.push (.cells vs t) }) rfl rfl rfl (fun k _ => by simp) (Nat.le_refl _) hcs
  exact ⟨c.new cs { c.w with heap := c.w.heap.push (.cells vs t) }, by simp [newRow, Cx.new], hn.1, hn.2, rfl, by simp [Cx.new], by simp [Cx.new], rfl⟩

theorem new_rowT {P : Program} {T : Tab} {c : Cx} (hc : OK T c) {kd : Kd} {cs : List AV} {vs : Array Value} (t : TypeId) (hkd : kd = .no ∨ kd = .typ t) (hcs : ∀ (k : Nat) (a : AV), cs[k]? = some a → ∃ v, vs[k]? = some v ∧ VR c a v) :
    ∃ c', (newRow t vs).run P c.w = .ok ⟨c.w.heap.size, 0, none⟩ c'.w ∧ Ext c c' ∧ WR c' ∧ c'.A = hnewK c.A kd cs ∧ c'.blk c.A.length = c.w.heap.size ∧ c'.base c.A.length = 0 ∧
      c'.w.heap = c.w.heap.push (.cells vs t) := by
  have hn := newT_ok hc.wr hc.fr (cs := cs) (vs := vs) (t := t) (fr := (0, 0)) (w' := { c.w with heap := c.w.heap.push (.cells vs t) }) hkd rfl rfl rfl (fun k _ => by simp) (Nat.le_refl _) hcs
  exact ⟨c.newK kd cs { c.w with heap := c.w.heap.push (.cells vs t) }, by simp [newRow, Cx.newK], hn.1, hn.2, rfl, by simp [Cx.newK], by simp [Cx.newK], rfl⟩

theorem ptr_newK {c' : Cx} {A : Heap} {kd : Kd} {cs : List AV} {b : Nat} (hA : c'.A = hnewK A kd cs) (hb : c'.blk A.length = b) (hp : c'.base A.length = 0) : VR c' (.ptr A.length 0 0) (.pointer (some ⟨b, 0, none⟩)) :=
  .ptr _ _ _ ⟨cs, 0, true, kd⟩ _ (by rw [hA]; exact hnewK_new _ _ _) (Nat.le_refl _) fun _ => by simp [Cx.at, hb, hp]
theorem ptr_new {c' : Cx} {A : Heap} {cs : List AV} {b : Nat} (hA : c'.A = hnew A cs) (hb : c'.blk A.length = b) (hp : c'.base A.length = 0) : VR c' (.ptr A.length 0 0) (.pointer (some ⟨b, 0, none⟩)) :=
  .ptr _ _ _ ⟨cs, 0, true, .no⟩ _ (by rw [hA]; exact hnew_new _ _) (Nat.le_refl _) fun _ => by simp [Cx.at, hb, hp]

theorem VRs.find {c : Cx} {x : List AV} {x' : Array Value} (h : VRs c x x'.toList) : ∀ (k : Nat) (a : AV), x[k]? = some a → ∃ v, x'[k]? = some v ∧ VR c a v := fun k a hk => by
  obtain ⟨v, h1, h2⟩ := h.get hk
  exact ⟨v, by simpa using h1, h2⟩

theorem kindOf_or (P : Program) (t : TypeId) : kindOf P t = .no ∨ kindOf P t = .typ t := by
  unfold kindOf
  split
  · split
    · exact .inr rfl
    · exact .inl rfl
  · exact .inl rfl
theorem alloc_ok {P : Program} {T : Tab} {c : Cx} (hc : OK T c) {t : TypeId} {z : List AV} (hz : zeroO P t = some z) : DoesV P (Instr.alloc t true (.tuple #[])) c (.ptr c.A.length 0 0) (hnewK c.A (kindOf P t) z) := by
  unfold zeroO at hz
  split at hz
  · rename_i zv hzv
    obtain ⟨c', h1, h2, h3, h4, h5, h6, _⟩ := new_rowT (P := P) hc (kd := kindOf P t) (cs := z) (vs := zv.cells) t (kindOf_or P t) (VRs.find (by simpa using mapOpt_rel (c := c) (g := id) (fun x a hx => ofC_ok hx) hz))
    exact ⟨_, c', by simp [Instr.alloc, run_zero hzv, newVar, h1], h2, h3, h4, ptr_newK h4 h5 h6⟩
  · cases hz

theorem box_ok {P : Program} {T : Tab} {c : Cx} (hc : OK T c) {t : TypeId} {x : AV} {y : Value} (hx : VR c x y) (ha : x.cells.all AV.isCell = true) : DoesV P (Instr.box t y) c (.ptr c.A.length 0 0) (hnew c.A x.cells) := by
  obtain ⟨h, _⟩ := cells_ok hx ha
  obtain ⟨c', h1, h2, h3, h4, h5, h6, _⟩ := new_row (P := P) hc (cs := x.cells) (vs := y.cells) t (VRs.find h)
  exact ⟨_, c', by simp [Instr.box, newVar, h1], h2, h3, h4, ptr_new h4 h5 h6⟩

/-! ### loads and stores -/
theorem load_one_ok {P : Program} {T : Tab} {c : Cx} (hc : OK T c) {t : TypeId} (ht : aggO P t = some none) {x : AV} {y : Value} (hx : VR c x y) {v : AV} (h : behind c.A 1 x = some [v]) : DoesV P (Instr.loadAt t y) c v c.A := by
  obtain ⟨_, b, o, vs, rfl, h2, h3⟩ := behind_ok hc.wr hx h
  obtain ⟨u, x', rfl, h4, h5⟩ := h2.uncons
  have h0 : c.w.cell? ⟨b, o, none⟩ = some u := by simpa using h3 0 u rfl
  exact .same hc.wr (y := u) (by simp [Instr.loadAt, Instr.sureAddr, run_loadVar_one ht h0]) h4

theorem load_agg_ok {P : Program} {T : Tab} {c : Cx} (hc : OK T c) {t : TypeId} {n : Nat} (ht : aggO P t = some (some n)) {x : AV} {y : Value} (hx : VR c x y) {cs : List AV} (h : behind c.A n x = some cs) : DoesV P (Instr.loadAt t y) c (.agg cs) c.A := by
  obtain ⟨hl, b, o, vs, rfl, h2, h3⟩ := behind_ok hc.wr hx h
  exact .same hc.wr (y := .agg vs.toArray) (by simp [Instr.loadAt, Instr.sureAddr, run_loadVar_agg ht (h2.len.symm.trans hl) h3]) (.agg _ _ (by simp [h2.len]) (fun k a v h1 h2' => h2.rel k a v h1 (by simpa using h2')))

theorem splice_get {cs vs : List AV} {off k : Nat} (h : off + vs.length ≤ cs.length) : (splice cs off vs)[k]? = if off ≤ k ∧ k < off + vs.length then vs[k - off]? else cs[k]? := by
  unfold splice
  rw [List.append_assoc]
  rcases Nat.lt_or_ge k off with h1 | h1
  · rw [List.getElem?_append_left (by simp; omega), if_neg (by omega), List.getElem?_take, if_pos h1]
  · rw [List.getElem?_append_right (by simp; omega)]
    simp only [List.length_take, Nat.min_eq_left (show off ≤ cs.length by omega)]
    rcases Nat.lt_or_ge (k - off) vs.length with h2 | h2
    · rw [List.getElem?_append_left h2, if_pos (by omega)]
    · rw [List.getElem?_append_right h2, if_neg (by omega), List.getElem?_drop]
      congr 1; omega
theorem splice_len {cs vs : List AV} {off : Nat} (h : off + vs.length ≤ cs.length) : (splice cs off vs).length = cs.length := by
  unfold splice; simp; omega

theorem hset_some {H H' : Heap} {i off g : Nat} {vs : List AV} (h : hset H i off g vs = some H') : ∃ o, H[i]? = some o ∧ g = o.gen ∧ o.live = true ∧ off + vs.length ≤ o.cells.length ∧ H' = H.set i { o with cells := splice o.cells off vs } := by
  unfold hset at h
  split at h
  · rename_i o ho
    split at h
    · rename_i hc; cases h; exact ⟨o, ho, hc.1, hc.2.1, hc.2.2, rfl⟩
    · cases h
  · cases h

/-- Cells written into a row. -/
theorem write_row {P : Program} {T : Tab} {c : Cx} (hc : OK T c) {i off g : Nat} {xs : List AV} {ys : List Value} (hxy : VRs c xs ys) (h1 : ∀ v ∈ ys, v.oneCell' = true) {H' : Heap} (h : hset c.A i off g xs = some H') :
    ∃ c', (storeCells (c.at i off) ys).run P c.w = .ok () c'.w ∧ Ext c c' ∧ WR c' ∧ c'.A = H' := by
  obtain ⟨o, ho, hg, hl, hn, rfl⟩ := hset_some h
  have hcell : ∀ j, j < o.cells.length → (c.w.cell? ⟨c.blk i, c.base i + j, none⟩).isSome = true := fun j hj => by
    obtain ⟨v, hv, _⟩ := hc.wr.cell i o ho j _ (List.getElem?_eq_getElem hj)
    rw [show (⟨c.blk i, c.base i + j, none⟩ : Addr) = c.at i j from rfl, hv]; rfl
  have hlen := hxy.len
  have hc' : ∀ j, j < ys.length → (c.w.cell? ⟨c.blk i, c.base i + off + j, none⟩).isSome = true := fun j hj => by
    rw [Nat.add_assoc]; exact hcell _ (by omega)
  have hrun := run_storeCells_cells (P := P) (c.blk i) (c.base i + off) ys 0 c.w (fun j hj => by simpa using hc' j hj)
    (fun j hj => by have := hc.wr.soft i o ho hl _ (hc' j hj); simpa using this) h1
  have hre := re_ok hc.wr ho (b := c.blk i) (p := c.base i) (o' := { o with cells := splice o.cells off xs }) (w' := c.w.setCells (c.blk i) (c.base i + off) ys)
    (fun h => h) (Nat.le_refl _) (fun _ => ⟨rfl, rfl⟩) (.inl rfl) (Nat.le_of_eq (setCells_size _ _ _ _).symm) (by rw [setCells_size]; exact hc.wr.lt i o ho)
    (fun j _ hj => setCells_heap _ _ _ _ _ (by rcases hj with h | h; exact h; rw [hl] at h; cases h)) (fun a ha => setCells_room _ _ _ _ _ ha)
    (setCells_os _ _ _ _).1 (setCells_os _ _ _ _).2
    (fun _ k hk => by rw [World.frozen?_setCells]; exact hc.wr.soft i o ho hl k (setCells_room' _ _ _ _ _ hk)) (fun _ => setCells_flat _ _ _ _ _ (hc.wr.flat i o ho hl)) (fun _ => (hc.wr.kind i o ho hl).setCells _ _)
    (fun k a hk => by
      simp only at hk
      rw [splice_get hn] at hk
      split at hk
      · rename_i hr
        obtain ⟨v, hv, hvr⟩ := hxy.get hk
        refine ⟨v, ?_, hvr⟩
        have := World.cell?_setCells_in (c.blk i) ys (c.base i + off) c.w hc' (k - off) (by omega)
        rw [show c.base i + off + (k - off) = c.base i + k by omega] at this
        rw [this, ← hv, List.getElem?_eq_getElem]
      · rename_i hr
        obtain ⟨v, hv, hvr⟩ := hc.wr.cell i o ho k a hk
        refine ⟨v, ?_, hvr⟩
        rw [World.cell?_setCells_out _ _ _ _ _ (fun _ _ => by simp only; omega)]
        exact hv)
  refine ⟨c.re i (c.blk i) (c.base i) { o with cells := splice o.cells off xs } (c.w.setCells (c.blk i) (c.base i + off) ys), ?_, hre.1, hre.2, rfl⟩
  simpa [Cx.re, Cx.at] using hrun

theorem store_ok {P : Program} {T : Tab} {c : Cx} (hc : OK T c) {t : TypeId} {n : Nat} (ht : sizeO P t = some n) {i off g : Nat} {y : Value} (hy : VR c (.ptr i off g) y) {x : AV} {z : Value} (hx : VR c x z)
    (hn : x.cells.length = n) (ha : x.cells.all AV.isCell = true) {H' : Heap} (h : hset c.A i off g x.cells = some H') : DoesU P (Instr.storeAt t y z) c H' := by
  obtain ⟨hcs, hone⟩ := cells_ok hx ha
  obtain ⟨c', hr, hE, hW, hA⟩ := write_row (P := P) hc hcs hone h
  obtain ⟨o, ho, hg, _⟩ := hset_some h
  cases hy with
  | ptr i off g o' a h1 h2 h3 =>
    obtain rfl : o' = o := Option.some.inj (h1.symm.trans ho)
    obtain rfl := h3 hg
    refine ⟨c', ?_, hE, hW, hA⟩
    have hsz : z.cells.size = n := by rw [← hn]; have := hcs.len; simp at this; omega
    simp [Instr.storeAt, Instr.sureAddr, storeVar, run_size ht, hsz, hr]

/-! ### numbers -/
def toV : AV → Value
  | .int k n => .int k n
  | .bool b => .bool b
  | .str s => .string ⟨s.toArray⟩
  | _ => undef

theorem intBin_ok {P : Program} {c : Cx} {op : BinOp} {k : IntKind} {x y : Int} {v : AV} (h : intBin op k x y = some v) (hs : op ≠ .shl) (hs' : op ≠ .shr) (t : TypeId) :
    (binOp op t (.int k x) (.int k y)).run P c.w = .ok (toV v) c.w ∧ VR c v (toV v) := by
  cases op <;> simp only [intBin] at h <;> first
    | exact absurd rfl hs
    | exact absurd rfl hs'
    | (split at h
       · cases h
       · rename_i hy; cases h; exact ⟨by simp [binOp, Op.intDiv, hy, toV], .int _ _⟩)
    | (cases h; exact ⟨by simp [binOp, Op.intArith, Op.intBits, Op.intCmp, toV], by first | exact .int _ _ | exact .bool _⟩)

theorem shift_ok {P : Program} {c : Cx} {op : BinOp} (hop : op = .shl ∨ op = .shr) {k k' : IntKind} {x y : Int} {v : AV} (h : shiftOp op k x y = some v) (t : TypeId) :
    (binOp op t (.int k x) (.int k' y)).run P c.w = .ok (toV v) c.w ∧ VR c v (toV v) := by
  unfold shiftOp at h
  split at h
  · cases h
  · rename_i hy
    rcases hop with rfl | rfl <;> (cases h; exact ⟨by simp [binOp, Op.shift, hy, toV], .int _ _⟩)

theorem bytes_toList (l : List UInt8) : (ByteArray.mk l.toArray).toList = l := by rw [ByteArray.toList_eq]
theorem bytes_size (l : List UInt8) : (ByteArray.mk l.toArray).size = l.length := by simp [ByteArray.size]

theorem strBin_ok {P : Program} {c : Cx} {op : BinOp} {x y : List UInt8} {v : AV} (h : strBin op x y = some v) (t : TypeId) :
    (binOp op t (.string ⟨x.toArray⟩) (.string ⟨y.toArray⟩)).run P c.w = .ok (toV v) c.w ∧ VR c v (toV v) := by
  cases op with
  | add =>
    simp only [strBin] at h
    split at h
    · rename_i hn
      cases h
      refine ⟨?_, .str _⟩
      have h0 : ¬ (((ByteArray.mk x.toArray).size + (ByteArray.mk y.toArray).size : Nat) : Int) > IntKind.i64.max := by
        rw [bytes_size, bytes_size]
        unfold LIM at hn
        have : IntKind.i64.max = 9223372036854775807 := by decide
        rw [this]; omega
      simp only [binOp, Op.stringOp]
      rw [if_neg h0]
      simp only [Sem.run_pure, toV]
      congr 2
    · cases h
  | _ => simp only [strBin] at h <;> first | (cases h; done) | (cases h; exact ⟨by simp [binOp, Op.stringOp, toV], .bool _⟩)
end Go.Eng

namespace Go.Eng
open Go

theorem part_one_ok {P : Program} {c : Cx} {t : TypeId} (ht : aggO P t = some none) {cs : List AV} {vs : Array Value} (h : VRs c cs vs.toList) {off : Nat} {a : AV} (ha : cs[off]? = some a) :
    ∃ v, (part t vs off).run P c.w = .ok v c.w ∧ VR c a v := by
  obtain ⟨v, h1, h2⟩ := VRs.find h off a ha
  exact ⟨v, by simp [part, (run_agg ht c.w).1, h1], h2⟩

theorem part_agg_ok {P : Program} {c : Cx} {t : TypeId} {n : Nat} (ht : aggO P t = some (some n)) {cs : List AV} {vs : Array Value} (h : VRs c cs vs.toList) {off : Nat} (hn : off + n ≤ cs.length) :
    ∃ v, (part t vs off).run P c.w = .ok v c.w ∧ VR c (.agg ((cs.drop off).take n)) v := by
  refine ⟨.agg (vs.extract off (off + n)), by simp [part, (run_agg ht c.w).1, run_size ((run_agg ht c.w).2 _ rfl)], ?_⟩
  have hl := h.len
  simp at hl
  refine .agg _ _ (by simp; omega) (fun k a v h1 h2 => ?_)
  rw [List.getElem?_take] at h1
  split at h1
  · rename_i hk
    rw [List.getElem?_drop] at h1
    have hlt : off + k < vs.size := by rw [← hl]; exact (List.getElem?_eq_some_iff.1 h1).1
    refine h.rel _ a v h1 ?_
    rw [Array.getElem?_extract] at h2
    rw [if_pos (by omega)] at h2
    simpa using h2
  · cases h1

theorem partA_ok {P : Program} {c : Cx} {t : TypeId} {n : Option Nat} (ht : aggO P t = some n) {cs : List AV} {vs : Array Value} (h : VRs c cs vs.toList) {off : Nat} {a : AV} (ha : partA cs off n = some a) :
    ∃ v, (part t vs off).run P c.w = .ok v c.w ∧ VR c a v := by
  cases n with
  | none => exact part_one_ok ht h ha
  | some n =>
    simp only [partA] at ha
    split at ha
    · rename_i hn; cases ha; exact part_agg_ok ht h hn
    · cases ha

theorem VR.agg_inv {c : Cx} {x : List AV} {y : Value} (h : VR c (.agg x) y) : ∃ x' : Array Value, y = .agg x' ∧ VRs c x x'.toList := by
  cases h with
  | agg x x' hx hx' => exact ⟨x', rfl, by simpa using hx, fun k a v h1 h2 => hx' k a v h1 (by simpa using h2)⟩
theorem VR.tup_inv {c : Cx} {x : List AV} {y : Value} (h : VR c (.tup x) y) : ∃ x' : Array Value, y = .tuple x' ∧ VRs c x x'.toList := by
  cases h with
  | tup x x' hx hx' => exact ⟨x', rfl, by simpa using hx, fun k a v h1 h2 => hx' k a v h1 (by simpa using h2)⟩
theorem VRs.tup {c : Cx} {x : List AV} {y : List Value} (h : VRs c x y) : VR c (.tup x) (.tuple y.toArray) :=
  .tup _ _ (by simp [h.len]) fun k a v h1 h2 => h.rel k a v h1 (by simpa using h2)
theorem VRs.agg {c : Cx} {x : List AV} {y : List Value} (h : VRs c x y) : VR c (.agg x) (.agg y.toArray) :=
  .agg _ _ (by simp [h.len]) fun k a v h1 h2 => h.rel k a v h1 (by simpa using h2)

/-! ### equality -/
/-- '==' goes by Op.equal. -/
def Plain (x y : Value) : Prop := ∀ t, binOp .eql t x y = (do pure (.bool (← Op.equal t x y))) ∧ binOp .neq t x y = (do pure (.bool (!(← Op.equal t x y))))

def AV.num : AV → AV → Bool
  | .int _ _, .int _ _ => true
  | .str _, .str _ => true
  | _, _ => false

theorem eqtO_struct {P : Program} {k : Nat} {t : TypeId} {fs' : List (Nat × EqT)} (h : eqtO P k t = some (.struct fs')) :
    ∃ fs k', k = k' + 1 ∧ P.underlying t = some (.struct fs) ∧ P.stoodInHeld t = false ∧ mapOpt (eqField P (eqtO P k')) fs.toList = some fs' := by
  cases k with
  | zero => cases h
  | succ k =>
    unfold eqtO at h
    split at h <;> first | (cases h; done) | skip
    · split at h <;> cases h
    rename_i fs hu
    split at h
    · cases h
    · rename_i hs
      cases hm : mapOpt (eqField P (eqtO P k)) fs.toList with
      | none => rw [hm] at h; cases h
      | some l => rw [hm] at h; cases h; exact ⟨fs, k, rfl, hu, by simpa using hs, hm⟩

theorem eqtO_plain {P : Program} {k : Nat} {t : TypeId} {q : EqT} (h : eqtO P k t = some q) :
    match q with
    | .bool => P.underlying t = some .bool
    | .int => ∃ k, P.underlying t = some (.int k)
    | .str => P.underlying t = some .string
    | .iface => ∃ ms, P.underlying t = some (.interface ms)
    | .nsl => ∃ e, P.underlying t = some (.slice e)
    | .nfn => ∃ a b d, P.underlying t = some (.func a b d)
    | .nptr => ∃ e, P.underlying t = some (.pointer e)
    | .struct _ => True := by
  cases k with
  | zero => cases h
  | succ k =>
    unfold eqtO at h
    split at h <;> first
      | (cases h; done)
      | (cases h; rename_i hu; first | exact hu | exact ⟨_, hu⟩ | exact ⟨_, _, _, hu⟩)
      | skip
    · rename_i hu
      split at h
      · cases h
        exact ⟨_, hu⟩
      · cases h
    · split at h
      · cases h
      · simp only [Option.map_eq_some_iff] at h
        obtain ⟨l, _, rfl⟩ := h
        trivial

theorem eqtO_nptr {P : Program} {k : Nat} {t : TypeId} (h : eqtO P k t = some .nptr) : ∃ e j, P.underlying t = some (.pointer e) ∧ P.info? e = some j := by
  cases k with
  | zero => cases h
  | succ k =>
    unfold eqtO at h
    split at h <;> first | (cases h; done) | skip
    · rename_i hu
      split at h
      · rename_i j hj
        exact ⟨_, j, hu, hj⟩
      · cases h
    · split at h
      · cases h
      · simp only [Option.map_eq_some_iff] at h
        obtain ⟨l, _, hl⟩ := h
        cases hl

theorem beq_bytes (a b : List UInt8) : (ByteArray.mk a.toArray == ByteArray.mk b.toArray) = (a == b) := by
  rw [beq_toListBytes, bytes_toList, bytes_toList]

theorem aeq_ok {P : Program} {T : Tab} (hT : TabOK P T) {c : Cx} : ∀ (f : Nat) (q : EqT) (cn : Bool) (x y : AV) (r : Bool), aeq T f q cn x y = some r → ∀ (t : TypeId) (k : Nat), eqtO P k t = some q → ∀ d, f ≤ d → ∀ x' y', VR c x x' → VR c y y' →
    (Op.equalIn d t x' y').run P c.w = .ok r c.w ∧ (AV.num x y = false → Plain x' y') := by
  intro f
  induction f with
  | zero => intro q cn x y r h; cases h
  | succ f ih =>
    intro q cn x y r h t k hq d hd x' y' hx hy
    obtain ⟨d, rfl⟩ : ∃ m, d = m + 1 := ⟨d - 1, by omega⟩
    have hu := eqtO_plain hq
    unfold aeq at h
    split at h
    · cases hx; cases hy; cases h; exact ⟨by simp [Op.equalIn, run_underlying hu], fun _ t => ⟨rfl, rfl⟩⟩
    · cases hx; cases hy
      obtain ⟨kk, hu⟩ := hu
      split at h
      · rename_i e; subst e; cases h; exact ⟨by simp [Op.equalIn, run_underlying hu], fun hn => by simp [AV.num] at hn⟩
      · cases h
    · cases hx; cases hy; cases h; exact ⟨by simp [Op.equalIn, run_underlying hu, beq_bytes], fun hn => by simp [AV.num] at hn⟩
    · cases hx; cases hy
      obtain ⟨ms, hu⟩ := hu
      cases cn with
      | false => cases h
      | true => cases h; exact ⟨by simp [Op.equalIn, run_underlying hu], fun _ t => ⟨rfl, rfl⟩⟩
    · cases hx; cases hy; cases h
      obtain ⟨ms, hu⟩ := hu
      exact ⟨by simp [Op.equalIn, run_underlying hu], fun _ t => ⟨rfl, rfl⟩⟩
    · cases hx; cases hy; cases h
      obtain ⟨ms, hu⟩ := hu
      exact ⟨by simp [Op.equalIn, run_underlying hu], fun _ t => ⟨rfl, rfl⟩⟩
    · cases hx; cases hy
      rename_i y1 hx y2 hy
      obtain ⟨ms, hu⟩ := hu
      split at h
      · rename_i e; subst e
        split at h
        · rename_i q' hq'
          obtain ⟨⟨i, hi, hcmp⟩, he⟩ := hT.eqt _ _ hq'
          have := (ih _ _ _ _ _ h _ _ he d (by omega) _ _ hx hy).1
          exact ⟨by simp [Op.equalIn, run_underlying hu, typeInfo, hi, hcmp, this], fun _ t => ⟨rfl, rfl⟩⟩
        · cases h
      · rename_i e; cases h
        exact ⟨by simp [Op.equalIn, run_underlying hu, e], fun _ t => ⟨rfl, rfl⟩⟩
    all_goals try (cases hx; cases hy; cases h; obtain ⟨e1, e2, e3, hu⟩ := hu; refine ⟨?_, fun _ t => ⟨rfl, rfl⟩⟩; simp [Op.equalIn, run_underlying hu]; done)
    all_goals try (cases hx; cases hy; cases h; obtain ⟨e, hu⟩ := hu; refine ⟨?_, fun _ t => ⟨rfl, rfl⟩⟩; simp [Op.equalIn, run_underlying hu]; done)
    · rename_i fs' xs ys
      obtain ⟨xs', rfl, hxs⟩ := hx.agg_inv
      obtain ⟨ys', rfl, hys⟩ := hy.agg_inv
      clear hu
      obtain ⟨fs, k', rfl, hu, hst, hm⟩ := eqtO_struct hq
      refine ⟨?_, fun _ t => ⟨rfl, rfl⟩⟩
      have hfo : P.fieldsOf t = fs := by simp [Program.fieldsOf, hu]
      rw [run_equalIn_struct c.w d t xs' ys' (by rw [hfo]; exact hu) hst, hfo]
      generalize fs.toList = l at hm
      clear hq hfo hst hu
      induction l generalizing fs' r with
      | nil => cases hm; cases h; rfl
      | cons g l ihl =>
        unfold mapOpt at hm
        split at hm
        · rename_i p hp
          split at hm
          · rename_i ps hps
            cases hm
            unfold eqField at hp
            split at hp
            · cases hp
            · rename_i hname
              split at hp
              · rename_i hag
                cases hq' : eqtO P k' g.type with
                | none => rw [hq'] at hp; cases hp
                | some q' =>
                rw [hq'] at hp
                cases hp
                simp only [List.foldr_cons] at h
                split at h
                · rename_i x y hx1 hy1
                  obtain ⟨v, hv1, hv2⟩ := part_one_ok (P := P) hag hxs hx1
                  obtain ⟨u, hu1, hu2⟩ := part_one_ok (P := P) hag hys hy1
                  have hn : g.name ≠ "_" := by simpa using hname
                  split at h
                  · rename_i he
                    have := (ih _ _ _ _ _ he _ _ hq' d (by omega) _ _ hv2 hu2).1
                    simp only [Op.eqFields, hn, ne_eq, not_false_eq_true, if_true, Sem.run_bind, hv1, hu1, this, Result.andThen_ok, Bool.not_true, Bool.false_eq_true, if_false]
                    exact ihl _ _ h hps
                  · rename_i he
                    cases h
                    have := (ih _ _ _ _ _ he _ _ hq' d (by omega) _ _ hv2 hu2).1
                    simp [Op.eqFields, hn, hv1, hu1, this]
                  · cases h
                · cases h
              · cases hp
          · cases hm
        · cases hm
    · cases h
end Go.Eng

namespace Go.Eng
open Go

/-! ### bounds -/
theorem bnd_ok {P : Program} {c : Cx} {m m' : Nat} {x : AV} {y : Value} (hx : VR c x y) {i : Nat} (h : bnd m x = some i) (hm : m ≤ m') (code : BoundsCode) :
    (Instr.sliceBound y m' code).run P c.w = .ok i c.w ∧ i ≤ m := by
  unfold bnd at h
  split at h
  · split at h
    · rename_i k j hj
      cases h
      cases hx
      have : 0 ≤ j ∧ j ≤ (m' : Int) := ⟨hj.1, by omega⟩
      exact ⟨by simp [Instr.sliceBound, asIntOf, this], by omega⟩
    · cases h
  · cases h

inductive VRO (c : Cx) : Option AV → Option Value → Prop where
  | none : VRO c none none
  | some (a : AV) (v : Value) (h : VR c a v) : VRO c (some a) (some v)

/-- Bounds without a third index. -/
theorem bounds2_ok {P : Program} {c : Cx} {isSlice : Bool} {n cap : Nat} {lo hi : Option AV} {lo' hi' : Option Value} (hlo : VRO c lo lo') (hhi : VRO c hi hi') {h l : Nat} (hn : n ≤ cap)
    (h1 : bndO n n hi = some h) (h2 : bndO h 0 lo = some l) : (Instr.sliceBounds isSlice n cap lo' hi' none).run P c.w = .ok (l, h, cap) c.w ∧ l ≤ h ∧ h ≤ n := by
  cases hhi with
  | none =>
    simp only [bndO] at h1
    cases h1
    cases hlo with
    | none => simp only [bndO] at h2; cases h2; exact ⟨by simp [Instr.sliceBounds], by omega, by omega⟩
    | some a v hv =>
      simp only [bndO] at h2
      have := fun code => bnd_ok (P := P) hv h2 (Nat.le_refl _) code
      exact ⟨by simp [Instr.sliceBounds, (this _).1], (this .index).2, by omega⟩
  | some b u hu =>
    simp only [bndO] at h1
    have hb := fun code => bnd_ok (P := P) hu h1 hn code
    cases hlo with
    | none =>
      simp only [bndO] at h2; cases h2
      refine ⟨?_, by omega, (hb .index).2⟩
      cases isSlice <;> simp [Instr.sliceBounds, (hb _).1]
    | some a v hv =>
      simp only [bndO] at h2
      have ha := fun code => bnd_ok (P := P) hv h2 (Nat.le_refl _) code
      refine ⟨?_, (ha .index).2, (hb .index).2⟩
      cases isSlice <;> simp [Instr.sliceBounds, (hb _).1, (ha _).1]

/-- Bounds with a third index. -/
theorem bounds3_ok {P : Program} {c : Cx} {isSlice : Bool} {n cap : Nat} {lo hi : Option AV} {lo' hi' : Option Value} (hlo : VRO c lo lo') (hhi : VRO c hi hi') {mx : AV} {mx' : Value} (hmx : VR c mx mx') {h l m : Nat} (hn : n ≤ cap)
    (h0 : bnd n mx = some m) (h1 : bndR m hi = some h) (h2 : bndO h 0 lo = some l) : (Instr.sliceBounds isSlice n cap lo' hi' (some mx')).run P c.w = .ok (l, h, m) c.w ∧ l ≤ h ∧ h ≤ m ∧ m ≤ n := by
  have hm := fun code => bnd_ok (P := P) hmx h0 hn code
  cases hhi with
  | none => cases h1
  | some b u hu =>
    simp only [bndR] at h1
    have hb := fun code => bnd_ok (P := P) hu h1 (Nat.le_refl _) code
    cases hlo with
    | none =>
      simp only [bndO] at h2; cases h2
      refine ⟨?_, by omega, (hb .index).2, (hm .index).2⟩
      cases isSlice <;> simp [Instr.sliceBounds, (hb _).1, (hm _).1]
    | some a v hv =>
      simp only [bndO] at h2
      have ha := fun code => bnd_ok (P := P) hv h2 (Nat.le_refl _) code
      refine ⟨?_, (ha .index).2, (hb .index).2, (hm .index).2⟩
      cases isSlice <;> simp [Instr.sliceBounds, (hb _).1, (hm _).1, (ha _).1]

theorem extract_list (s : List UInt8) (l h : Nat) : (ByteArray.mk s.toArray).extract l h = ⟨((s.take h).drop l).toArray⟩ := by
  apply ByteArray.ext
  rw [ByteArray.data_extract]
  simp [List.extract_eq_take_drop, List.drop_take]

/-- What a slice's kind is, of its type. -/
def SlK (P : Program) (t : TypeId) (k : SlT) : Prop := match k with
  | .str => P.underlying t = some .string
  | .sl e => ∃ el, P.underlying t = some (.slice el) ∧ sizeO P el = some e
  | .arr n e => (∃ el, P.underlying t = some (.array n el) ∧ sizeO P el = some e) ∨ ∃ arr el, P.underlying t = some (.pointer arr) ∧ P.underlying arr = some (.array n el) ∧ sizeO P el = some e

theorem sl_sub {c : Cx} {full full' : Bool} {n e : Nat} {cells : List AV} {b o cap : Nat} {sp : Option Nat} (h : VR c (.sl full n e cells) (.slice (some ⟨b, o, sp⟩) n cap)) {l h' m : Nat} (hl : l ≤ h') (hh : h' ≤ n) (hm : h' ≤ m) (hf : full' = true → m = h') :
    VR c (.sl full' (h' - l) e ((cells.drop (l * e)).take ((h' - l) * e))) (.slice (some (if m = l then ⟨b, o, sp⟩ else (⟨b, o, sp⟩ : Addr).add (l * e))) (h' - l) (m - l)) := by
  cases h with
  | sl full n e cells vs b o cap sp hsp hn hf0 he hlen hr hp hc =>
    have hvs : VRs c cells vs := ⟨hlen, hr⟩
    by_cases hnil : cells = []
    · subst hnil
      simp only [List.length_nil] at he
      generalize (if m = l then (⟨b, o, sp⟩ : Addr) else (⟨b, o, sp⟩ : Addr).add (l * e)) = a'
      obtain ⟨b', o', sp'⟩ := a'
      have h0 : (h' - l) * e = 0 := by
        have : (h' - l) * e ≤ n * e := Nat.mul_le_mul_right _ (by omega)
        omega
      rw [List.drop_nil, List.take_nil]
      exact .sl _ _ _ _ [] b' o' _ _ (fun h => absurd rfl h) (by omega) (fun hx => by rw [hf hx]) (by rw [h0]; rfl) rfl (fun k a v h => by simp at h) (fun h => absurd rfl h) (fun k v h => by simp at h)
    obtain rfl := hsp hnil
    by_cases hml : m = l
    · have h0 : h' - l = 0 := by omega
      rw [if_pos hml, h0]
      simp only [Nat.zero_mul, List.take_zero]
      exact .sl _ _ _ _ [] b o _ _ (fun h => absurd rfl h) (by omega) (fun _ => by omega) (by simp) rfl (fun k a v h => by simp at h) (fun h => absurd rfl h) (fun k v h => by simp at h)
    · rw [if_neg hml, add_none]
      have hmul : l * e + (h' - l) * e ≤ n * e := by rw [← Nat.add_mul]; exact Nat.mul_le_mul_right _ (by omega)
      have hsub := (hvs.drop (l * e)).take ((h' - l) * e)
      refine .sl _ _ _ _ ((vs.drop (l * e)).take ((h' - l) * e)) b (o + l * e) _ none (fun _ => rfl) (by omega) (fun hx => by rw [hf hx]) (by simp; omega) hsub.len hsub.rel (fun hne => hp fun h0 => hne (by simp [h0])) (fun k v hk => ?_)
      rw [List.getElem?_take] at hk
      split at hk
      · rw [List.getElem?_drop] at hk
        rw [Nat.add_assoc]; exact hc _ v hk
      · cases hk

theorem ms_sub {c : Cx} {i off n e g : Nat} {a : Addr} {cap : Nat} (h : VR c (.ms i off n e g) (.slice (some a) n cap)) {l h' : Nat} (hl : l ≤ h') (hh : h' ≤ n) :
    VR c (.ms i (off + l * e) (h' - l) e g) (.slice (some (if cap = l then a else a.add (l * e))) (h' - l) (cap - l)) := by
  cases h with
  | ms i off n e g o a cap h1 hg hn hs ha hroom =>
    refine .ms _ _ _ _ _ o _ _ h1 hg (by omega) (by split; exact hs; unfold Addr.add; split <;> simp [hs]) (fun e1 hc => ?_) (fun e1 hc k hk => ?_)
    · rw [if_neg (by omega), ha e1 (by omega)]
      simp only [Cx.at]
      rw [add_none]; simp
    · refine hroom e1 (by omega) k ?_
      have : off + l * e + (cap - l) * e = off + cap * e := by rw [Nat.add_assoc, ← Nat.add_mul]; congr 2; omega
      omega

theorem slice_ok {P : Program} {T : Tab} {c : Cx} (hc : OK T c) {t : TypeId} {k : SlT} (hk : SlK P t k) {x : AV} {y : Value} (hx : VR c x y) {lo hi mx : Option AV} {lo' hi' mx' : Option Value} (hlo : VRO c lo lo') (hhi : VRO c hi hi') (hmx : VRO c mx mx')
    {v : AV} (h : aslice c.A k x lo hi mx = some v) : DoesV P (Instr.sliceAt t y lo' hi' mx') c v c.A := by
  unfold aslice at h
  split at h
  · -- a string
    rename_i s
    cases hx
    split at h
    · cases h
    · split at h
      · cases h
      · rename_i hh h1
        split at h
        · cases h
        · rename_i l h2
          cases h
          cases hmx
          have hb := (bounds2_ok (P := P) (isSlice := false) hlo hhi (Nat.le_refl _) h1 h2).1
          refine .same hc.wr (y := .string ((ByteArray.mk s.toArray).extract l hh)) ?_ ?_
          · simp only [Instr.sliceAt, Sem.run_bind, run_underlying hk, Result.andThen_ok, Instr.slice]
            rw [show (ByteArray.mk s.toArray).size = s.length from bytes_size s]
            simp [hb]
          · rw [extract_list]; exact .str _
  · -- a slice by value
    rename_i e full n e' cs
    split at h
    · rename_i he; subst he
      obtain ⟨el, hu, hs⟩ := hk
      cases hx with
      | sl full n e cells vs b o cap sp hsp hn hf0 he hlen hr hp hcc =>
        have hv : VR c (.sl full n e cs) (.slice (some ⟨b, o, sp⟩) n cap) := .sl full n e cs vs b o cap sp hsp hn hf0 he hlen hr hp hcc
        split at h
        · split at h
          · cases h
          · rename_i hh h1
            split at h
            · cases h
            · rename_i l h2
              cases h
              cases hmx
              obtain ⟨hb, b1, b2⟩ := bounds2_ok (P := P) (isSlice := true) hlo hhi hn h1 h2
              refine .same hc.wr (y := .slice (some (if cap = l then ⟨b, o, sp⟩ else (⟨b, o, sp⟩ : Addr).add (l * e))) (hh - l) (cap - l)) ?_ ?_
              · simp only [Instr.sliceAt, Sem.run_bind, run_underlying hu, Result.andThen_ok, Instr.slice, hb, run_size hs, Sem.run_pure]
                split <;> rfl
              · exact sl_sub hv b1 b2 (by omega) (fun hf => by
                  simp only [Bool.and_eq_true, beq_iff_eq] at hf
                  rw [hf0 hf.1, hf.2])
        · rename_i m
          split at h
          · cases h
          · rename_i m' h0
            split at h
            · cases h
            · rename_i hh h1
              split at h
              · cases h
              · rename_i l h2
                split at h
                · rename_i hle
                  cases h
                  cases hmx with
                  | some _ mv hmv =>
                    obtain ⟨hb, b1, b2, b3⟩ := bounds3_ok (P := P) (isSlice := true) hlo hhi hmv hn h0 h1 h2
                    refine .same hc.wr (y := .slice (some (if m' = l then ⟨b, o, sp⟩ else (⟨b, o, sp⟩ : Addr).add (l * e))) (hh - l) (m' - l)) ?_ ?_
                    · simp only [Instr.sliceAt, Sem.run_bind, run_underlying hu, Result.andThen_ok, Instr.slice, hb, run_size hs, Sem.run_pure]
                      split <;> rfl
                    · exact sl_sub hv b1 hle b2 (fun hf => by simp only [beq_iff_eq] at hf; omega)
                · cases h
    · cases h
  · -- a slice of a row
    rename_i e i off n e' g
    split at h
    · rename_i he; subst he
      obtain ⟨el, hu, hs⟩ := hk
      cases hx with
      | ms i off n e g ob a cap h3 hg hn hsp ha hroom =>
        have hv : VR c (.ms i off n e g) (.slice (some a) n cap) := .ms i off n e g ob a cap h3 hg hn hsp ha hroom
        split at h
        · split at h
          · cases h
          · rename_i hh h1
            split at h
            · cases h
            · rename_i l h2
              cases h
              cases hmx
              obtain ⟨hb, b1, b2⟩ := bounds2_ok (P := P) (isSlice := true) hlo hhi hn h1 h2
              refine .same hc.wr (y := .slice (some (if cap = l then a else a.add (l * e))) (hh - l) (cap - l)) ?_ ?_
              · simp only [Instr.sliceAt, Sem.run_bind, run_underlying hu, Result.andThen_ok, Instr.slice, hb, run_size hs, Sem.run_pure]
                split <;> rfl
              · exact ms_sub hv b1 b2
        · rename_i m
          split at h
          · cases h
          · rename_i m' h0
            split at h
            · cases h
            · rename_i hh h1
              split at h
              · cases h
              · rename_i l h2
                split at h
                · rename_i hm0
                  subst hm0
                  cases h
                  cases hmx with
                  | some _ mv hmv =>
                    obtain ⟨hb, b1, b2, b3⟩ := bounds3_ok (P := P) (isSlice := true) hlo hhi hmv hn h0 h1 h2
                    obtain rfl : hh = 0 := by omega
                    obtain rfl : l = 0 := by omega
                    obtain ⟨ab, ao, asp⟩ := a
                    simp only at hsp
                    subst hsp
                    refine .same hc.wr (y := .slice (some ⟨ab, ao, none⟩) 0 0) ?_ ?_
                    · simp [Instr.sliceAt, run_underlying hu, Instr.slice, hb, run_size hs]
                    · exact .sl _ _ _ _ [] ab ao _ none (fun _ => rfl) (by omega) (fun _ => rfl) (by simp) rfl (fun k a v h => by simp at h) (fun h => absurd rfl h) (fun k v h => by simp at h)
                · cases h
    · cases h
  · -- a nil slice
    rename_i e
    obtain ⟨el, hu, hs⟩ := hk
    cases hx
    split at h
    · split at h
      · cases h
      · rename_i hh h1
        split at h
        · cases h
        · rename_i l h2
          cases h
          cases hmx
          obtain ⟨hb, b1, b2⟩ := bounds2_ok (P := P) (isSlice := true) hlo hhi (Nat.le_refl _) h1 h2
          obtain rfl : hh = 0 := by omega
          obtain rfl : l = 0 := by omega
          exact .same hc.wr (y := .slice none 0 0) (by simp [Instr.sliceAt, run_underlying hu, Instr.slice, hb, run_size hs]) (.cst _)
    · rename_i m
      split at h
      · cases h
      · rename_i m' h0
        split at h
        · cases h
        · rename_i hh h1
          split at h
          · cases h
          · rename_i l h2
            cases h
            cases hmx with
            | some _ mv hmv =>
              obtain ⟨hb, b1, b2, b3⟩ := bounds3_ok (P := P) (isSlice := true) hlo hhi hmv (Nat.le_refl _) h0 h1 h2
              obtain rfl : m' = 0 := by omega
              obtain rfl : hh = 0 := by omega
              obtain rfl : l = 0 := by omega
              exact .same hc.wr (y := .slice none 0 0) (by simp [Instr.sliceAt, run_underlying hu, Instr.slice, hb, run_size hs]) (.cst _)
  · -- an array
    rename_i n e i off g
    split at h
    · rename_i cs hget0
      split at h
      · cases h
      · rename_i hh h1
        split at h
        · cases h
        · rename_i l h2
          cases h
          cases hmx
          cases hx with
          | ptr i off g ob a h3 hg ha =>
            obtain ⟨hb, b1, b2⟩ := bounds2_ok (P := P) (isSlice := false) hlo hhi (Nat.le_refl _) h1 h2
            obtain ⟨o', ho', hg', hle, _⟩ := hget_some hget0
            obtain rfl : ob = o' := Option.some.inj (h3.symm.trans ho')
            obtain rfl := ha hg'
            have hv : VR c (.ms i off n e g) (.slice (some (c.at i off)) n n) := .ms i off n e g ob _ n h3 hg (Nat.le_refl _) rfl (fun _ _ => rfl) (fun _ _ k hk => by
              obtain ⟨u, hu, _⟩ := hc.wr.cell i ob h3 k _ (List.getElem?_eq_getElem (by omega))
              rw [hu]; rfl)
            refine .same hc.wr (y := .slice (some (if n = l then c.at i off else (c.at i off).add (l * e))) (hh - l) (n - l)) ?_ (ms_sub hv b1 b2)
            rcases hk with ⟨el, hu, hs⟩ | ⟨arr, el, hu, hua, hs⟩
            · simp only [Instr.sliceAt, Sem.run_bind, run_underlying hu, Result.andThen_ok, Instr.sureAddr, hb, run_size hs, Sem.run_pure]
            · simp only [Instr.sliceAt, Sem.run_bind, run_underlying hu, Result.andThen_ok, Instr.slice, asAddr, run_underlying hua, hb, run_size hs, Sem.run_pure]
    · cases h
  · cases h
end Go.Eng
