/- What the concrete operations do on related values: tables, operands, loads, equality. No condition. -/
import Derived.Test.YtfpknphncaopkaaDoorEn4
import Derived.Test.YtfpknphncaopkaaDoorEn5
import Derived.Laws.StructEq
import Derived.Laws.Cells
namespace Go.Eng
open Go

/-- A step's answer, seen from the operation. -/
def Does (P : Program) (r : Result Next) (c : Cx) (v : AV) (H' : Heap) : Prop :=
  ∀ (a : Act) (o : Oper) (next : Act → World → Prop) (Q : Exit → Act → World → Prop),
    (∀ (y : Value) (c' : Cx), Ext c c' → WR c' → c'.A = H' → VR c' v y → next (a.put o.dst y) c'.w) → o.upon P a next Q r

theorem Does.same {P : Program} {c : Cx} (hW : WR c) {v : AV} {y : Value} {r : Result Next} (hr : r = .ok (.value y) c.w) (h : VR c v y) : Does P r c v c.A := by
  subst hr
  intro a o next Q hk
  exact hk y c (Ext.refl c) hW rfl h

theorem Does.of {P : Program} {c c' : Cx} (hE : Ext c c') (hW : WR c') {v : AV} {y : Value} {r : Result Next} (hr : r = .ok (.value y) c'.w) (h : VR c' v y) : Does P r c v c'.A := by
  subst hr
  intro a o next Q hk
  exact hk y c' hE hW rfl h

theorem Does.skip {P : Program} {c c' : Cx} (hE : Ext c c') (hW : WR c') {r : Result Next} (hr : r = .ok .skip c'.w) : Does P r c .und c'.A := by
  subst hr
  intro a o next Q hk
  exact hk undef c' hE hW rfl (.cst _)

/-- Globals, and what is foreign lies in the heap. -/
structure OK (T : Tab) (c : Cx) : Prop where
  wr : WR c
  gl : ∀ n cs, T.glob n = some cs → VR c (.ep cs) (.pointer (some ⟨n, 0, none⟩))
  fr : ∀ b, c.w.heap.size ≤ b → ¬ c.F b

theorem OK.ext {T : Tab} {c c' : Cx} (h : OK T c) (hE : Ext c c') (hW : WR c') : OK T c' where
  wr := hW
  gl n cs hn := (h.gl n cs hn).ext hE
  fr b hb := by rw [hE.F]; exact h.fr b (Nat.le_trans hE.size hb)

structure TabOK (P : Program) (T : Tab) : Prop where
  meth : ∀ (t : TypeId) (m : String) (f : FuncId), T.meth t m = some (f, none) → ∀ (v : Value) (w : World), (method (P.types.size + Made.depth) t v m).run P w = .ok (f, v) w ∧
    (nilAhead (P.types.size + Made.depth) t v m).run P w = .ok (some false) w
  methAt : ∀ (t : TypeId) (m : String) (f : FuncId) (k : Nat), T.meth t m = some (f, some k) → ∀ (v : Value) (w : World), (method (P.types.size + Made.depth) t (.agg #[v]) m).run P w = .ok (f, v) w
  via : ∀ (fv : Fn) (f : FuncId), T.via fv = some f → ∀ (x : Value) (r captured : Array Value) (w : World), (invoke (.fn fv captured) (#[x] ++ r)).run P w = (callFunc f (#[x] ++ r)).run P w
  eqt : ∀ (t : TypeId) (q : EqT), T.eqt t = some q → (∃ i, P.info? t = some i ∧ i.comparable = true) ∧ eqtO P 9 t = some q
  impl : ∀ (t u : TypeId) (b : Bool), T.impl t u = some b → ∃ ms i, P.underlying t = some (.interface ms) ∧ P.info? u = some i ∧ (Instr.missingMethod ms i.methods).isNone = b

/-! ### tables -/
theorem run_size {P : Program} {t : TypeId} {s : Nat} (h : sizeO P t = some s) (w : World) : (sizeOf t).run P w = .ok s w := by
  unfold sizeO at h
  cases hi : P.info? t with
  | none => rw [hi] at h; cases h
  | some i => rw [hi] at h; simp at h; simp [sizeOf, typeInfo, hi, h]

theorem run_zero {P : Program} {t : TypeId} {z : Value} (h : (P.info? t).bind (·.zero) = some z) (w : World) : (zeroValue t).run P w = .ok z w := by
  cases hi : P.info? t with
  | none => rw [hi] at h; cases h
  | some i => rw [hi] at h; simp at h; simp [zeroValue, typeInfo, hi, h]

theorem run_agg {P : Program} {t : TypeId} {n : Option Nat} (h : aggO P t = some n) (w : World) : (isAgg t).run P w = .ok n.isSome w ∧ (∀ k, n = some k → sizeO P t = some k) := by
  unfold aggO at h
  cases hu : P.underlying t with
  | none => rw [hu] at h; cases h
  | some d =>
    rw [hu] at h
    cases d <;> simp only at h <;> first
      | (cases h; exact ⟨by simp [isAgg, run_underlying hu], fun k hk => by cases hk⟩)
      | (cases hs : sizeO P t with
         | none => rw [hs] at h; cases h
         | some k => rw [hs] at h; simp at h; subst h; exact ⟨by simp [isAgg, run_underlying hu], fun j hj => by cases hj; rfl⟩)

/-! ### constants and operands -/
theorem ofC_ok {c : Cx} {v : Value} {a : AV} (h : ofC v = some a) : VR c a v := by
  unfold ofC at h
  split at h <;> first | (cases h; done) | (cases h; first | exact .bool _ | exact .int _ _ | exact .cst _ | exact .str _ )

theorem mapOpt_len {α β : Type} {f : α → Option β} : ∀ {l : List α} {r : List β}, mapOpt f l = some r → r.length = l.length ∧ ∀ (k : Nat) (a : α), l[k]? = some a → ∃ b, r[k]? = some b ∧ f a = some b
  | [], r, h => by cases h; exact ⟨rfl, fun k a hk => by simp at hk⟩
  | x :: l, r, h => by
    unfold mapOpt at h
    cases hx : f x with
    | none => rw [hx] at h; cases h
    | some y =>
      rw [hx] at h
      simp only at h
      cases hl : mapOpt f l with
      | none => rw [hl] at h; cases h
      | some ys =>
        rw [hl] at h
        cases h
        obtain ⟨h1, h2⟩ := mapOpt_len hl
        refine ⟨by simp [h1], fun k a hk => ?_⟩
        cases k with
        | zero => simp at hk; subst hk; exact ⟨y, rfl, hx⟩
        | succ k => simp at hk; simpa using h2 k a hk

theorem mapOpt_rel {α : Type} {c : Cx} {f : α → Option AV} {g : α → Value} (hf : ∀ x a, f x = some a → VR c a (g x)) {l : List α} {r : List AV} (h : mapOpt f l = some r) : VRs c r (l.map g) := by
  obtain ⟨h1, h2⟩ := mapOpt_len h
  refine ⟨by simp [h1], fun k a v hk hv => ?_⟩
  rw [List.getElem?_map] at hv
  cases hx : l[k]? with
  | none => rw [hx] at hv; cases hv
  | some x =>
    rw [hx] at hv
    simp at hv
    obtain ⟨b, hb, hfb⟩ := h2 k x hx
    rw [hk] at hb; cases hb
    subst hv; exact hf x _ hfb

theorem ofV_ok {c : Cx} {v : Value} {a : AV} (h : ofV v = some a) : VR c a v := by
  unfold ofV at h
  split at h
  · rename_i cs
    cases hm : mapOpt ofC cs.toList with
    | none => rw [hm] at h; cases h
    | some l =>
      rw [hm] at h
      cases h
      have := mapOpt_rel (c := c) (g := id) (fun x a hx => ofC_ok hx) hm
      simp at this
      exact .agg _ _ (by have := this.len; simpa using this) (fun k a v h1 h2 => this.rel k a v h1 (by simpa using h2))
  · exact ofC_ok h

theorem cells_ok {c : Cx} {a : AV} {v : Value} (h : VR c a v) (ha : a.cells.all AV.isCell = true) : VRs c a.cells v.cells.toList ∧ ∀ x ∈ v.cells.toList, x.oneCell' = true := by
  have key : ∀ (a : AV) (v : Value), VR c a v → a.isCell = true → v.oneCell' = true := by
    intro a v h ha
    cases h <;> first | rfl | (simp [AV.isCell] at ha; done) | skip
    rename_i v
    cases v <;> first | rfl | (simp [AV.isCell] at ha)
  have all : ∀ (l : List AV) (l' : List Value), VRs c l l' → l.all AV.isCell = true → ∀ x ∈ l', x.oneCell' = true := by
    intro l l' hl ha x hx
    obtain ⟨k, hk, rfl⟩ := List.getElem_of_mem hx
    have hkl : k < l.length := by rw [hl.len]; exact hk
    exact key l[k] _ (hl.rel k _ _ (List.getElem?_eq_getElem hkl) (List.getElem?_eq_getElem hk)) (by
      rw [List.all_eq_true] at ha; exact ha _ (List.getElem_mem hkl))
  have one : ∀ (a : AV) (v : Value), VR c a v → a.cells = [a] → v.cells = #[v] → a.cells.all AV.isCell = true → VRs c a.cells v.cells.toList ∧ ∀ x ∈ v.cells.toList, x.oneCell' = true := by
    intro a v h e e' ha
    rw [e, e'] at *
    have hl : VRs c [a] [v] := .cons h (.nil c)
    exact ⟨hl, all _ _ hl ha⟩
  cases h with
  | agg x x' hx hx' =>
    have hl : VRs c x x'.toList := ⟨by simp [hx], fun k a v h1 h2 => hx' k a v h1 (by simpa using h2)⟩
    exact ⟨hl, all _ _ hl ha⟩
  | cst v =>
    cases v with
    | agg cs => simp [AV.cells, AV.isCell] at ha
    | _ => exact one _ _ (.cst _) rfl rfl ha
  | unk y => simp [AV.cells, AV.isCell] at ha
  | tup x x' hx hx' => simp [AV.cells, AV.isCell] at ha
  | bool b => exact one _ _ (.bool b) rfl rfl ha
  | int k n => exact one _ _ (.int k n) rfl rfl ha
  | str s => exact one _ _ (.str s) rfl rfl ha
  | ptr i off g o a h hg h2 => exact one _ _ (.ptr i off g o a h hg h2) rfl rfl ha
  | ep cells vs b o hl hr hp hc => exact one _ _ (.ep cells vs b o hl hr hp hc) rfl rfl ha
  | sl full n e cells vs b o cap sp hsp hn hf he hl hr hp hc => exact one _ _ (.sl full n e cells vs b o cap sp hsp hn hf he hl hr hp hc) rfl rfl ha
  | ms i off n e g o a cap h hg hn hs h2 hroom => exact one _ _ (.ms i off n e g o a cap h hg hn hs h2 hroom) rfl rfl ha
  | fn f x y x' y' hx hx' hy hy' => exact one _ _ (.fn f x y x' y' hx hx' hy hy') rfl rfl ha
  | iface t x y h => exact one _ _ (.iface t x y h) rfl rfl ha

def EnvR (c : Cx) (e : Env) (tmps : Array Value) : Prop := ∀ t, VR c (e.get t) (tmps.getD t undef)

theorem EnvR.ext {c c' : Cx} {e : Env} {tmps : Array Value} (h : EnvR c e tmps) (hE : Ext c c') : EnvR c' e tmps := fun t => (h t).ext hE

theorem opd_ok {T : Tab} {c : Cx} (hc : OK T c) {e : Env} {a : Act} (he : EnvR c e a.tmps) {x : Operand} {x' : Opd} (h : trOpd x = some x') : VR c (ev T e x') (a.eval x) := by
  cases x with
  | tmp t => cases h; exact he t
  | const v =>
    simp only [trOpd] at h
    cases hv : ofV v with
    | none => rw [hv] at h; cases h
    | some k => rw [hv] at h; cases h; exact ofV_ok hv
  | global g =>
    cases h
    simp only [ev, Act.eval]
    split
    · rename_i cs hg; exact hc.gl g cs hg
    · exact .unk _
  | func f => cases h; exact .fn _ _ _ _ _ rfl (fun k a v h => by simp at h) rfl (fun k a v h => by simp at h)

theorem opds_ok {T : Tab} {c : Cx} (hc : OK T c) {e : Env} {a : Act} (he : EnvR c e a.tmps) {x : Array Operand} {x' : List Opd} (h : mapOpt trOpd x.toList = some x') : VRs c (x'.map (ev T e)) (x.map a.eval).toList := by
  obtain ⟨h1, h2⟩ := mapOpt_len h
  refine ⟨by simp [h1], fun k b v hk hv => ?_⟩
  rw [List.getElem?_map] at hk
  simp only [Array.toList_map, List.getElem?_map] at hv
  cases hx : x.toList[k]? with
  | none => rw [hx] at hv; cases hv
  | some y =>
    rw [hx] at hv
    obtain ⟨y', hy', hf⟩ := h2 k y hx
    rw [hy'] at hk
    cases hk; cases hv
    exact opd_ok hc he hf

/-! ### cells behind an address -/
theorem add_none (b o k : Nat) : (⟨b, o, none⟩ : Addr).add k = ⟨b, o + k, none⟩ := by unfold Addr.add; split <;> simp_all

theorem hget_some {H : Heap} {i off n g : Nat} {cs : List AV} (h : hget H i off n g = some cs) : ∃ o, H[i]? = some o ∧ g = o.gen ∧ off + n ≤ o.cells.length ∧ cs = (o.cells.drop off).take n := by
  unfold hget at h
  split at h
  · rename_i o ho
    split at h
    · rename_i hc; cases h; exact ⟨o, ho, hc.1, hc.2, rfl⟩
    · cases h
  · cases h

/-- The cells of a row, as values. -/
theorem row_cells {c : Cx} (hW : WR c) {i off n g : Nat} {cs : List AV} (h : hget c.A i off n g = some cs) :
    cs.length = n ∧ ∃ vs : List Value, VRs c cs vs ∧ ∀ (k : Nat) (v : Value), vs[k]? = some v → c.w.cell? ⟨c.blk i, c.base i + off + k, none⟩ = some v := by
  obtain ⟨o, ho, hg, hn, rfl⟩ := hget_some h
  have hlen : ((o.cells.drop off).take n).length = n := by simp; omega
  refine ⟨hlen, ?_⟩
  refine ⟨(List.range n).map fun k => ((c.w.cell? (c.at i (off + k))).getD undef), ⟨by simp [hlen], fun k a v hk hv => ?_⟩, fun k v hv => ?_⟩
  · have hkn : k < n := by rw [← hlen]; exact (List.getElem?_eq_some_iff.1 hk).1
    rw [List.getElem?_take, if_pos hkn, List.getElem?_drop] at hk
    obtain ⟨u, hu, hr⟩ := hW.cell i o ho _ _ hk
    simp [hkn, hu] at hv
    subst hv; exact hr
  · have hkn : k < n := by
      rcases Nat.lt_or_ge k n with h1 | h1
      · exact h1
      · rw [List.getElem?_eq_none (by simp; omega)] at hv; cases hv
    have hk : o.cells[off + k]? = some o.cells[off + k] := List.getElem?_eq_getElem (by omega)
    obtain ⟨u, hu, hr⟩ := hW.cell i o ho _ _ hk
    simp [hkn, hu] at hv
    subst hv
    rw [← hu]; simp [Cx.at, Nat.add_assoc]

/-- What lies behind a pointer: 'n' cells. -/
def behind (H : Heap) (n : Nat) : AV → Option (List AV)
  | .ptr i off g => hget H i off n g
  | .ep cs => if n ≤ cs.length then some (cs.take n) else none
  | _ => none

theorem behind_ok {c : Cx} (hW : WR c) {n : Nat} {x : AV} {y : Value} (hv : VR c x y) {cs : List AV} (h : behind c.A n x = some cs) :
    cs.length = n ∧ ∃ (b o : Nat) (vs : List Value), y = .pointer (some ⟨b, o, none⟩) ∧ VRs c cs vs ∧ ∀ (k : Nat) (v : Value), vs[k]? = some v → c.w.cell? ⟨b, o + k, none⟩ = some v := by
  cases hv <;> simp only [behind] at h <;> try (cases h; done)
  · rename_i i off g o a h1 hg ha
    obtain ⟨hl, vs, h2, h3⟩ := row_cells hW h
    obtain ⟨o', ho', hg', _, _⟩ := hget_some h
    obtain rfl : o = o' := Option.some.inj (h1.symm.trans ho')
    refine ⟨hl, c.blk i, c.base i + off, vs, by rw [ha hg']; rfl, h2, h3⟩
  · rename_i cells vs b o hl hr hp hc
    split at h
    · rename_i hn
      cases h
      have hv : VRs c cells vs := ⟨hl, hr⟩
      refine ⟨by simp; omega, b, o, vs.take n, rfl, hv.take n, fun k v hk => ?_⟩
      rw [List.getElem?_take] at hk
      split at hk
      · exact hc k v hk
      · cases hk
    · cases h

theorem run_loadCells' {P : Program} {w : World} {b o : Nat} {vs : List Value} (h : ∀ (k : Nat) (v : Value), vs[k]? = some v → w.cell? ⟨b, o + k, none⟩ = some v) :
    (loadCells ⟨b, o, none⟩ vs.length).run P w = .ok vs.toArray w :=
  run_loadCells_list w _ vs (fun j v hj => by rw [add_none]; exact h j v hj)

theorem run_loadVar_one {P : Program} {w : World} {t : TypeId} (ht : aggO P t = some none) {b o : Nat} {v : Value} (h : w.cell? ⟨b, o, none⟩ = some v) :
    (loadVar t ⟨b, o, none⟩).run P w = .ok v w := by
  simp [loadVar, (run_agg ht w).1, h]
theorem run_loadVar_agg {P : Program} {w : World} {t : TypeId} {n : Nat} (ht : aggO P t = some (some n)) {b o : Nat} {vs : List Value} (hn : vs.length = n)
    (h : ∀ (k : Nat) (v : Value), vs[k]? = some v → w.cell? ⟨b, o + k, none⟩ = some v) :
    (loadVar t ⟨b, o, none⟩).run P w = .ok (.agg vs.toArray) w := by
  subst hn
  have := run_loadCells' (P := P) h
  simp [loadVar, (run_agg ht w).1, run_size ((run_agg ht w).2 _ rfl), this]
end Go.Eng
