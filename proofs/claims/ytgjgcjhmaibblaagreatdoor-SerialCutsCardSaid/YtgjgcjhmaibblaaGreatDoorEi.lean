/- A range over a function: the statement, and a function that holds one. No condition. -/
import Derived.Test.YtgjgcjhmaibblaaGreatDoorEh
import Derived.Below
namespace Go.Eng
open Go

/-- The loop's book-keeping lies where it was laid. -/
structure LK (cb : Cx) (l D : Nat) (o : Obj) (c : Cx) : Prop where
  ext : Ext cb c
  ll : cb.w.heap.size ≤ l
  lD : cb.w.heap.size ≤ D
  ne : D ≠ l
  hl : c.w.heap[l]? = some o
  hD : c.w.heap[D]? = some (.deferred (some []))
  nl : ¬ LOwn c l
  nD : ¬ LOwn c D

theorem Ext.keeps {c c' : Cx} (h : Ext c c') {b : Nat} {o : Obj} (hb : c.w.heap[b]? = some o) (hn : ¬ LOwn c b) : c'.w.heap[b]? = some o ∧ ¬ LOwn c' b := by
  have hlt := (Array.getElem?_eq_some_iff.1 hb).1
  refine ⟨(h.frame b hlt hn).trans hb, fun ho => ?_⟩
  rcases h.own b ho with h1 | h1
  · exact hn h1
  · omega

theorem LK.step {cb : Cx} {l D : Nat} {o : Obj} {c c' : Cx} (h : LK cb l D o c) (hE : Ext c c') : LK cb l D o c' := by
  obtain ⟨h1, h2⟩ := hE.keeps h.hl h.nl
  obtain ⟨h3, h4⟩ := hE.keeps h.hD h.nD
  exact ⟨h.ext.trans hE, h.ll, h.lD, h.ne, h1, h3, h2, h4⟩

theorem ext_toggle {cb c : Cx} (h : Ext cb c) {l : Nat} {o o' : Obj} (hll : cb.w.heap.size ≤ l) (hl : c.w.heap[l]? = some o) (ho : o.isCells = false) (ho' : o'.isCells = false) : Ext cb (c.setW (c.w.putObj l o')) where
  F := h.F
  row := h.row
  own := h.own
  size := by show cb.w.heap.size ≤ (c.w.putObj l o').heap.size; rw [World.putObj_size]; exact h.size
  frame := fun b hb hn => (World.putObj_heap_other (by omega)).trans (h.frame b hb hn)
  room := fun a ha => by
    show ((c.w.putObj l o').cell? a).isSome = true
    rw [cell_putObj hl ho ho']; exact h.room a ha
  os := h.os
  out := h.out

theorem LK.toggle {T : Tab} {cb : Cx} {l D : Nat} {o o' : Obj} {c : Cx} (h : LK cb l D o c) (hc : OK T c) (ho : o.isCells = false) (ho' : o'.isCells = false) :
    LK cb l D o' (c.setW (c.w.putObj l o')) ∧ Tr c (c.setW (c.w.putObj l o')) ∧ OK T (c.setW (c.w.putObj l o')) := by
  obtain ⟨h1, h2⟩ := toggle_ok hc h.hl ho ho' h.nl
  exact ⟨⟨ext_toggle h.ext h.ll h.hl ho ho', h.ll, h.lD, h.ne, World.putObj_heap_same (Array.getElem?_eq_some_iff.1 h.hl).1, (World.putObj_heap_other h.ne).trans h.hD, h.nl, h.nD⟩, h1, h2⟩

/-- No call of yield. -/
abbrev noY : List AV → Heap → Option Heap := fun _ _ => none
theorem noY_ok {P : Program} {T : Tab} {l : Nat} {K : Cx → Prop} : YOK P T l K noY := fun _ _ _ _ _ _ _ h => by cases h

/-- A round: the parameter is assigned, the body runs; what they leave in the heap. -/
def round (T : Tab) (cf : CF) (p : Nat) (asA asR : List AOper) (e : Env) : List AV → Heap → Option Heap
  | [x], H => match runOpsB T cf 0 noY asA (putA e (some p) x) H with
    | some (e1, H1) => match runOpsB T cf 0 noY asR e1 H1 with
      | some (_, H2) => some H2
      | none => none
    | none => none
  | _, _ => none

theorem rangeB {P : Program} {T : Tab} (hT : TabOK P T) {cf : CF} (hcf : CFok P T cf) {nt p idA idB idR G : Nat} {g : Operand} {opsA opsR : Array Oper} {asA asR : List AOper} (hA : opsA.toList.map (trOper P nt opsA) = asA) (hR : opsR.toList.map (trOper P nt opsR) = asR)
    (hvA : callsV P opsA = true) (hvR : callsV P opsR = true) (hp : p < nt) (hG : ∀ (args : Array Value) (w : World), (callFunc G args).run P w = .ok (.enter G args) w) {c : Cx} (hc : OK T c) {e : Env} {a : Act} (he : EnvR c e a.tmps) (hsz : nt ≤ a.tmps.size)
    {caps : List AV} (hg : VR c (.fn (.func G) [] caps) (a.eval g)) {PH : Heap → Prop} {Q : Exit → Act → World → Prop}
    (hiter : ∀ (l : Nat) (K : Cx → Prop), (∀ c c', K c → Ext c c' → OK T c' → K c') → YOK P T l K (round T cf p asA asR e) → ∀ c1, K c1 → OK T c1 → c1.A = c.A → ∀ args : Array Value, VRs c1 (.cst (.func (.yield l) #[] #[]) :: caps) args.toList →
      CallsIn Fence.wide 0 P G args c1.w fun e w' => ∃ v c', e = .returned v ∧ w' = c'.w ∧ K c' ∧ OK T c' ∧ PH c'.A)
    (hQ : ∀ (D : Nat) (c' : Cx), Ext c c' → OK T c' → PH c'.A → c.w.heap.size ≤ D → c'.w.heap[D]? = some (.deferred (some [])) → ¬ LOwn c' D → Q .normal { a with defers := { target := .collected D, args := #[] } :: a.defers } c'.w) :
    (Code.rangeFunc g #[p] (.region idA opsA false) (.block idB (.region idR opsR false))).wpIn Fence.wide 0 P Q a c.w := by
  obtain ⟨lb, hev, hlb⟩ : ∃ lb : Array Value, a.eval g = .func (.func G) #[] lb ∧ VRs c caps lb.toList := by
    generalize a.eval g = z at hg
    cases hg with
    | fn f x y x' y' hx hx' hy hy' =>
      have : x' = #[] := Array.eq_empty_of_size_eq_zero hx.symm
      subst this
      exact ⟨y', rfl, by simpa using hy, fun k a v h1 h2 => hy' k a v h1 (by simpa using h2)⟩
  refine wpIn_rangeFunc ?_
  intro fn _
  obtain ⟨rec, hrec⟩ : ∃ rec : LoopState → Option Code → Loop, rec = fun st pe => { state := st, pending := pe, fn, tmps := a.tmps, params := #[p], assign := .region idA opsA false, body := .block idB (.region idR opsR false), defers := c.w.heap.size } := ⟨_, rfl⟩
  obtain ⟨W1, hW1⟩ : ∃ W1, (c.w.alloc (.deferred (some []))).alloc (.loop (rec .ready none)) = W1 := ⟨_, rfl⟩
  have hsz1 : W1.heap.size = c.w.heap.size + 2 := by rw [← hW1]; simp
  have hL1 : W1.heap[c.w.heap.size + 1]? = some (.loop (rec .ready none)) := by
    rw [← hW1]; have := World.alloc_heap_new (c.w.alloc (.deferred (some []))) (.loop (rec .ready none)); rwa [World.size_alloc] at this
  have hK1 : W1.heap[c.w.heap.size]? = some (.deferred (some [])) := by
    rw [← hW1]; exact (RowKit.Below.heap_alloc _ _ _ (by simp)).trans (World.alloc_heap_new c.w _)
  have hold : ∀ b, b < c.w.heap.size → W1.heap[b]? = c.w.heap[b]? := fun b hb => by
    rw [← hW1]; exact (RowKit.Below.heap_alloc _ _ _ (by simp; omega)).trans (RowKit.Below.heap_alloc _ _ _ hb)
  obtain ⟨hE1, hWR1⟩ := grown_ok hc.wr (w' := W1) (by omega) hold (by rw [← hW1]; rfl) (by rw [← hW1]; rfl)
  have hc1 := hc.ext hE1 hWR1
  have hnew : ∀ b, c.w.heap.size ≤ b → ¬ LOwn (c.setW W1) b := fun b hb ⟨i, o, h1, _, h3⟩ => by
    have := hc.wr.lt i o h1
    have h3' : c.blk i = b := h3
    omega
  have hLK1 : LK c (c.w.heap.size + 1) c.w.heap.size (.loop (rec .ready none)) (c.setW W1) := ⟨hE1, by omega, Nat.le_refl _, by omega, hL1, hK1, hnew _ (by omega), hnew _ (Nat.le_refl _)⟩
  refine ⟨c.w.heap.size + 1, [{ target := .collected c.w.heap.size, args := #[] }], W1, { target := .fn (.func G) lb, args := #[.func (.yield (c.w.heap.size + 1)) #[] #[]] }, W1, G,
    #[.func (.yield (c.w.heap.size + 1)) #[] #[]] ++ lb, W1, ?_, ?_, ?_, ?_, fun hd => (by cases hd), ?_⟩
  · rw [← hW1, hrec]; exact run_enterLoop_outer _ _ _ _ _
  · simp only [resolve, hev, Deferred.ofValue]; simp [go_sem]
  · intro f' _; trivial
  · simp [invoke, hG]
  · -- the iterator
    have hY : YOK P T (c.w.heap.size + 1) (LK c (c.w.heap.size + 1) c.w.heap.size (.loop (rec .ready none))) (round T cf p asA asR e) := by
      intro c2 hk2 hc2 args args' H2 hargs hh
      match args, hargs, hh with
      | [x], hargs, hh =>
        obtain ⟨y, hy1, hxy⟩ := args1 hargs
        subst hy1
        simp only [round] at hh
        split at hh
        · rename_i e1 H1 hr1
          split at hh
          · rename_i e2 H3 hr2
            cases hh
            have hy := run_yield (P := P) (args := #[y]) hk2.hl (by rw [hrec]; rfl)
            have hf : ((rec .ready none).params.zip #[y]).foldl (fun tmps (t, a) => tmps.setIfInBounds t a) (rec .ready none).tmps = a.tmps.setIfInBounds p y := by rw [hrec]; simp
            rw [hf] at hy
            rw [hrec] at hy
            refine ⟨fn, _, _, _, hy, roundIn_of_wpIn trivial ?_⟩
            have he2 : EnvR c2 (putA e (some p) x) (a.tmps.setIfInBounds p y) := envR_put (a := { a with tmps := a.tmps }) (he.ext hk2.ext) (fun q hq => by cases hq; exact Nat.lt_of_lt_of_le hp hsz) hxy
            refine regB (ro := some (c.w.heap.size + 1)) (K := LK c (c.w.heap.size + 1) c.w.heap.size (.loop (rec .ready none))) hT hcf hvA (fun _ _ h hE _ => h.step hE) noY_ok hA hk2 hc2 (a := { tmps := _, defers := [] }) he2 (by simpa using hsz) hr1 ?_
            intro a3 c3 g1 g2 g3 g4 g5 g6 g7
            refine ⟨_, run_beginRound g2.hl (by rw [hrec]), ?_⟩
            obtain ⟨k1, k2, k3⟩ := g2.toggle (o' := .loop { rec .ready none with state := .busy }) g3 rfl rfl
            refine wpIn_block ?_
            rw [← g4] at hr2
            refine regB (ro := some (c.w.heap.size + 1)) (c := c3.setW (c3.w.putObj (c.w.heap.size + 1) (.loop { rec .ready none with state := .busy }))) (K := LK c (c.w.heap.size + 1) c.w.heap.size (.loop { rec .ready none with state := .busy })) hT hcf hvR (fun _ _ h hE _ => h.step hE) noY_ok hR k1 k3 (k2.env g5) g6 hr2 ?_
            intro a4 c4 p1 p2 p3 p4 p5 p6 p7
            have hend := run_endRound (P := P) none p2.hl
            have hst : ({ ({ rec .ready none with state := .busy } : Loop) with state := if (none : Option Code).isNone then .ready else .done, pending := none } : Loop) = rec .ready none := by rw [hrec]; rfl
            rw [hst] at hend
            refine ⟨_, _, hend, rfl, ?_⟩
            obtain ⟨q1, q2, q3⟩ := p2.toggle (o' := .loop (rec .ready none)) p3 rfl rfl
            exact ⟨_, rfl, (g1.trans k2).trans (p1.trans q2), q1, q3, p4⟩
          · cases hh
        · cases hh
    have hargs : VRs (c.setW W1) (.cst (.func (.yield (c.w.heap.size + 1)) #[] #[]) :: caps) (#[Value.func (.yield (c.w.heap.size + 1)) #[] #[]] ++ lb).toList := by
      simp only [Array.toList_append]
      exact .cons (.cst _) (hlb.ext hE1)
    refine (hiter (c.w.heap.size + 1) _ (fun _ _ h hE _ => h.step hE) hY (c.setW W1) hLK1 hc1 rfl _ hargs).mono ?_
    rintro e5 w5 ⟨v, c5, rfl, rfl, h1, h2, h3⟩
    have hend := run_endLoop (P := P) h1.hl (by rw [hrec]; simp)
    refine ⟨_, _, hend, ?_⟩
    obtain ⟨q1, q2, q3⟩ := h1.toggle (o' := .loop { rec .ready none with state := .exhausted }) h2 rfl rfl
    subst hrec
    exact hQ _ _ q1.ext q3 h3 (Nat.le_refl _) q1.hD q1.nD

/-- A function whose arguments and answer lean on nothing that is written, out of its body's contract in an empty heap. -/
def pureP (pb : List AV → Option AV) (args : List AV) (H : Heap) : Option (AV × Heap) := match mapS (snap 64) H args with
  | some (args', H') => match pb args' with
    | some r => some (r, H')
    | none => none
  | none => none

theorem pureP_ok {P : Program} {T : Tab} {f : FuncId} (hglob : ∀ n cs, T.glob n = some cs → closedL cs = true) (hcall : ∀ (args : Array Value) (w : World), (callFunc f args).run P w = .ok (.enter f args) w) {pb : List AV → Option AV}
    (hbody : ∀ (c : Cx), OK T c → c.A = [] → ∀ (args : List AV) (args' : Array Value) (r : AV), VRs c args args'.toList → pb args = some r →
      Calls P f args' c.w fun e w' => ∃ y c', e = .returned y ∧ w' = c'.w ∧ Ext c c' ∧ OK T c' ∧ ∃ r1 H3, VR c' r1 y ∧ snap 64 c'.A r1 = some (r, H3)) : PrimOK P T f (pureP pb) := by
  intro args H r H' h c hc hA args' ha
  subst hA
  unfold pureP at h
  split at h
  · rename_i args1 H1 hm
    split at h
    · rename_i r1 hb
      cases h
      obtain ⟨c1, f1, f2, f3, f4⟩ := mapS_ok (snap_ok 64) args c hc.wr _ ha args1 H' hm
      have hc1 := hc.ext f1.ext f1.wr
      let c2 : Cx := { F := Own c1, blk := fun _ => 0, base := fun _ => 0, A := [], w := c1.w }
      have hp2 : ∀ b, Perm c1 b → Perm c2 b := fun b hb => ⟨hb.1, by
        rintro (h | ⟨i, o, h1, _⟩)
        · exact hb.2 h
        · simp [c2] at h1⟩
      have hc2 : OK T c2 :=
        { wr := { lt := fun i o h => by simp [c2] at h
                  nf := fun i o h => by simp [c2] at h
                  inj := fun i j o p h => by simp [c2] at h
                  cell := fun i o h => by simp [c2] at h
                  soft := fun i o h => by simp [c2] at h
                  flat := fun i o h => by simp [c2] at h
                  kind := fun i o h => by simp [c2] at h }
          gl := fun n cs hn => (hc1.gl n cs hn).closed (c := c1) (c' := c2) (show c2.w = c1.w from rfl) hp2 (by simp only [AV.closed]; exact hglob n cs hn)
          fr := fun b hb h => by
            rcases h with h | ⟨i, o, h1, _, h3⟩
            · exact hc1.fr b hb h
            · have := hc1.wr.lt i o h1
              have hb' : c1.w.heap.size ≤ b := hb
              omega }
      have ha2 : VRs c2 args1 args'.toList := f3.closed (c := c1) (c' := c2) (show c2.w = c1.w from rfl) hp2 f4
      rw [hcall]
      intro a o next Q hk
      rw [Oper.upon_enter]
      have hcalls := hbody c2 hc2 rfl args1 args' r ha2 hb
      have hcw : c2.w = c.w := f1.w
      rw [hcw] at hcalls
      refine hcalls.mono ?_
      rintro e w' ⟨y, c3, rfl, rfl, h1, h2, r1, H3, h4, hs⟩
      obtain ⟨c4, g1, g2, g3, g4⟩ := snap_ok 64 c3 h2.wr r1 y h4 r H3 hs
      have hold : ∀ b, b < c1.w.heap.size → c3.w.heap[b]? = c1.w.heap[b]? := fun b hb => h1.frame b hb (by rintro ⟨i, o, q1, _⟩; simp [c2] at q1)
      obtain ⟨hE5, hW5⟩ := grown_ok hc1.wr (w' := c3.w) h1.size hold h1.os h1.out
      have hp5 : ∀ b, Perm c4 b → Perm (c1.setW c3.w) b := fun b hb => by
        refine ⟨by have := hb.1; rw [g1.w] at this; exact this, fun ho => hb.2 (.inl ?_)⟩
        rw [g1.ext.F, h1.F]
        exact ho
      exact hk y (c1.setW c3.w) (f1.ext.trans hE5) hW5 f2 (g3.closed (c' := c1.setW c3.w) (by rw [g1.w]; rfl) hp5 g4)
    · cases h
  · cases h

/-- The mark of a range over a function, at the return: nothing was deferred. -/
theorem leaves_mark {P : Program} {fn : Func} {tmps : Array Value} {R : Ending → World → Prop} {D : Nat} {w : World} (hD : w.heap[D]? = some (.deferred (some []))) {v : Value} (hr : (results fn tmps).run P (w.putObj D (.deferred none)) = .ok v (w.putObj D (.deferred none)))
    (h : R (.returned v) (w.putObj D (.deferred none))) : LeavesInM Fence.wide 0 P fn tmps R [{ target := .collected D, args := #[] }] .returning w :=
  ⟨by simp, .inl ⟨D, _, rfl, run_takeDeferred hD, v, hr, h⟩⟩
end Go.Eng
