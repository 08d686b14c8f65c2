/- Every operation of the loaded code does what its translation says: the rest, and all. Every operation of the loaded code does what its translation says: makes, slices, assertions, calls, and all. Every operation of the loaded code does what its translation says: calls, and all. Regions and code: the loaded code does what its translation says. No condition. -/
import Derived.Test.YtgjgcjhmaibblaaGreatDoorEc
import Derived.Lib.Builder
import Derived.Lib.UnsafeStr
import Derived.LaidEqlPtr
namespace Go.Eng
open Go

section
variable {P : Program} {T : Tab} {c : Cx} (hc : OK T c) {a : Act} {e : Env} (he : EnvR c e a.tmps) {cf : CF}

theorem zeroO_some {t : TypeId} {z : List AV} (h : zeroO P t = some z) (c : Cx) : ∃ zv, (∀ w, (zeroValue t).run P w = .ok zv w) ∧ VRs c z zv.cells.toList := by
  unfold zeroO at h
  split at h
  · rename_i zv hzv
    exact ⟨zv, fun w => run_zero hzv w, by simpa using mapOpt_rel (c := c) (g := id) (fun x a hx => ofC_ok hx) h⟩
  · cases h

theorem mapO_some {α β : Type} {o : Option α} {f : α → β} {b : β} (h : o.map f = some b) : ∃ x, o = some x ∧ f x = b := by
  cases o with
  | none => cases h
  | some x => exact ⟨x, rfl, by simpa using h⟩

theorem run_places {fs : Array Field} (hf : ∀ (i : Nat) (f : Field), fs[i]? = some f → ∃ s, sizeO P f.type = some s) (w : World) :
    ∃ pl : Array (Nat × Nat), (fs.mapM fun f => do pure (f.offset, ← sizeOf f.type) : Sem (Array (Nat × Nat))).run P w = .ok pl w ∧ ∀ (i : Nat) (f : Field) (s : Nat), fs[i]? = some f → sizeO P f.type = some s → pl[i]? = some (f.offset, s) := by
  have key : ∀ (l : List Field), (∀ f ∈ l, ∃ s, sizeO P f.type = some s) → ∃ pl : List (Nat × Nat), (l.mapM fun f => do pure (f.offset, ← sizeOf f.type) : Sem (List (Nat × Nat))).run P w = .ok pl w ∧ ∀ (i : Nat) (f : Field) (s : Nat), l[i]? = some f → sizeO P f.type = some s → pl[i]? = some (f.offset, s) := by
    intro l
    induction l with
    | nil => intro _; exact ⟨[], by simp, fun i f s h => by simp at h⟩
    | cons f l ih =>
      intro h
      obtain ⟨s, hs⟩ := h f (by simp)
      obtain ⟨pl, h1, h2⟩ := ih fun g hg => h g (by simp [hg])
      refine ⟨(f.offset, s) :: pl, by simp only [List.mapM_cons, Sem.run_bind, run_size hs, Result.andThen_ok, Sem.run_pure, h1], fun i g s' hg hs' => ?_⟩
      cases i with
      | zero => simp at hg; subst hg; rw [hs] at hs'; cases hs'; rfl
      | succ i => simp at hg; simpa using h2 i g s' hg hs'
  obtain ⟨pl, h1, h2⟩ := key fs.toList (fun f hf' => by
    obtain ⟨i, hi, rfl⟩ := List.getElem_of_mem hf'
    exact hf i _ (by simp))
  refine ⟨pl.toArray, ?_, fun i f s hf hs => by simpa using h2 i f s (by simpa using hf) hs⟩
  rw [Array.mapM_eq_mapM_toList]
  simp only [Sem.run_map, h1, Result.andThen_ok]

include hc he in
theorem op_build {t : TypeId} {parts : Array (Nat × Operand)} {ao : AOp} (htr : trOp P (.build t parts) = some ao) {v : AV} {H' : Heap} (h : aop T cf ao e c.A = some (v, H')) : DoesV P (Instr.build t (parts.map fun (i, x) => (i, a.eval x))) c v H' := by
  simp only [trOp] at htr
  split at htr
  · rename_i z fs hz hu
    split at htr
    · rename_i hall
      obtain ⟨ps, hps, rfl⟩ := mapO_some htr
      simp only [aop] at h
      split at h
      · rename_i cs hcs
        cases h
        obtain ⟨zv, hzv, hzr⟩ := zeroO_some hz c
        obtain ⟨pl, hpl, hpl2⟩ := run_places (P := P) (fs := fs) (fun i f hf => by
          rw [List.all_eq_true] at hall
          have := hall f (by rw [Array.mem_toList_iff]; exact Array.mem_of_getElem? hf)
          exact Option.isSome_iff_exists.1 this) c.w
        obtain ⟨hl, hp⟩ := parts_ok (T := T) (place := (pl[·]?)) hc he (fun p q hq => by
          split at hq
          · rename_i f x hf hx
            obtain ⟨s, hs, rfl⟩ := mapO_some hq
            exact ⟨hpl2 _ _ _ hf hs, hx⟩
          · cases hq) hps
        obtain ⟨us, hu1, hu2⟩ := fill_ok hzr hl hp hcs
        refine .same hc.wr (y := .agg us) ?_ (by simpa using hu2.agg)
        simp only [Instr.build, Sem.run_bind, hzv, Result.andThen_ok, run_underlying hu, hpl, Array.toList_map]
        rw [hu1]; rfl
      · cases h
    · cases htr
  · rename_i z n el hz hu
    split at htr
    · rename_i s hs
      obtain ⟨ps, hps, rfl⟩ := mapO_some htr
      simp only [aop] at h
      split at h
      · rename_i cs hcs
        cases h
        obtain ⟨zv, hzv, hzr⟩ := zeroO_some hz c
        obtain ⟨hl, hp⟩ := parts_ok (T := T) (place := fun i => some (i * s, s)) hc he (fun p q hq => by
          obtain ⟨x, hx, rfl⟩ := mapO_some hq
          exact ⟨rfl, hx⟩) hps
        obtain ⟨us, hu1, hu2⟩ := fill_ok (place := fun i => some (i * s, s)) hzr hl hp hcs
        refine .same hc.wr (y := .agg us) ?_ (by simpa using hu2.agg)
        simp only [Instr.build, Sem.run_bind, hzv, Result.andThen_ok, run_underlying hu, run_size hs, Array.toList_map]
        rw [hu1]; rfl
      · cases h
    · cases htr
  · cases htr

include hc he in
theorem op_lit {t : TypeId} {len : Nat} {parts : Array (Nat × Operand)} {ao : AOp} (htr : trOp P (.buildSlice t len parts) = some ao) {v : AV} {H' : Heap} (h : aop T cf ao e c.A = some (v, H')) :
    DoesV P (Instr.buildSlice t len (parts.map fun (i, x) => (i, a.eval x))) c v H' := by
  simp only [trOp] at htr
  split at htr
  · rename_i el hu
    split at htr
    · rename_i z s hz hs
      split at htr
      · rename_i hcond
        obtain ⟨ps, hps, rfl⟩ := mapO_some htr
        simp only [aop] at h
        split at h
        · rename_i cs hcs
          cases h
          obtain ⟨zv, hzv, hzr⟩ := zeroO_some hz c
          obtain ⟨hl, hp⟩ := parts_ok (T := T) (place := fun i => some (i * s, s)) hc he (fun p q hq => by
            obtain ⟨x, hx, rfl⟩ := mapO_some hq
            exact ⟨rfl, hx⟩) hps
          have hzs : zv.cells.size = s := by have := hzr.len; simp at this; omega
          have hr := reps_vr hzr len
          rw [hzs] at hr
          obtain ⟨us, hu1, hu2⟩ := fill_ok (place := fun i => some (i * s, s)) hr hl hp hcs
          have hlen : cs.length = len * s := by
            have : ∀ (ps : List (Nat × Nat × AV)) (cs r : List AV), fillP cs ps = some r → r.length = cs.length := by
              intro ps
              induction ps with
              | nil => intro cs r h; cases h; rfl
              | cons p ps ih =>
                intro cs r h
                obtain ⟨o, sz, v⟩ := p
                unfold fillP at h
                split at h
                · rename_i hh; rw [ih _ _ h, splice_len (by omega)]
                · cases h
            rw [this _ _ _ hcs, reps_len, hcond.2]
          obtain ⟨c', h1, h2, h3, h4, h5⟩ := fresh_sl (P := P) hc el hu2 hlen
          refine ⟨_, c', ?_, h2, h3, h4, h5⟩
          have hlim : ¬ (len * s > 2 ^ 24) := by have := hcond.1; omega
          simp only [Instr.buildSlice, Sem.run_bind, run_underlying hu, Result.andThen_ok, run_size hs, Sem.run_ite, if_neg hlim, Sem.run_pure, Array.toList_map]
          by_cases h0 : len * s = 0
          · simp only [h0, if_true]
            have : ((Array.range 0).map fun x => (#[] : Array Value)[x % (#[] : Array Value).size]!) = (Array.range (len * s)).map (zv.cells[· % s]!) := by rw [h0]; simp
            rw [this, hu1]
            simp [h1]
          · simp only [h0, if_false, hzv, Result.andThen_ok, hzs]
            rw [hu1]
            simp [h1]
        · cases h
      · cases htr
    · cases htr
  · cases htr

include hc he in
theorem op_bin {op : BinOp} {t t' : TypeId} {x y : Operand} {ao : AOp} (hT : TabOK P T) (htr : trOp P (.binOp op t x y t') = some ao) {v : AV} {H' : Heap} (h : aop T cf ao e c.A = some (v, H')) :
    DoesV P (do eqGuard op t x y (a.eval x) (a.eval y); binOp op t (a.eval x) (a.eval y)) c v H' := by
  simp only [trOp] at htr
  split at htr
  · rename_i x' y' hx hy
    have hvx := opd_ok hc he hx
    have hvy := opd_ok hc he hy
    have fin : ∀ {q : EqT} {cn : Bool}, ((op = .eql ∨ op = .neq) → eqtO P 9 t = some q ∧ noGuard P t = true ∧ cn = (isK x || isK y)) → aop T cf (.bin op q cn x' y') e c.A = some (v, H') →
        DoesV P (do eqGuard op t x y (a.eval x) (a.eval y); binOp op t (a.eval x) (a.eval y)) c v H' := by
      intro q cn hqq h
      have guard : ∀ {s : Sem Value}, (∀ w : World, (eqGuard op t x y (a.eval x) (a.eval y)).run P c.w = .ok () c.w) → DoesV P s c v H' → DoesV P (do eqGuard op t x y (a.eval x) (a.eval y); s) c v H' := by
        intro s hg ⟨y, c', h1, h2⟩
        exact ⟨y, c', by simp [hg c.w, h1], h2⟩
      simp only [aop] at h
      split at h
      · rename_i k u k' u' hex hey
        rw [hex] at hvx; rw [hey] at hvy
        obtain ⟨xx, hxx⟩ : ∃ xx, a.eval x = xx := ⟨_, rfl⟩
        obtain ⟨yy, hyy⟩ : ∃ yy, a.eval y = yy := ⟨_, rfl⟩
        rw [hxx] at hvx; rw [hyy] at hvy
        cases hvx; cases hvy
        have hg : ∀ w : World, (eqGuard op t x y (a.eval x) (a.eval y)).run P c.w = .ok () c.w := fun _ => by rw [hxx, hyy]; cases op <;> simp [eqGuard]
        refine guard hg ?_
        rw [hxx, hyy]
        split at h
        · obtain ⟨h1, rfl⟩ := some_pair' h
          obtain ⟨r1, r2⟩ := shift_ok (P := P) (c := c) (.inl rfl) (k' := k') h1 t
          exact .same hc.wr r1 r2
        · obtain ⟨h1, rfl⟩ := some_pair' h
          obtain ⟨r1, r2⟩ := shift_ok (P := P) (c := c) (.inr rfl) (k' := k') h1 t
          exact .same hc.wr r1 r2
        · rename_i hs1 hs2
          split at h
          · rename_i hk; subst hk
            obtain ⟨h1, rfl⟩ := some_pair' h
            obtain ⟨r1, r2⟩ := intBin_ok (P := P) (c := c) h1 (fun e => hs1 e) (fun e => hs2 e) t
            exact .same hc.wr r1 r2
          · cases h
      · rename_i u u' hex hey
        rw [hex] at hvx; rw [hey] at hvy
        obtain ⟨xx, hxx⟩ : ∃ xx, a.eval x = xx := ⟨_, rfl⟩
        obtain ⟨yy, hyy⟩ : ∃ yy, a.eval y = yy := ⟨_, rfl⟩
        rw [hxx] at hvx; rw [hyy] at hvy
        cases hvx; cases hvy
        have hg : ∀ w : World, (eqGuard op t x y (a.eval x) (a.eval y)).run P c.w = .ok () c.w := fun _ => by rw [hxx, hyy]; cases op <;> simp [eqGuard]
        refine guard hg ?_
        rw [hxx, hyy]
        obtain ⟨h1, rfl⟩ := some_pair' h
        obtain ⟨r1, r2⟩ := strBin_ok (P := P) (c := c) h1 t
        exact .same hc.wr r1 r2
      · rename_i i o g j p g' hex hey
        rw [hex] at hvx; rw [hey] at hvy
        have key : ∀ {b : Bool}, ((op = .eql ∧ b = true) ∨ (op = .neq ∧ b = false)) → q = .nptr → (if i = j ∧ o = p ∧ g = g' ∧ (hget c.A i 0 0 g).isSome = true then some (AV.bool b, c.A) else none) = some (v, H') →
            DoesV P (do eqGuard op t x y (a.eval x) (a.eval y); binOp op t (a.eval x) (a.eval y)) c v H' := by
          intro b hop hq hh
          split at hh
          · rename_i hcond
            obtain ⟨rfl, rfl, rfl, hsome⟩ := hcond
            cases hh
            obtain ⟨cs0, hcs0⟩ := Option.isSome_iff_exists.1 hsome
            obtain ⟨o', ho', hg', _, _⟩ := hget_some hcs0
            have hq' := (hqq (by rcases hop with h | h; exact .inl h.1; exact .inr h.1)).1
            rw [hq] at hq'
            obtain ⟨te, tj, hu, hi⟩ := eqtO_nptr hq'
            obtain ⟨xx, hxx⟩ : ∃ xx, a.eval x = xx := ⟨_, rfl⟩
            obtain ⟨yy, hyy⟩ : ∃ yy, a.eval y = yy := ⟨_, rfl⟩
            rw [hxx] at hvx; rw [hyy] at hvy
            cases hvx with
            | ptr _ _ _ o1 a1 h1 h2 h3 =>
            cases hvy with
            | ptr _ _ _ o2 a2 k1 k2 k3 =>
              obtain rfl : o1 = o' := Option.some.inj (h1.symm.trans ho')
              obtain rfl : o2 = o1 := Option.some.inj (k1.symm.trans h1)
              obtain rfl := h3 hg'
              obtain rfl := k3 hg'
              have hg : ∀ w : World, (eqGuard op t x y (a.eval x) (a.eval y)).run P c.w = .ok () c.w := fun _ => by rw [hxx, hyy]; rcases hop with ⟨rfl, _⟩ | ⟨rfl, _⟩ <;> simp [eqGuard]
              refine guard hg ?_
              rw [hxx, hyy]
              rcases hop with ⟨rfl, rfl⟩ | ⟨rfl, rfl⟩
              · exact .same hc.wr (y := .bool true) (run_eql_ptr_same _ _ hu hi) (.bool _)
              · exact .same hc.wr (y := .bool false) (Lib.run_neq_ptr_same _ _ hu hi) (.bool _)
          · cases hh
        split at h
        · exact key (.inl ⟨rfl, rfl⟩) rfl h
        · exact key (.inr ⟨rfl, rfl⟩) rfl h
        · cases h
      · rename_i hn1 hn2 _
        have hnum : AV.num (ev T e x') (ev T e y') = false := by
          unfold AV.num
          split
          · rename_i h1 h2; exact absurd h2 (hn1 _ _ _ _ h1)
          · rename_i h1 h2; exact absurd h2 (hn2 _ _ h1)
          · rfl
        split at h
        · obtain ⟨hq, hng, rfl⟩ := hqq (.inl rfl)
          obtain ⟨r, hr, rfl, rfl⟩ := some_pair h
          exact guard (fun _ => eqGuard_ok .eql hvx hvy hng hq hr) (aeqBin_ok hT hc hq hvx hvy hnum hr).1
        · obtain ⟨hq, hng, rfl⟩ := hqq (.inr rfl)
          obtain ⟨r, hr, rfl, rfl⟩ := some_pair h
          exact guard (fun _ => eqGuard_ok .neq hvx hvy hng hq hr) (aeqBin_ok hT hc hq hvx hvy hnum hr).2
        · cases h
    split at htr
    · split at htr
      · rename_i q hq
        split at htr
        · rename_i hng
          cases htr
          exact fin (fun _ => ⟨hq, hng, rfl⟩) h
        · cases htr
      · cases htr
    · split at htr
      · rename_i q hq
        split at htr
        · rename_i hng
          cases htr
          exact fin (fun _ => ⟨hq, hng, rfl⟩) h
        · cases htr
      · cases htr
    · rename_i h1 h2
      cases htr
      exact fin (fun hh => by rcases hh with hh | hh; exact absurd hh h1; exact absurd hh h2) h
  · cases htr

include hc in
theorem mark_ok {i off n s g : Nat} {y : Value} (hy : VR c (.ms i off n s g) y) {o : AObj} (ho : c.A[i]? = some o) (hg : g = o.gen) (hl : o.live = true) (hn : n ≠ 0) (hs : s ≠ 0) :
    ∃ a len cap, y = .slice (some a) len cap ∧ DoesV P (do markStringish a; pure y) c (.ms i off n s g) c.A := by
  cases hy with
  | ms i off n s g ob a cap h1 hg' hle hsp ha hroom =>
    obtain rfl : ob = o := Option.some.inj (h1.symm.trans ho)
    have hcap : cap ≠ 0 := by omega
    obtain rfl := ha hg hcap
    refine ⟨_, n, cap, rfl, ?_⟩
    have hcell := hroom hg hcap 0 (by
      have : 0 < cap * s := Nat.mul_pos (by omega) (by omega)
      omega)
    obtain ⟨cs, t, fr, hb⟩ : ∃ cs t fr, c.w.heap[c.blk i]? = some (.cells cs t fr) := by
      simp only [Cx.at, World.cell?] at hcell
      split at hcell
      · rename_i cs t fr hb; exact ⟨cs, t, fr, hb⟩
      · cases hcell
    obtain ⟨lo, hi⟩ := fr
    have hlt := hc.wr.lt i ob ho
    have hflat := hc.wr.flat i ob ho hl cs t (lo, hi) hb
    simp only at hflat
    have hlo : lo = hi ∨ cs.size ≤ lo := by
      by_cases e : lo = hi
      · exact .inl e
      · refine .inr ?_
        rcases Nat.lt_or_ge lo cs.size with h | h
        · have hcl : (c.w.cell? ⟨c.blk i, lo, none⟩).isSome = true := by
            simp [World.cell?, hb, h]
          have := hc.wr.soft i ob ho hl lo hcl
          simp only [World.frozen?, hb] at this
          simp at this
          omega
        · exact h
    let fr' : Nat × Nat := if lo == hi then (cs.size, cs.size + 1) else (min lo cs.size, max hi (cs.size + 1))
    let w' : World := c.w.freeze ⟨c.blk i, cs.size, none⟩ 1
    have hb' : w'.heap[c.blk i]? = some (.cells cs t fr') := by
      simp only [w', World.freeze]
      rw [if_neg (by decide)]
      simp only [Array.getElem?_modify, if_true, hb, Option.map_some]
      rfl
    have hne : ∀ j, j ≠ c.blk i → w'.heap[j]? = c.w.heap[j]? := fun j hj => by
      simp only [w', World.freeze]
      rw [if_neg (by decide)]
      simp only [Array.getElem?_modify]
      rw [if_neg (fun e => hj e.symm)]
    have hcells : ∀ a : Addr, w'.cell? a = c.w.cell? a := fun a => by
      by_cases e : a.block = c.blk i
      · simp only [World.cell?, e, hb', hb]
      · simp only [World.cell?, hne _ e]
    have hsz : w'.heap.size = c.w.heap.size := by
      simp only [w', World.freeze]
      rw [if_neg (by decide)]
      simp
    have hfr1 : fr'.1 ≤ fr'.2 := by
      simp only [fr']
      split
      · simp
      · simp only; omega
    have hfr2 : cs.size ≤ fr'.1 := by
      simp only [fr']
      split
      · exact Nat.le_refl _
      · rename_i e
        have : lo ≠ hi := by simpa using e
        rcases hlo with h | h
        · exact absurd h this
        · simp only; omega
    have hre := re_ok hc.wr ho (b := c.blk i) (p := c.base i) (o' := ob) (w' := w') (fun h => h) (Nat.le_refl _) (fun _ => ⟨rfl, rfl⟩) (.inl rfl) (Nat.le_of_eq hsz.symm) (by rw [hsz]; exact hlt)
      (fun j _ hj => hne j (by rcases hj with h | h; exact h; rw [hl] at h; cases h)) (fun a ha => by rw [hcells]; exact ha) (by simp only [w', World.freeze]; rw [if_neg (by decide)]) (by simp only [w', World.freeze]; rw [if_neg (by decide)])
      (fun _ k hk => by
        have hks : k < cs.size := by
          rcases Nat.lt_or_ge k cs.size with h | h
          · exact h
          · simp [World.cell?, hb', Array.getElem?_eq_none h] at hk
        simp only [World.frozen?, hb']
        have : ¬ fr'.1 ≤ k := by omega
        simp [this])
      (fun _ cs2 t2 fr2 e => by rw [hb'] at e; cases e; exact hfr1)
      (fun _ => by
        have hk := hc.wr.kind i ob ho hl
        cases hkd : ob.kd with
        | no => trivial
        | it s pos => rw [hkd] at hk; exact absurd (hb.symm.trans hk.2) (by simp)
        | typ t0 =>
          rw [hkd] at hk
          obtain ⟨k1, n, k2⟩ := hk
          refine ⟨k1, n, ?_⟩
          rw [← k2]
          simp only [World.shape?, hb', hb])
      (fun k a hk => by
        obtain ⟨v, h1, h2⟩ := hc.wr.cell i ob ho k a hk
        exact ⟨v, by rw [hcells]; exact h1, h2⟩)
    have hA : c.A.set i ob = c.A := by
      apply List.ext_getElem?
      intro j
      rw [List.getElem?_set]
      split
      · rename_i e; subst e; rw [if_pos (lt_of_some ho), ho]
      · rfl
    refine ⟨_, c.re i (c.blk i) (c.base i) ob w', ?_, hre.1, hre.2, hA, (VR.ms i off n s g ob _ cap h1 hg' hle hsp ha hroom).ext hre.1⟩
    have hsh : c.w.shape? (c.blk i) = some (t, cs.size) := by simp [World.shape?, hb]
    simp only [markStringish, Cx.at, Sem.run_bind, run_shape, hsh, Result.andThen_ok, run_freeze, Sem.run_pure]
    rfl

theorem typOf_some {H : Heap} {i g : Nat} {t : TypeId} (h : typOf H i g = some t) : ∃ o, H[i]? = some o ∧ g = o.gen ∧ o.live = true ∧ o.kd = .typ t := by
  unfold typOf at h
  split at h
  · rename_i o ho
    split at h
    · rename_i hc
      split at h
      · rename_i t' hk; cases h; exact ⟨o, ho, hc.1, hc.2, hk⟩
      · cases h
    · cases h
  · cases h

/-- In a row of variables of a type one of them lies at its head. -/
theorem liesAt_self {P : Program} {t : TypeId} {count : Nat} (hc : P.cellsOf t ≠ 0) (hn : 1 ≤ count) : liesAt P P.depth t count 0 t 1 = true := by
  have hd : P.depth = (2 * (P.types.size + Made.depth) + 1) + 1 := rfl
  rw [hd]
  simp only [liesAt, Bool.or_eq_true]
  left
  rw [hd]
  simp [rowAt, hc, hn, sameLayout]

include hc in
/-- What lies behind a pointer to the head of a row of a type. -/
theorem typ_ptr {i g k : Nat} {t : TypeId} {y : Value} (hv : VR c (.ptr i 0 g) y) (ht : typOf c.A i g = some t) (hk : (hget c.A i 0 k g).isSome = true) :
    ∃ b n, y = .pointer (some ⟨b, 0, none⟩) ∧ c.w.shape? b = some (t, n) ∧ k ≤ n ∧ b = c.blk i ∧ c.base i = 0 := by
  obtain ⟨o, ho, hg, hl, hkd⟩ := typOf_some ht
  have hkk := hc.wr.kind i o ho hl
  rw [hkd] at hkk
  obtain ⟨hb0, n, hn⟩ := hkk
  cases hv with
  | ptr _ _ _ o' a h1 h2 h3 =>
    obtain rfl : o' = o := Option.some.inj (h1.symm.trans ho)
    obtain rfl := h3 hg
    refine ⟨c.blk i, n, by simp [Cx.at, hb0], hn, ?_, rfl, hb0⟩
    obtain ⟨cs, hcs⟩ := Option.isSome_iff_exists.1 hk
    obtain ⟨o2, ho2, _, hle, _⟩ := hget_some hcs
    obtain rfl : o' = o2 := Option.some.inj (h1.symm.trans ho2)
    rcases Nat.eq_zero_or_pos k with hk0 | hk0
    · omega
    · have hlt : k - 1 < o'.cells.length := by omega
      obtain ⟨v, hv1, _⟩ := hc.wr.cell i o' ho (k - 1) _ (List.getElem?_eq_getElem hlt)
      rw [Cx.at, hb0] at hv1
      simp only [World.shape?] at hn
      simp only [World.cell?] at hv1
      split at hn
      · rename_i cs t' fr hb
        rw [hb] at hv1
        simp at hv1 hn
        obtain ⟨hlt2, _⟩ := Array.getElem?_eq_some_iff.1 hv1
        omega
      · cases hn

include hc he in
theorem op_conv {s d : TypeId} {x : Operand} {ao : AOp} (htr : trOp P (.convert s d x) = some ao) {v : AV} {H' : Heap} (h : aop T cf ao e c.A = some (v, H')) :
    DoesV P (convert s d (a.eval x)) c v H' := by
  simp only [trOp] at htr
  split at htr
  · rename_i k0 k x' hs hd hx
    cases htr
    have hv := opd_ok hc he hx
    simp only [aop] at h
    split at h
    · rename_i hev
      cases h
      rw [hev] at hv
      generalize a.eval x = y at hv
      cases hv
      exact .same hc.wr (y := .int k (k.wrap _)) (by simp [convert, run_underlying hs, run_underlying hd, Conv.intToInt]) (.int _ _)
    · cases h
  · rename_i el x' hs hd hx
    split at htr
    · rename_i hel
      cases htr
      have hv := opd_ok hc he hx
      simp only [aop] at h
      split at h
      · rename_i str hev
        split at h
        · cases h
          rw [hev] at hv
          generalize a.eval x = y at hv
          cases hv
          obtain ⟨y, c', h1, h2⟩ := toBytes_ok (P := P) hc el str
          exact ⟨y, c', by simp [convert, run_underlying hs, run_underlying hd, run_underlying hel, h1], h2⟩
        · cases h
      · cases h
    · cases htr
  · rename_i el x' hs hd hx
    split at htr
    · rename_i hel hsz
      cases htr
      have hv := opd_ok hc he hx
      simp only [aop] at h
      split at h
      · rename_i m cs hview
        split at h
        · cases h
        · rename_i hns
          obtain ⟨str, hstr, rfl, rfl⟩ := some_pair h
          obtain ⟨y, c', h1, h2⟩ := ofBytes_ok (P := P) hc hv hview (fun s hs => hns s hs) hstr
          refine ⟨y, c', ?_, h2⟩
          have hsl : ∃ b n cap, a.eval x = .slice b n cap := by
            clear h1 h2 h hx hstr
            generalize ev T e x' = z at hv hview hns
            generalize a.eval x = y' at hv
            unfold viewOf at hview
            split at hview
            · cases hv; exact ⟨_, _, _, rfl⟩
            · exact (hns _ rfl).elim
            · cases hv; exact ⟨_, _, _, rfl⟩
            · cases hv; exact ⟨_, _, _, rfl⟩
            · cases hview
          obtain ⟨b, n, cap, hy⟩ := hsl
          rw [hy] at h1 ⊢
          cases b <;> simp [convert, run_underlying hs, run_underlying hd, run_underlying hel, h1]
      · cases h
    · cases htr
  · rename_i x' hs hd hx
    cases htr
    have hv := opd_ok hc he hx
    simp only [aop] at h
    split at h
    · rename_i hev
      cases h
      rw [hev] at hv
      generalize a.eval x = y at hv
      cases hv
      exact .same hc.wr (y := .string _) (by simp [convert, run_underlying hs, run_underlying hd]) (.str _)
    · cases h
  · rename_i k0 x' hs hd hx
    cases htr
    have hv := opd_ok hc he hx
    simp only [aop] at h
    split at h
    · rename_i hev
      cases h
      rw [hev] at hv
      generalize a.eval x = y at hv
      cases hv
      exact .same hc.wr (y := .string _) (by simp [convert, run_underlying hs, run_underlying hd, Conv.intToString] <;> rfl) (.str _)
    · cases h
  · rename_i t x' hs hd hx
    split at htr
    · rename_i k hk
      split at htr
      · rename_i hco
        cases htr
        have hv := opd_ok hc he hx
        simp only [aop] at h
        split at h
        · rename_i i off g hev
          split at h
          · rename_i hcond
            obtain ⟨rfl, ht, hsome⟩ := hcond
            cases h
            rw [hev] at hv
            obtain ⟨b, n, hy, hsh, hkn, _, _⟩ := typ_ptr hc hv ht hsome
            obtain ⟨j, hj, hjs⟩ : ∃ j, P.info? t = some j ∧ j.size = k + 1 := by
              unfold sizeO at hk
              cases hi : P.info? t with
              | none => rw [hi] at hk; cases hk
              | some j => rw [hi] at hk; exact ⟨j, rfl, by simpa using hk⟩
            refine .same hc.wr (y := a.eval x) ?_ hv
            rw [hy]
            exact Lib.run_to_unsafe _ _ hs hd hj (by omega) hsh (by simp only; omega)
          · cases h
        · cases h
      · cases htr
    · cases htr
  · rename_i t x' hs hd hx
    split at htr
    · rename_i k hk
      split at htr
      · rename_i hco
        cases htr
        have hv := opd_ok hc he hx
        simp only [aop] at h
        split at h
        · rename_i i off g hev
          split at h
          · rename_i hcond
            obtain ⟨rfl, ht, hsome⟩ := hcond
            cases h
            rw [hev] at hv
            obtain ⟨b, n, hy, hsh, hkn, _, _⟩ := typ_ptr hc hv ht hsome
            obtain ⟨j, hj, hjs⟩ : ∃ j, P.info? t = some j ∧ j.size = k + 1 := by
              unfold sizeO at hk
              cases hi : P.info? t with
              | none => rw [hi] at hk; cases hk
              | some j => rw [hi] at hk; exact ⟨j, rfl, by simpa using hk⟩
            refine .same hc.wr (y := a.eval x) ?_ hv
            rw [hy]
            exact Lib.run_from_unsafe _ _ hs hd hj hsh (liesAt_self (by omega) (Nat.div_pos (by omega) (by omega)))
          · cases h
        · cases h
      · cases htr
    · cases htr
  · rename_i el el' x' hs hd hx
    split at htr
    · rename_i hsd
      subst hsd
      split at htr
      · rename_i hel
        cases htr
        have hv := opd_ok hc he hx
        simp only [aop] at h
        split at h
        · rename_i i off n sz g hev
          split at h
          · rename_i o ho
            split at h
            · rename_i hcond
              cases h
              rw [hev] at hv
              generalize a.eval x = y at hv
              obtain ⟨ad, len, cap, rfl, hd2⟩ := mark_ok (P := P) hc hv ho hcond.1 hcond.2.1 hcond.2.2.1 hcond.2.2.2
              obtain ⟨y', c', hr, hrest⟩ := hd2
              refine ⟨y', c', ?_, hrest⟩
              rw [← hr]
              rw [hs] at hd
              cases hd
              simp [convert, run_underlying hs, run_underlying hel]
            · cases h
          · cases h
        · cases h
      · cases htr
    · cases htr
  · cases htr
include hc he in
theorem op_litM {t : TypeId} {len : Nat} {parts : Array (Nat × Operand)} {ao : AOp} (htr : trLitM P (.buildSlice t len parts) = some ao) {v : AV} {H' : Heap} (h : aop T cf ao e c.A = some (v, H')) :
    DoesV P (Instr.buildSlice t len (parts.map fun (i, x) => (i, a.eval x))) c v H' := by
  unfold trLitM at htr
  split at htr
  · rename_i n s z ps htr'
    cases htr
    simp only [trOp] at htr'
    split at htr'
    · rename_i el hu
      split at htr'
      · rename_i z0 s0 hz hs
        split at htr'
        · rename_i hcond
          obtain ⟨ps', hps, hpe⟩ := mapO_some htr'
          cases hpe
          simp only [aop] at h
          split at h
          · rename_i cs hcs
            cases h
            obtain ⟨zv, hzv, hzr⟩ := zeroO_some hz c
            obtain ⟨hl, hp⟩ := parts_ok (T := T) (place := fun i => some (i * s, s)) hc he (fun p q hq => by
              obtain ⟨x, hx, rfl⟩ := mapO_some hq
              exact ⟨rfl, hx⟩) hps
            have hzs : zv.cells.size = s := by have := hzr.len; simp at this; omega
            have hr := reps_vr hzr len
            rw [hzs] at hr
            obtain ⟨us, hu1, hu2⟩ := fill_ok (place := fun i => some (i * s, s)) hr hl hp hcs
            have hlen : cs.length = len * s := by
              have : ∀ (ps : List (Nat × Nat × AV)) (cs r : List AV), fillP cs ps = some r → r.length = cs.length := by
                intro ps
                induction ps with
                | nil => intro cs r h; cases h; rfl
                | cons p ps ih =>
                  intro cs r h
                  obtain ⟨o, sz, v⟩ := p
                  unfold fillP at h
                  split at h
                  · rename_i hh; rw [ih _ _ h, splice_len (by omega)]
                  · cases h
              rw [this _ _ _ hcs, reps_len, hcond.2]
            obtain ⟨c', h1, h2, h3, h4, h5, h6, h7⟩ := new_row (P := P) hc el (VRs.find hu2)
            have husz : us.size = len * s := by rw [← hlen]; have := hu2.len; simp at this; omega
            refine ⟨.slice (some ⟨c.w.heap.size, 0, none⟩) len len, c', ?_, h2, h3, h4, ?_⟩
            · have hlim : ¬ (len * s > 2 ^ 24) := by have := hcond.1; omega
              simp only [Instr.buildSlice, Sem.run_bind, run_underlying hu, Result.andThen_ok, run_size hs, Sem.run_ite, if_neg hlim, Sem.run_pure, Array.toList_map]
              by_cases h0 : len * s = 0
              · simp only [h0, if_true]
                have : ((Array.range 0).map fun x => (#[] : Array Value)[x % (#[] : Array Value).size]!) = (Array.range (len * s)).map (zv.cells[· % s]!) := by rw [h0]; simp
                rw [this, hu1]
                simp [h1]
              · simp only [h0, if_false, hzv, Result.andThen_ok, hzs]
                rw [hu1]
                simp [h1]
            · refine .ms _ _ _ _ _ ⟨cs, 0, true, .no⟩ _ _ (by rw [h4]; exact hnew_new _ _) (Nat.le_refl _) (Nat.le_refl _) rfl (fun _ _ => by simp [Cx.at, h5, h6]) (fun _ _ k hk => ?_)
              simp only [Cx.at, h5, h6, World.cell?, h7]
              rw [Array.getElem?_push]
              simp only [if_true, Option.isSome_none, Bool.false_eq_true, if_false]
              rw [Array.getElem?_eq_getElem (by omega)]; rfl
          · cases h
        · cases htr'
      · cases htr'
    · cases htr'
  · cases htr
end
end Go.Eng

namespace Go.Eng
open Go

section
variable {P : Program} {T : Tab} {c : Cx} (hc : OK T c) {a : Act} {e : Env} (he : EnvR c e a.tmps) {cf : CF}

theorem wrap64_id {n : Int} (h0 : 0 ≤ n) (h : n ≤ 1099511627776) : IntKind.i64.wrap n = n := by
  unfold IntKind.wrap
  simp [IntKind.signed, IntKind.bits]
  omega

include hc he in
theorem op_makeSlice {t : TypeId} {x y : Operand} {ao : AOp} (htr : trOp P (.makeSlice t x y) = some ao) {v : AV} {H' : Heap} (h : aop T cf ao e c.A = some (v, H')) : DoesV P (Instr.makeSlice t (a.eval x) (a.eval y)) c v H' := by
  simp only [trOp] at htr
  split at htr
  · rename_i el hu
    split at htr
    · rename_i i z x' y' hi hz hx hy
      split at htr
      · rename_i hcond
        cases htr
        have hvx := opd_ok hc he hx
        have hvy := opd_ok hc he hy
        simp only [aop] at h
        split at h
        · rename_i k l k' cp hex hey
          rw [hex] at hvx; rw [hey] at hvy
          split at h
          · rename_i hb
            obtain ⟨h0, hlc, hlim⟩ := hb
            cases h
            generalize a.eval x = xx at hvx
            generalize a.eval y = yy at hvy
            cases hvx; cases hvy
            obtain ⟨zv, hzv, hzr⟩ := zeroO_some hz c
            have hzs : zv.cells.size = i.size := by have := hzr.len; simp at this; omega
            have hcp : 0 ≤ cp := by omega
            obtain ⟨m, rfl⟩ := Int.eq_ofNat_of_zero_le hcp
            obtain ⟨n, rfl⟩ := Int.eq_ofNat_of_zero_le h0
            have hb1 : (m : Int) * (i.bytes + 1) ≤ 1099511627776 := by simpa [LIM] using hlim
            have hb2 : (m : Int) * i.bytes ≤ 1099511627776 := by
              have : (m : Int) * (i.bytes + 1) = m * i.bytes + m := by rw [Int.mul_add]; omega
              omega
            have hb3 : (m : Int) ≤ 1099511627776 := by
              have h1 : (m : Int) * (i.bytes + 1) = m * i.bytes + m := by rw [Int.mul_add]; omega
              have h2 : 0 ≤ (m : Int) * i.bytes := Int.mul_nonneg (by omega) (by omega)
              omega
            have w1 := wrap64_id h0 (by omega : (n : Int) ≤ _)
            have w2 := wrap64_id hcp hb3
            have hr := reps_vr hzr m
            rw [hzs] at hr
            obtain ⟨c', r1, r2, r3, r4, r5, r6, r7⟩ := new_row (P := P) hc el (VRs.find hr)
            refine ⟨.slice (some ⟨c.w.heap.size, 0, none⟩) n m, c', ?_, r2, r3, by simpa using r4, ?_⟩
            · have hty : ∀ w : World, (typeInfo el).run P w = .ok i w := fun w => by simp [typeInfo, hi]
              have hsz : ∀ w : World, (sizeOf el).run P w = .ok i.size w := fun w => by simp [sizeOf, hty]
              have t1 : ¬ (((m : Int) < 0) ∨ (i.bytes : Int) * m > 2 ^ 48) := by
                rw [Int.mul_comm]; omega
              simp only [Instr.makeSlice, Sem.run_bind, run_underlying hu, Result.andThen_ok, asInt, asIntOf, Sem.run_pure, hty, w1, w2]
              have t2 : (decide ((m : Int) < 0) || decide ((i.bytes : Int) * m > 2 ^ 48) || decide ((n : Int) < 0) || decide ((n : Int) > m)) = false := by
                simp only [Bool.or_eq_false_iff, decide_eq_false_iff_not]
                omega
              rw [if_neg (by rw [t2]; decide)]
              simp only [Sem.run_bind, run_askRoom, Result.andThen_ok, hsz, Sem.run_ite, Int.toNat_natCast]
              by_cases hm0 : m * i.size = 0
              · simp only [hm0, if_true, Sem.run_pure, Result.andThen_ok]
                have : ((Array.range 0).map fun x => (#[] : Array Value)[x % (#[] : Array Value).size]!) = (Array.range (m * i.size)).map (zv.cells[· % i.size]!) := by rw [hm0]; simp
                rw [this]
                simp [r1]
              · simp only [hm0, if_false, hzv, Result.andThen_ok, Sem.run_pure, hzs]
                simp [r1]
            · have hA : c'.A = hnew c.A (reps m z) := by simpa using r4
              refine .ms _ _ _ _ _ ⟨reps m z, 0, true, .no⟩ _ _ (by rw [hA]; exact hnew_new _ _) (Nat.le_refl _) (by omega) rfl (fun _ _ => by simp [Cx.at, r5, r6]) (fun _ _ k hk => ?_)
              simp only [Cx.at, r5, r6, World.cell?, r7]
              rw [Array.getElem?_push]
              simp only [if_true, Option.isSome_none, Bool.false_eq_true, if_false, Nat.zero_add]
              rw [Array.getElem?_eq_getElem (by simp; omega)]; rfl
          · cases h
        · cases h
      · cases htr
    · cases htr
  · cases htr

theorem pair_of_opt {α : Type} {o : Option α} {H H' : Heap} {v : AV} {f : α → AV} (h : o.map (fun x => (f x, H)) = some (v, H')) : ∃ x, o = some x ∧ f x = v ∧ H = H' := some_pair h

include hc he in
theorem op_slice {t : TypeId} {x : Operand} {lo hi mx : Option Operand} {ao : AOp} (htr : trOp P (.slice t x lo hi mx) = some ao) {v : AV} {H' : Heap} (h : aop T cf ao e c.A = some (v, H')) :
    DoesV P (Instr.sliceAt t (a.eval x) (lo.map a.eval) (hi.map a.eval) (mx.map a.eval)) c v H' := by
  simp only [trOp] at htr
  split at htr
  · rename_i x' lo' hi' mx' hx hlo hhi hmx
    have fin : ∀ {k : SlT}, SlK P t k → aop T cf (.slice k x' lo' hi' mx') e c.A = some (v, H') → DoesV P (Instr.sliceAt t (a.eval x) (lo.map a.eval) (hi.map a.eval) (mx.map a.eval)) c v H' := by
      intro k hk h
      simp only [aop] at h
      obtain ⟨h1, rfl⟩ := some_pair' h
      exact slice_ok hc hk (opd_ok hc he hx) (vro hc he hlo) (vro hc he hhi) (vro hc he hmx) h1
    split at htr
    · rename_i hu; cases htr; exact fin (k := .str) hu h
    · rename_i el hu
      obtain ⟨s, hs, rfl⟩ := mapO_some htr
      exact fin (k := .sl s) ⟨el, hu, hs⟩ h
    · rename_i n el hu
      obtain ⟨s, hs, rfl⟩ := mapO_some htr
      exact fin (k := .arr n s) (Or.inl ⟨el, hu, hs⟩) h
    · rename_i arr hu
      split at htr
      · rename_i n el hua
        obtain ⟨s, hs, rfl⟩ := mapO_some htr
        exact fin (k := .arr n s) (Or.inr ⟨arr, el, hu, hua, hs⟩) h
      · cases htr
    · cases htr
  · cases htr

include hc he in
theorem op_assert {x : Operand} {xt t : TypeId} {ok : Bool} {ao : AOp} (hT : TabOK P T) (htr : trOp P (.typeAssert x xt t ok) = some ao) {v : AV} {H' : Heap} (h : aop T cf ao e c.A = some (v, H')) :
    DoesV P (Instr.typeAssert (a.eval x) xt t ok) c v H' := by
  simp only [trOp] at htr
  split at htr
  · rename_i x' ms hx hu
    have hv := opd_ok hc he hx
    split at htr
    · rename_i hz
      cases htr
      simp only [aop] at h
      split at h
      · rename_i h1 h2; cases h1
      · rename_i h1 h2; cases h1
      · rename_i t' u y h1 hev
        cases h1
        rw [hev] at hv
        generalize a.eval x = yy at hv
        cases hv with
        | iface _ _ y' hy =>
          split at h
          · rename_i hi
            obtain ⟨ms', i, e1, e2, e3⟩ := hT.impl _ _ _ hi
            rw [hu] at e1; cases e1
            have e4 : Instr.missingMethod ms i.methods = none := by simpa using e3
            cases h
            cases ok with
            | true => exact .same hc.wr (y := .tuple #[.iface u y', .bool true]) (by simp [Instr.typeAssert, run_underlying hu, typeInfo, e2, e4]) (VRs.tup (.cons (.iface _ _ _ hy) (.cons (.bool _) (.nil c))))
            | false => exact .same hc.wr (y := .iface u y') (by simp [Instr.typeAssert, run_underlying hu, typeInfo, e2, e4]) (.iface _ _ _ hy)
          · rename_i hi
            obtain ⟨ms', i, e1, e2, e3⟩ := hT.impl _ _ _ hi
            rw [hu] at e1; cases e1
            obtain ⟨m, e4⟩ : ∃ m, Instr.missingMethod ms i.methods = some m := Option.isSome_iff_exists.1 (by simpa using e3)
            cases ok with
            | true =>
              cases h
              exact .same hc.wr (y := .tuple #[.nilIface, .bool false]) (by simp [Instr.typeAssert, run_underlying hu, typeInfo, e2, e4, run_zero hz]) (VRs.tup (.cons (.cst _) (.cons (.bool _) (.nil c))))
            | false => cases h
          · cases h
      · rename_i t' h1 hev
        cases h1
        rw [hev] at hv
        generalize a.eval x = yy at hv
        cases hv
        cases ok with
        | true =>
          cases h
          exact .same hc.wr (y := .tuple #[.nilIface, .bool false]) (by simp [Instr.typeAssert, run_underlying hu, run_zero hz]) (VRs.tup (.cons (.cst _) (.cons (.bool _) (.nil c))))
        | false => cases h
      · cases h
    · cases htr
  · rename_i x' d hni hx hu
    have hv := opd_ok hc he hx
    split at htr
    · rename_i z hz
      obtain ⟨za, hza, rfl⟩ := mapO_some htr
      have hzv : VR c za z := ofV_ok hza
      simp only [aop] at h
      split at h
      · rename_i t' z' u y h1 hev
        cases h1
        rw [hev] at hv
        generalize a.eval x = yy at hv
        cases hv with
        | iface _ _ y' hy =>
          split at h
          · rename_i hut
            subst hut
            cases h
            cases ok with
            | true =>
              refine .same hc.wr (y := .tuple #[y', .bool true]) ?_ (VRs.tup (.cons hy (.cons (.bool _) (.nil c))))
              cases d <;> first | exact (hni _ rfl).elim | simp [Instr.typeAssert, run_underlying hu]
            | false =>
              refine .same hc.wr (y := y') ?_ hy
              cases d <;> first | exact (hni _ rfl).elim | simp [Instr.typeAssert, run_underlying hu]
          · rename_i hut
            cases ok with
            | true =>
              cases h
              refine .same hc.wr (y := .tuple #[z, .bool false]) ?_ (VRs.tup (.cons hzv (.cons (.bool _) (.nil c))))
              cases d <;> first | exact (hni _ rfl).elim | simp [Instr.typeAssert, run_underlying hu, hut, run_zero hz]
            | false => cases h
      · rename_i t' z' h1 hev
        cases h1
        rw [hev] at hv
        generalize a.eval x = yy at hv
        cases hv
        cases ok with
        | true =>
          cases h
          refine .same hc.wr (y := .tuple #[z, .bool false]) ?_ (VRs.tup (.cons hzv (.cons (.bool _) (.nil c))))
          cases d <;> first | exact (hni _ rfl).elim | simp [Instr.typeAssert, run_underlying hu, run_zero hz]
        | false => cases h
      · rename_i h1 h2; cases h1
      · rename_i h1 h2; cases h1
      · cases h
    · cases htr
  · cases htr
end
end Go.Eng

namespace Go.Eng
open Go

theorem list2 {α β : Type} {f : α → Option β} {l : List α} {x y : β} (h : mapOpt f l = some [x, y]) : ∃ p q, l = [p, q] ∧ f p = some x ∧ f q = some y := by
  obtain ⟨h1, h2⟩ := mapOpt_len h
  match l, h1 with
  | [p, q], _ =>
    obtain ⟨b1, e1, f1⟩ := h2 0 p rfl
    obtain ⟨b2, e2, f2⟩ := h2 1 q rfl
    simp at e1 e2
    subst e1; subst e2
    exact ⟨p, q, rfl, f1, f2⟩
theorem list1 {α β : Type} {f : α → Option β} {l : List α} {x : β} (h : mapOpt f l = some [x]) : ∃ p, l = [p] ∧ f p = some x := by
  obtain ⟨h1, h2⟩ := mapOpt_len h
  match l, h1 with
  | [p], _ =>
    obtain ⟨b1, e1, f1⟩ := h2 0 p rfl
    simp at e1
    subst e1
    exact ⟨p, rfl, f1⟩

theorem first_le {P : Program} {T : Tab} {c : Cx} (hc : OK T c) {e : Nat} {x : AV} {y : Value} (hx : VR c x y) {m : Nat} {ys : List AV} (h : viewOf c.A e x = some (m, ys)) (hyl : ys.length = m * e) {vs : List Value} (hyv : VRs c ys vs)
    (hrd : ∀ w', w'.heap = c.w.heap → (Builtin.lenOf y).run P w' = .ok m w' ∧ (Builtin.firstCells e m y).run P w' = .ok vs.toArray w') {k : Nat} (hk : k ≤ m) :
    (Builtin.firstCells e k y).run P c.w = .ok (vs.take (k * e)).toArray c.w := by
  have hvl : vs.length = m * e := by rw [← hyv.len, hyl]
  have hke : k * e ≤ m * e := Nat.mul_le_mul_right _ hk
  have hv := (hrd c.w rfl).2
  unfold viewOf at h
  split at h
  · cases h; cases hx
    obtain rfl : vs = [] := List.eq_nil_of_length_eq_zero (by simpa using hvl)
    simp [Builtin.firstCells]
  · rename_i s
    split at h
    · rename_i he; subst he
      cases h; cases hx
      simp only [Builtin.firstCells, Sem.run_pure] at hv ⊢
      rw [extract_list] at hv ⊢
      simp only [List.take_length, Nat.mul_one] at hv ⊢
      have : s.map (fun b => Value.int .u8 b.toNat) = vs := by simpa using hv
      rw [← this]
      simp
    · cases h
  · rename_i full n e' cs
    split at h
    · rename_i he; subst he
      cases h
      cases hx with
      | sl full n e cells us b o cap sp hsp hn hf0 he hlen hr hp hcc =>
        have hus : (loadCells ⟨b, o, sp⟩ us.length).run P c.w = .ok us.toArray c.w := reads_sp hsp hlen rfl hcc
        simp only [Builtin.firstCells] at hv ⊢
        rw [show m * e' = us.length by omega, hus] at hv
        have e1 : us = vs := by simpa using hv
        subst e1
        have := reads_sp (P := P) (w := c.w) (w' := c.w) (sp := sp) (cells := ys.take (k * e')) (fun h => hsp fun h0 => h (by simp [h0])) (by simp [hlen]) rfl (b := b) (o := o) (vs := us.take (k * e')) (fun j v hj => by
          rw [List.getElem?_take] at hj
          split at hj
          · exact hcc j v hj
          · cases hj)
        rw [show (us.take (k * e')).length = k * e' by simp; omega] at this
        exact this
    · cases h
  · rename_i i off n e' g
    split at h
    · rename_i he; subst he
      cases hh : hget c.A i off (n * e') g with
      | none => rw [hh] at h; cases h
      | some cs =>
        rw [hh] at h; cases h
        obtain ⟨hl, us, h2, h3⟩ := row_cells hc.wr hh
        obtain ⟨o', ho', hg', _, _⟩ := hget_some hh
        cases hx with
        | ms i off n e g ob a cap h1 hg hn hs ha hroom =>
          obtain rfl : ob = o' := Option.some.inj (h1.symm.trans ho')
          simp only [Builtin.firstCells] at hv ⊢
          by_cases hcap : cap = 0
          · obtain rfl : m = 0 := by omega
            obtain rfl : k = 0 := by omega
            simp [loadCells, loadCellsFrom]
          · rw [ha hg' hcap] at hv ⊢
            have hus : (loadCells (c.at i off) us.length).run P c.w = .ok us.toArray c.w := reads_heap rfl h3
            rw [show m * e' = us.length by rw [← h2.len, hl], hus] at hv
            have e1 : us = vs := by simpa using hv
            subst e1
            have := reads_heap (P := P) (w := c.w) (w' := c.w) rfl (b := c.blk i) (o := c.base i + off) (vs := us.take (k * e')) (fun j v hj => by
              rw [List.getElem?_take] at hj
              split at hj
              · exact h3 j v hj
              · cases hj)
            rw [show (us.take (k * e')).length = k * e' by simp; omega] at this
            exact this
    · cases h
  · cases h

theorem arr_head (u : Value) (us : Array Value) : (#[u] ++ us)[0]? = some u := by
  obtain ⟨l⟩ := us
  simp
theorem arr_tail (u : Value) (us : Array Value) : (#[u] ++ us).extract 1 (#[u] ++ us).size = us := by
  obtain ⟨l⟩ := us
  apply Array.ext'
  simp [List.extract_eq_take_drop]

section
variable {P : Program} {T : Tab} {c : Cx} (hc : OK T c) {a : Act} {e : Env} (he : EnvR c e a.tmps) {cf : CF}

theorem run_next {P : Program} {w : World} {b : Nat} {s : ByteArray} {pos : Nat} (h : w.heap[b]? = some (.stringIter s pos)) (ty : TypeId) :
    (Instr.next (.pointer (some ⟨b, 0, none⟩)) true ty).run P w = if pos < s.size then .ok (.tuple #[.bool true, goInt pos, .int .i32 (Utf8.decode s pos).1]) { w with heap := w.heap.setIfInBounds b (.stringIter s (pos + (Utf8.decode s pos).2)) } else .ok (.tuple #[.bool false]) w := by
  have hlt : b < w.heap.size := (Array.getElem?_eq_some_iff.1 h).1
  split
  · rename_i hp
    simp only [Instr.next, getObj, setObj, Sem.run_bind, Sem.run, h, Result.andThen, hp, if_true]
    rfl
  · rename_i hp
    simp only [Instr.next, getObj, setObj, Sem.run_bind, Sem.run, h, Result.andThen, hp, if_false]
    rfl

theorem run_loadBytesN {P : Program} (w : World) : ∀ (ns : List Int) (a : Addr) (acc : ByteArray), (∀ (j : Nat) (x : Int), ns[j]? = some x → w.cell? (a.add j) = some (.int .u8 x)) →
    (loadBytes a acc ns.length).run P w = .ok ⟨acc.data ++ (ns.map fun n => UInt8.ofNat n.toNat).toArray⟩ w
  | [], a, acc, _ => by simp [loadBytes]
  | x :: l, a, acc, h => by
    have h0 : w.cell? a = some (.int .u8 x) := by
      have := h 0 x rfl
      simpa [Addr.add] using this
    have ih := run_loadBytesN (P := P) w l (a.add 1) (acc.push x.toNat.toUInt8) (fun j y hy => by
      have := h (j + 1) y (by simpa using hy)
      have e : (a.add 1).add j = a.add (j + 1) := by
        unfold Addr.add
        by_cases hj : j = 0
        · subst hj; simp
        · simp [hj]; omega
      rw [e]; exact this)
    simp only [List.length_cons, loadBytes, Sem.run_bind, run_load, h0, Result.andThen]
    rw [ih]
    congr 1
    apply ByteArray.ext
    simp [ByteArray.push]

theorem run_ustr {P : Program} (w : World) (pt it ty e : TypeId) (hp : P.underlying pt = some (.pointer e)) (hc : P.cellsOf e = 1) (g cells : Nat) (hsh : w.shape? g = some (e, cells)) (l : List Int) (h0 : l ≠ []) (hn : l.length ≤ cells) (h63 : l.length ≤ 9223372036854775807)
    (hcell : ∀ (j : Nat) (x : Int), l[j]? = some x → w.cell? ((⟨g, 0, none⟩ : Addr).add j) = some (.int .u8 x)) :
    (Builtin.unsafeString_ #[pt, it] ty #[.pointer (some ⟨g, 0, none⟩), .int .i64 l.length]).run P w = .ok (.string ⟨(l.map fun n => UInt8.ofNat n.toNat).toArray⟩) (World.freeze w ⟨g, 0, none⟩ l.length) := by
  have hl : l.length ≠ 0 := by simpa using h0
  have hlb := run_loadBytesN (P := P) w l ⟨g, 0, none⟩ .empty hcell
  have hlies := Lib.liesAt_bytes (P := P) hc (cells / P.cellsOf e) l.length (by rw [hc]; simpa using hn)
  have h63' : ¬ (9223372036854775807 : Int) < (l.length : Int) := by omega
  have hdef : Builtin.unsafeString_ #[pt, it] ty #[.pointer (some ⟨g, 0, none⟩), .int .i64 l.length] =
      (do
        let n ← asInt (.int .i64 l.length)
        if n < 0 then runtimePanic (.error "unsafe.String: len out of range")
        if n > IntKind.i64.max then unsupported (.unsafePointer "String: a length above the largest int")
        if n = 0 then pure (.string .empty)
        else if ← variablesAt ⟨g, 0, none⟩ (← elemOf pt) n.toNat then do
          let s ← loadBytes ⟨g, 0, none⟩ .empty n.toNat
          Go.freeze ⟨g, 0, none⟩ n.toNat
          pure (.string s)
        else unsupported (.unsafePointer "String: not so many bytes at ptr")) := rfl
  rw [hdef]
  have hmax : IntKind.i64.max = 9223372036854775807 := rfl
  have hneg : ¬ (l.length : Int) < 0 := by omega
  simp [asInt, asIntOf, hmax, h63', hneg, hl, variablesAt, hsh, elemOf, run_underlying hp, hlies, hlb]

theorem freeze_heap (w : World) (a : Addr) (n j : Nat) (h : j ≠ a.block) : (World.freeze w a n).heap[j]? = w.heap[j]? := by
  unfold World.freeze
  split
  · rfl
  · simp only [Array.getElem?_modify]
    rw [if_neg (fun e => h e.symm)]
theorem freeze_cell (w : World) (a b : Addr) (n : Nat) : (World.freeze w a n).cell? b = w.cell? b := by
  unfold World.freeze
  split
  · rfl
  · simp only [World.cell?, Array.getElem?_modify]
    by_cases e : a.block = b.block
    · rw [if_pos e]
      cases w.heap[b.block]? with
      | none => rfl
      | some x => cases x <;> rfl
    · rw [if_neg e]
theorem freeze_rest (w : World) (a : Addr) (n : Nat) : (World.freeze w a n).heap.size = w.heap.size ∧ (World.freeze w a n).os = w.os ∧ (World.freeze w a n).output = w.output := by
  unfold World.freeze
  split <;> simp

include hc in
theorem ustr_ok {t it ty el : TypeId} (hu : P.underlying t = some (.pointer el)) (hce : P.cellsOf el = 1) {x n : Opd} {y z : Value} (hx : VR c (ev T e x) y) (hn : VR c (ev T e n) z)
    {v : AV} {H' : Heap} (h : aop T cf (.ustr el x n) e c.A = some (v, H')) : DoesV P (Builtin.unsafeString_ #[t, it] ty #[y, z]) c v H' := by
  simp only [aop] at h
  split at h
  · rename_i m hex hen
    split at h
    · rename_i hm
      subst hm
      cases h
      rw [hex] at hx
      rw [hen] at hn
      cases hx
      cases hn
      exact .same hc.wr (Lib.run_unsafeString_none _ _ _ _ _) (.str [])
    · cases h
  · rename_i i off g m hex hen
    split at h
    · rename_i hcond
      obtain ⟨rfl, h0, hlim, ht⟩ := hcond
      split at h
      · rename_i cs hcs
        obtain ⟨s, hs, rfl, rfl⟩ := some_pair h
        rw [hex] at hx
        rw [hen] at hn
        cases hn
        obtain ⟨b, k, rfl, hsh, hkn, rfl, hb0⟩ := typ_ptr hc hx ht (k := m.toNat) (by rw [hcs]; rfl)
        obtain ⟨hl, vs, hvs, hcell⟩ := row_cells hc.wr hcs
        obtain ⟨o, ho, hg, _, _⟩ := hget_some hcs
        obtain ⟨o', ho', _, hlive, hkd⟩ := typOf_some ht
        obtain rfl : o' = o := Option.some.inj (ho'.symm.trans ho)
        obtain ⟨ns, rfl, rfl⟩ := bytesOf_ok hvs hs
        have hnl : ns.length = m.toNat := by have := hvs.len; simp at this; omega
        have hrun := run_ustr (P := P) c.w t it ty el hu hce (c.blk i) k hsh ns (by rintro rfl; simp at hnl; omega) (by omega) (by unfold LIM at hlim; omega) (fun j x hj => by
          rw [add_none]
          have := hcell j (.int .u8 x) (by simp [hj])
          simpa [hb0] using this)
        rw [show ((ns.length : Nat) : Int) = m by omega] at hrun
        have hfr := freeze_rest c.w ⟨c.blk i, 0, none⟩ ns.length
        have hre := re_ok hc.wr ho (b := c.blk i) (p := c.base i) (o' := { o' with live := false }) (w' := World.freeze c.w ⟨c.blk i, 0, none⟩ ns.length) (fun h => by cases h) (Nat.le_refl _) (fun _ => ⟨rfl, rfl⟩) (.inl rfl)
          (Nat.le_of_eq hfr.1.symm) (by rw [hfr.1]; exact hc.wr.lt i o' ho)
          (fun j _ hj => freeze_heap _ _ _ _ (by rcases hj with h | h; exact h; rw [hlive] at h; cases h)) (fun a ha => by rw [freeze_cell]; exact ha) hfr.2.1 hfr.2.2 (fun h => by cases h) (fun h => by cases h) (fun h => by cases h)
          (fun k a hk => by
            obtain ⟨v, h1, h2⟩ := hc.wr.cell i o' ho k a hk
            exact ⟨v, by rw [freeze_cell]; exact h1, h2⟩)
        exact ⟨_, c.re i (c.blk i) (c.base i) { o' with live := false } (World.freeze c.w ⟨c.blk i, 0, none⟩ ns.length), hrun, hre.1, hre.2, by simp [Cx.re, freeze, ho], .str _⟩
      · cases h
    · cases h
  · cases h

include hc he in
theorem op_call {k : Call} {ty : TypeId} {ao : AOp} (hT : TabOK P T) (hcf : CFok P T cf) (htr : trOp P (.call k) = some ao) {v : AV} {H' : Heap} (h : aop T cf ao e c.A = some (v, H')) :
    Does P ((do let d ← resolve a.eval k ty; invoke d.target d.args : Sem Next).run P c.w) c v H' := by
  obtain ⟨callee, args, argTypes⟩ := k
  simp only [trOp] at htr
  split at htr
  · cases htr
  · rename_i args' hargs
    have hl := opds_ok hc he hargs
    split at htr
    · -- a function value
      rename_i f
      obtain ⟨f', hf, rfl⟩ := mapO_some htr
      have := applyF_ok hT hc hcf (opd_ok hc he hf) (args' := args.map a.eval) hl h
      simpa [resolve] using this
    · -- a method of an interface value
      rename_i x m
      obtain ⟨x', hx, rfl⟩ := mapO_some htr
      have := invoke_ok hT hc hcf (opd_ok hc he hx) (args' := args.map a.eval) hl h
      simp only [resolve, Sem.run_bind, Sem.run_pure, Result.andThen_ok, invoke, arr_head, arr_tail]
      exact this
    · -- a builtin
      rename_i b
      have bi : ∀ {s : Sem Value}, (∀ (g : Array Bool), builtin b argTypes ty g (args.map a.eval) = (do pure (.value (← s)))) → DoesV P s c v H' →
          Does P ((do let d ← resolve a.eval { callee := .builtin b, args := args, argTypes := argTypes } ty; invoke d.target d.args : Sem Next).run P c.w) c v H' := by
        intro s hs hd
        have := hd.does
        simp only [resolve, Sem.run_bind, Sem.run_pure, Result.andThen_ok, invoke, hs]
        simpa using this
      split at htr <;> first | (cases htr; done) | skip
      · -- len
        rename_i x t hat
        obtain ⟨p, hp, hx⟩ := list1 hargs
        have hargs' : args.map a.eval = #[a.eval p] := by apply Array.ext'; simp [hp]
        have hat' : argTypes = #[t] := by apply Array.ext'; simpa using hat
        refine bi (s := Builtin.len_ argTypes ty (args.map a.eval)) (fun _ => rfl) ?_
        rw [hargs', hat']
        have hv := opd_ok hc he hx
        split at htr
        · rename_i hu
          cases htr
          simp only [aop] at h
          split at h
          · rename_i s hev
            cases h
            rw [hev] at hv
            generalize a.eval p = y at hv
            cases hv
            exact .same hc.wr (y := goInt s.length) (by simp [Builtin.len_, run_underlying hu, bytes_size]) (.int _ _)
          · cases h
        · rename_i el hu
          cases htr
          simp only [aop] at h
          split at h
          · rename_i hev
            cases h
            rw [hev] at hv
            generalize a.eval p = y at hv
            cases hv
            exact .same hc.wr (y := goInt _) (by simp [Builtin.len_, run_underlying hu] <;> rfl) (.int _ _)
          · rename_i hev
            cases h
            rw [hev] at hv
            generalize a.eval p = y at hv
            cases hv
            exact .same hc.wr (y := goInt _) (by simp [Builtin.len_, run_underlying hu] <;> rfl) (.int _ _)
          · rename_i hev
            cases h
            rw [hev] at hv
            generalize a.eval p = y at hv
            cases hv
            exact .same hc.wr (y := goInt 0) (by simp [Builtin.len_, run_underlying hu]) (.int _ _)
          · cases h
        · rename_i n el hu
          cases htr
          simp only [aop] at h
          cases h
          exact .same hc.wr (y := goInt n) (by simp [Builtin.len_, run_underlying hu]) (.int _ _)
        · rename_i arr hu
          split at htr
          · rename_i n el hua
            cases htr
            simp only [aop] at h
            cases h
            exact .same hc.wr (y := goInt n) (by simp [Builtin.len_, run_underlying hu, run_underlying hua]) (.int _ _)
          · cases htr
        · cases htr
      · -- min
        rename_i x y _
        cases htr
        obtain ⟨p, q, hp, hx, hy⟩ := list2 hargs
        have hargs' : args.map a.eval = #[a.eval p, a.eval q] := by apply Array.ext'; simp [hp]
        refine bi (s := Builtin.min_ argTypes ty (args.map a.eval)) (fun _ => rfl) ?_
        rw [hargs']
        have hvx := opd_ok hc he hx
        have hvy := opd_ok hc he hy
        simp only [aop] at h
        split at h
        · rename_i k m k' n hex hey
          rw [hex] at hvx; rw [hey] at hvy
          cases h
          generalize a.eval p = xx at hvx
          generalize a.eval q = yy at hvy
          cases hvx; cases hvy
          exact .same hc.wr (by simp [Builtin.min_, Builtin.min2] <;> rfl) (.int _ _)
        · cases h
      · -- max
        rename_i x y _
        cases htr
        obtain ⟨p, q, hp, hx, hy⟩ := list2 hargs
        have hargs' : args.map a.eval = #[a.eval p, a.eval q] := by apply Array.ext'; simp [hp]
        refine bi (s := Builtin.max_ argTypes ty (args.map a.eval)) (fun _ => rfl) ?_
        rw [hargs']
        have hvx := opd_ok hc he hx
        have hvy := opd_ok hc he hy
        simp only [aop] at h
        split at h
        · rename_i k m k' n hex hey
          rw [hex] at hvx; rw [hey] at hvy
          cases h
          generalize a.eval p = xx at hvx
          generalize a.eval q = yy at hvy
          cases hvx; cases hvy
          exact .same hc.wr (by simp [Builtin.max_, Builtin.max2] <;> rfl) (.int _ _)
        · cases h
      · -- append
        rename_i x y s t hat
        obtain ⟨p, q, hp, hx, hy⟩ := list2 hargs
        have hargs' : args.map a.eval = #[a.eval p, a.eval q] := by apply Array.ext'; simp [hp]
        have hat' : argTypes = #[s, t] := by apply Array.ext'; simpa using hat
        refine bi (s := Builtin.append_ argTypes ty (args.map a.eval)) (fun _ => rfl) ?_
        rw [hargs', hat']
        have hvx := opd_ok hc he hx
        have hvy := opd_ok hc he hy
        split at htr
        · cases htr
        · rename_i el d hni hus hut
          cases hi : P.info? el with
          | none => rw [hi] at htr; cases htr
          | some i =>
            rw [hi] at htr
            simp only [Option.bind_some] at htr
            split at htr
            · rename_i z hz
              split at htr
              · rename_i hcond
                cases htr
                simp only [aop] at h
                split at h
                · rename_i m ys hview
                  exact append_ok hc (.inl rfl) ⟨⟨i, z, hi, rfl, rfl, hz, hcond.1⟩, hcond.2⟩ hus hut (fun k hk => by subst hk; exact hni k rfl) hvx hvy hview h
                · cases h
              · cases htr
            · cases htr
        · cases htr
      · -- copy
        rename_i x y s r hat
        obtain ⟨p, q, hp, hx, hy⟩ := list2 hargs
        have hargs' : args.map a.eval = #[a.eval p, a.eval q] := by apply Array.ext'; simp [hp]
        have hat' : argTypes[0]? = some s := by rw [← Array.getElem?_toList, hat]; rfl
        refine bi (s := Builtin.copy_ argTypes ty (args.map a.eval)) (fun _ => rfl) ?_
        rw [hargs']
        have hvx := opd_ok hc he hx
        have hvy := opd_ok hc he hy
        split at htr
        · rename_i el hu
          obtain ⟨sz, hsz, rfl⟩ := mapO_some htr
          simp only [aop] at h
          split at h
          · rename_i m ys hview
            obtain ⟨hyl, vs, hyv, hrd⟩ := view_ok (P := P) hc hvy hview
            split at h
            · rename_i i off n s' g hev
              rw [hev] at hvx
              generalize a.eval p = xx at hvx
              split at h
              · rename_i hcond
                obtain ⟨rfl, hcells⟩ := hcond
                split at h
                · rename_i H1 hH
                  cases h
                  have hone := (cells_ok (c := c) (a := .agg ys) (v := .agg vs.toArray) hyv.agg hcells).2
                  simp only [Value.cells] at hone
                  have htake := hyv.take ((Nat.min m n) * sz)
                  obtain ⟨c', hr, hE, hW, hA⟩ := write_row (P := P) hc htake (fun v hv => hone v (List.mem_of_mem_take hv)) hH
                  obtain ⟨o, ho, hg, hlive, hbound, _⟩ := hset_some hH
                  cases hvx with
                  | ms _ _ _ _ _ ob ad cap h1 h2 hn hsp ha hroom =>
                    obtain rfl : ob = o := Option.some.inj (h1.symm.trans ho)
                    refine ⟨goInt (Nat.min m n), c', ?_, hE, hW, hA, .int _ _⟩
                    have hfc : (Builtin.firstCells sz (Nat.min m n) (a.eval q)).run P c.w = .ok (vs.take ((Nat.min m n) * sz)).toArray c.w := by
                      have hview' : viewOf c.A sz (ev T e y) = some (m, ys) := hview
                      exact first_le hc hvy hview' hyl hyv hrd (Nat.min_le_left m n)
                    simp only [Builtin.copy_, hat', List.getElem?_toArray, List.getElem?_cons_zero, List.getElem?_cons_succ, Sem.run_bind, run_underlying hu, Result.andThen_ok, (hrd c.w rfl).1, run_size hsz, hfc]
                    by_cases hcap : cap = 0
                    · obtain rfl : n = 0 := by omega
                      have hr0 : c'.w = c.w := by
                        have : vs.take (Nat.min m 0 * sz) = [] := by simp
                        rw [this] at hr
                        simp [storeCells] at hr
                        exact hr.symm
                      simp [storeCells, hr0]
                    · rw [ha hg hcap, hr]
                      simp
                · cases h
              · cases h
            · cases h
          · cases h
        · cases htr
      · -- cap
        rename_i x t hat
        obtain ⟨p, hp, hx⟩ := list1 hargs
        have hargs' : args.map a.eval = #[a.eval p] := by apply Array.ext'; simp [hp]
        have hat' : argTypes = #[t] := by apply Array.ext'; simpa using hat
        refine bi (s := Builtin.cap_ argTypes ty (args.map a.eval)) (fun _ => rfl) ?_
        rw [hargs', hat']
        have hv := opd_ok hc he hx
        split at htr
        · rename_i el hu
          cases htr
          simp only [aop] at h
          split at h
          · rename_i hev
            cases h
            rw [hev] at hv
            generalize a.eval p = y at hv
            cases hv
            exact .same hc.wr (y := goInt 0) (by simp [Builtin.cap_, run_underlying hu]) (.int _ _)
          · cases h
        · cases htr
      · -- SliceData
        rename_i x _
        cases htr
        obtain ⟨p, hp, hx⟩ := list1 hargs
        have hargs' : args.map a.eval = #[a.eval p] := by apply Array.ext'; simp [hp]
        refine bi (s := Builtin.unsafeSliceData_ argTypes ty (args.map a.eval)) (fun _ => rfl) ?_
        rw [hargs']
        have hv := opd_ok hc he hx
        simp only [aop] at h
        split at h
        · rename_i hev
          cases h
          rw [hev] at hv
          generalize a.eval p = y at hv
          cases hv
          exact .same hc.wr (y := .pointer none) (Lib.run_unsafeSliceData_nil _ _ _ _ _) (.cst _)
        · rename_i i off n e' g hev
          split at h
          · rename_i hn
            cases h
            rw [hev] at hv
            generalize a.eval p = y at hv
            cases hv with
            | ms _ _ _ _ _ o ad cap h1 hg hle hs ha hroom =>
              exact .same hc.wr (y := .pointer (some ad)) (Lib.run_unsafeSliceData_row _ _ _ _ _ _ (by omega)) (.ptr _ _ _ o ad h1 hg fun e => ha e (by omega))
          · cases h
        · cases h
      · -- a string over bytes
        rename_i x n t r hat
        obtain ⟨p, q, hp, hx, hn⟩ := list2 hargs
        have hat' : argTypes = #[t, r] := by apply Array.ext'; simpa using hat
        have hargs' : args.map a.eval = #[a.eval p, a.eval q] := by apply Array.ext'; simp [hp]
        refine bi (s := Builtin.unsafeString_ argTypes ty (args.map a.eval)) (fun _ => rfl) ?_
        rw [hargs', hat']
        have hvx := opd_ok hc he hx
        have hvn := opd_ok hc he hn
        split at htr
        · rename_i el hu
          split at htr
          · rename_i hce
            cases htr
            exact ustr_ok (T := T) hc hu hce hvx hvn h
          · cases htr
        · cases htr

include hc he in
/-- An append whose row is known as one of its type. -/
theorem op_append {k : Call} {ty : TypeId} {kd : Kd} {el : TypeId} {sz bytes : Nat} {x' y' : Opd} (htr : trOp P (.call k) = some (.append kd sz bytes x' y')) (hel : elOf P (.call k) = some el) {v : AV} {H' : Heap}
    (h : aop T cf (.append (.typ el) sz bytes x' y') e c.A = some (v, H')) :
    Does P ((do let d ← resolve a.eval k ty; invoke d.target d.args : Sem Next).run P c.w) c v H' := by
  obtain ⟨callee, args, argTypes⟩ := k
  simp only [trOp] at htr
  split at htr
  · cases htr
  · rename_i args' hargs
    split at htr
    · obtain ⟨_, _, hh⟩ := mapO_some htr; cases hh
    · obtain ⟨_, _, hh⟩ := mapO_some htr; cases hh
    · rename_i b
      have bi : ∀ {s : Sem Value}, (∀ (g : Array Bool), builtin b argTypes ty g (args.map a.eval) = (do pure (.value (← s)))) → DoesV P s c v H' →
          Does P ((do let d ← resolve a.eval { callee := .builtin b, args := args, argTypes := argTypes } ty; invoke d.target d.args : Sem Next).run P c.w) c v H' := by
        intro s hs hd
        have := hd.does
        simp only [resolve, Sem.run_bind, Sem.run_pure, Result.andThen_ok, invoke, hs]
        simpa using this
      split at htr <;> first | (cases htr; done) | skip
      all_goals try (split at htr <;> first | (cases htr; done) | skip)
      all_goals try (split at htr <;> first | (cases htr; done) | skip)
      all_goals try (obtain ⟨_, _, hh⟩ := mapO_some htr; cases hh; done)
      all_goals skip
      · rename_i x y s t hat _ _ el0 d hni hus hut
        obtain ⟨p, q, hp, hx, hy⟩ := list2 hargs
        have hargs' : args.map a.eval = #[a.eval p, a.eval q] := by apply Array.ext'; simp [hp]
        have hat' : argTypes = #[s, t] := by apply Array.ext'; simpa using hat
        simp only [elOf, hat, hus] at hel
        cases hel
        refine bi (s := Builtin.append_ argTypes ty (args.map a.eval)) (fun _ => rfl) ?_
        rw [hargs', hat']
        have hvx := opd_ok hc he hx
        have hvy := opd_ok hc he hy
        cases hi : P.info? el with
        | none => rw [hi] at htr; cases htr
        | some i =>
          rw [hi] at htr
          simp only [Option.bind_some] at htr
          split at htr
          · rename_i z hz
            split at htr
            · rename_i hcond
              cases htr
              simp only [aop] at h
              split at h
              · rename_i m ys hview
                exact append_ok hc (.inr rfl) ⟨⟨i, z, hi, rfl, rfl, hz, hcond.1⟩, hcond.2⟩ hus hut (fun k hk => by subst hk; exact hni k rfl) hvx hvy hview h
              · cases h
            · cases htr
          · cases htr

include hc he in
theorem op_range {t : TypeId} {x : Operand} {ao : AOp} (htr : trOp P (.range t x) = some ao) {v : AV} {H' : Heap} (h : aop T cf ao e c.A = some (v, H')) : DoesV P (Instr.range t (a.eval x)) c v H' := by
  simp only [trOp] at htr
  split at htr
  · rename_i x' hu hx
    cases htr
    simp only [aop] at h
    split at h
    · rename_i s hev
      cases h
      have hv := opd_ok hc he hx
      rw [hev] at hv
      generalize a.eval x = y at hv
      cases hv
      have hn := newK_ok hc.wr hc.fr (kd := .it s 0) (cs := []) (ob := .stringIter ⟨s.toArray⟩ 0) (w' := c.w.iter ⟨s.toArray⟩ 0) rfl rfl rfl ⟨rfl, World.iter_heap _ _ _⟩ (fun k hk => by simp [World.cell?, World.iter_heap] at hk)
        (fun cs t fr e => by rw [World.iter_heap] at e; cases e) (fun k a hk => by simp at hk)
      exact ⟨_, c.newK (.it s 0) [] (c.w.iter ⟨s.toArray⟩ 0), run_range_string _ _ _ hu, hn.1, hn.2, rfl, ptr_newK rfl (by simp [Cx.newK]) (by simp [Cx.newK])⟩
    · cases h
  · cases htr

include hc he in
theorem op_next {x : Operand} {ty : TypeId} {ao : AOp} (htr : trOp P (.next x true) = some ao) {v : AV} {H' : Heap} (h : aop T cf ao e c.A = some (v, H')) : DoesV P (Instr.next (a.eval x) true ty) c v H' := by
  simp only [trOp] at htr
  obtain ⟨x', hx, rfl⟩ := mapO_some htr
  have hv := opd_ok hc he hx
  simp only [aop] at h
  split at h
  · rename_i i off g hev
    rw [hev] at hv
    generalize a.eval x = y at hv
    split at h
    · rename_i o ho
      split at h
      · rename_i hcond
        obtain ⟨rfl, hg, hl, hnil⟩ := hcond
        have hkk := hc.wr.kind i o ho hl
        split at h
        · rename_i s pos hkd
          rw [hkd] at hkk
          obtain ⟨hb0, hheap⟩ := hkk
          cases hv with
          | ptr _ _ _ o' ad h1 h2 h3 =>
            obtain rfl : o' = o := Option.some.inj (h1.symm.trans ho)
            obtain rfl := h3 hg
            have hrun := run_next (P := P) hheap ty
            rw [bytes_size] at hrun
            rw [show c.at i 0 = ⟨c.blk i, 0, none⟩ by simp [Cx.at, hb0]]
            split at h
            · rename_i hlt
              cases h
              rw [if_pos hlt] at hrun
              let w' : World := { c.w with heap := c.w.heap.setIfInBounds (c.blk i) (.stringIter ⟨s.toArray⟩ (pos + (Utf8.decode ⟨s.toArray⟩ pos).2)) }
              have hsame : ∀ j, j ≠ c.blk i → w'.heap[j]? = c.w.heap[j]? := fun j hj => by
                simp only [w']
                rw [Array.getElem?_setIfInBounds_ne (fun e => hj e.symm)]
              have hself : w'.heap[c.blk i]? = some (.stringIter ⟨s.toArray⟩ (pos + (Utf8.decode ⟨s.toArray⟩ pos).2)) := by
                simp only [w']
                rw [Array.getElem?_setIfInBounds_self_of_lt (hc.wr.lt i o' ho)]
              have hre := re_ok hc.wr ho (b := c.blk i) (p := c.base i) (o' := ⟨[], o'.gen, true, .it s (pos + (decS s pos).2)⟩) (w' := w') (fun _ => hl) (Nat.le_refl _) (fun _ => ⟨rfl, rfl⟩) (.inl rfl) (by simp [w']) (by simp only [w', Array.size_setIfInBounds]; exact hc.wr.lt i o' ho)
                (fun j _ hj => hsame j (by rcases hj with h | h; exact h; rw [hl] at h; cases h)) (fun a ha => by
                  by_cases e : a.block = c.blk i
                  · simp [World.cell?, e, hheap] at ha
                  · rw [cell_of_heap' (hsame _ e)]; exact ha) rfl rfl
                (fun _ k hk => by simp [World.cell?, hself] at hk) (fun _ cs t fr e => by rw [hself] at e; cases e) (fun _ => ⟨hb0, hself⟩) (fun k a hk => by simp at hk)
              exact ⟨_, c.re i (c.blk i) (c.base i) ⟨[], o'.gen, true, .it s (pos + (decS s pos).2)⟩ w', hrun, hre.1, hre.2, rfl, VRs.tup (.cons (.bool _) (.cons (.int _ _) (.cons (.int _ _) (.nil _))))⟩
            · rename_i hlt
              cases h
              rw [if_neg hlt] at hrun
              exact .same hc.wr hrun (VRs.tup (.cons (.bool _) (.nil _)))
        · cases h
      · cases h
    · cases h
  · cases h
end
end Go.Eng

namespace Go.Eng
open Go

theorem op_ok {P : Program} {T : Tab} (hT : TabOK P T) {c : Cx} (hc : OK T c) {a : Act} {e : Env} (he : EnvR c e a.tmps) {cf : CF} (hcf : CFok P T cf) {o : Oper} {v : AV} {H' : Heap}
    (h : aop T cf ((trOp P o.op).getD .fail) e c.A = some (v, H')) : Does P ((execOp a.eval o).run P c.w) c v H' := by
  cases htr : trOp P o.op with
  | none => rw [htr] at h; cases h
  | some ao =>
    rw [htr] at h
    simp only [Option.getD_some] at h
    have hmem := op_mem (cf := cf) hc he htr
    obtain ⟨dst, op, ty, pos, after, guard⟩ := o
    cases op <;> simp only at htr hmem <;> first
      | exact hmem trivial hT h
      | (cases htr; done)
      | skip
    case build t parts => exact (op_build hc he htr h).does
    case buildSlice t n parts => exact (op_lit hc he htr h).does
    case binOp b t x y t' => exact (op_bin hc he hT htr h).does
    case convert s d x => exact (op_conv hc he htr h).does
    case makeSlice t x y => exact (op_makeSlice hc he htr h).does
    case slice t x lo hi mx => exact (op_slice hc he htr h).does
    case typeAssert x xt t ok => exact (op_assert hc he hT htr h).does
    case call k => exact op_call hc he hT hcf htr h
    case range t x => exact (op_range hc he htr h).does
    case next x b =>
      cases b with
      | true => exact (op_next hc he htr h).does
      | false => cases htr

theorem op_okX {P : Program} {T : Tab} (hT : TabOK P T) {c : Cx} (hc : OK T c) {a : Act} {e : Env} (he : EnvR c e a.tmps) {cf : CF} (hcf : CFok P T cf) {ops : Array Oper} {o : Oper} {v : AV} {H' : Heap}
    (h : aop T cf ((trOpX P ops o).getD .fail) e c.A = some (v, H')) : Does P ((execOp a.eval o).run P c.w) c v H' := by
  unfold trOpX at h
  split at h
  · rename_i hf
    obtain ⟨dst, op, ty, pos, after, guard⟩ := o
    have hop : ∃ t n parts, op = .buildSlice t n parts := by
      unfold feeds at hf
      simp only at hf
      split at hf
      · exact ⟨_, _, _, rfl⟩
      · cases hf
    obtain ⟨t, n, parts, rfl⟩ := hop
    cases htr : trLitM P (.buildSlice t n parts) with
    | none => rw [htr] at h; cases h
    | some ao =>
      rw [htr] at h
      simp only [Option.getD_some] at h
      exact (op_litM hc he htr h).does
  · split at h
    · unfold trOpT at h
      split at h
      · rename_i kd sz b x y el htr hel
        obtain ⟨dst, op, ty, pos, after, guard⟩ := o
        cases op <;> first | (cases hel; done) | skip
        rename_i k
        simp only [Option.getD_some] at h
        exact op_append hc he htr hel h
      · exact op_ok hT hc he hcf h
    · exact op_ok hT hc he hcf h

theorem get_put (e : Env) (d : Nat) (v : AV) (t : Nat) : Env.get (putA e (some d) v) t = bif d == t then v else e.get t := rfl

theorem envR_put {c : Cx} {e : Env} {a : Act} (he : EnvR c e a.tmps) {d : Option Nat} (hd : ∀ x, d = some x → x < a.tmps.size) {v : AV} {y : Value} (hv : VR c v y) :
    EnvR c (putA e d v) (a.put d y).tmps := by
  cases d with
  | none => exact he
  | some d =>
    intro t
    simp only [get_put, Act.put]
    by_cases hdt : d = t
    · subst hdt
      simp only [beq_self_eq_true, cond_true, Array.getD_eq_getD_getElem?]
      rw [Array.getElem?_setIfInBounds_self_of_lt (hd d rfl)]
      exact hv
    · have : (d == t) = false := by simpa using hdt
      rw [this, cond_false]
      have := he t
      simp only [Array.getD_eq_getD_getElem?] at this ⊢
      rw [Array.getElem?_setIfInBounds_ne hdt]; exact this

theorem envR_und {c : Cx} {e : Env} {a : Act} (he : EnvR c e a.tmps) (d : Option Nat) : EnvR c (putA e d .und) (a.put d undef).tmps := by
  cases d with
  | none => exact he
  | some d =>
    intro t
    simp only [get_put, Act.put]
    by_cases hdt : d = t
    · subst hdt
      simp only [beq_self_eq_true, cond_true, Array.getD_eq_getD_getElem?]
      by_cases hb : d < a.tmps.size
      · rw [Array.getElem?_setIfInBounds_self_of_lt hb]; exact .cst _
      · rw [Array.getElem?_eq_none (by simp; omega)]; exact .cst _
    · have : (d == t) = false := by simpa using hdt
      rw [this, cond_false]
      have := he t
      simp only [Array.getD_eq_getD_getElem?] at this ⊢
      rw [Array.getElem?_setIfInBounds_ne hdt]; exact this

theorem put_size (a : Act) (d : Option Nat) (y : Value) : (a.put d y).tmps.size = a.tmps.size := by
  cases d <;> simp [Act.put]
theorem put_defers (a : Act) (d : Option Nat) (y : Value) : (a.put d y).defers = a.defers := by
  cases d <;> rfl

theorem keep_ok {c : Cx} {e : Env} {tmps : Array Value} (he : EnvR c e tmps) (live : List Nat) : EnvR c (Env.keep live e) tmps := by
  intro t
  unfold Env.keep
  induction live with
  | nil => exact .unk _
  | cons x l ih =>
    simp only [List.map_cons, Env.get]
    by_cases hx : x = t
    · subst hx; simp only [beq_self_eq_true, cond_true]; exact he x
    · have : (x == t) = false := by simpa using hx
      rw [this, cond_false]; exact ih

/-- Whether an operation is wanted. -/
theorem wanted_ok {c : Cx} {e : Env} {a : Act} (he : EnvR c e a.tmps) {P : Program} {nt : Nat} {ops : Array Oper} {o : Oper} {b : Bool} (h : wantedA e (trOper P nt ops o).guard = some b) : Region.wanted o (yielded ops a.tmps) = b := by
  unfold trOper at h
  simp only at h
  unfold Region.wanted
  cases hg : o.guard with
  | none => rw [hg] at h; cases h; rfl
  | some p =>
    obtain ⟨j, w⟩ := p
    rw [hg] at h
    simp only at h ⊢
    cases hd : (ops[j]?).bind (·.dst) with
    | none =>
      rw [hd] at h
      cases h
    | some t =>
      rw [hd] at h
      simp only [wantedA] at h
      have hv := he t
      unfold yielded
      rw [hd]
      simp only [Option.bind_some]
      split at h
      · rename_i u hu
        cases h
        rw [hu] at hv
        rw [Array.getD_eq_getD_getElem?] at hv
        cases hx : a.tmps[t]? with
        | none => rw [hx] at hv; simp [undef] at hv; cases hv
        | some y =>
          rw [hx] at hv
          simp only [Option.getD_some] at hv
          cases hv
          rfl
      · rename_i u hu
        cases h
        rw [hu] at hv
        rw [Array.getD_eq_getD_getElem?] at hv
        cases hx : a.tmps[t]? with
        | none => rfl
        | some y =>
          rw [hx] at hv
          simp only [Option.getD_some] at hv
          cases hv
          rfl
      · cases h

/-- A region in the order of its text. -/
theorem ops_ok {P : Program} {T : Tab} (hT : TabOK P T) {cf : CF} (hcf : CFok P T cf) {nt : Nat} {ops : Array Oper} {Q : Exit → Act → World → Prop} : ∀ (l : List Oper) (k : Nat), ops.toList.drop k = l → ∀ (c : Cx), OK T c → ∀ (e : Env) (a : Act), EnvR c e a.tmps → nt ≤ a.tmps.size →
    ∀ (e' : Env) (H' : Heap), runOps T cf (l.map (trOper P nt ops)) e c.A = some (e', H') →
    (∀ (a' : Act) (c' : Cx), Ext c c' → OK T c' → c'.A = H' → EnvR c' e' a'.tmps → nt ≤ a'.tmps.size → a'.defers = a.defers → Q .normal a' c'.w) → wpOps P ops Q (List.range' k l.length) a c.w
  | [], k, hl, c, hc, e, a, he, hsz, e', H', h, hQ => by
    cases h
    exact hQ a c (Ext.refl c) hc rfl he hsz rfl
  | o :: l, k, hl, c, hc, e, a, he, hsz, e', H', h, hQ => by
    have hk : ops[k]? = some o := by
      have : (ops.toList.drop k)[0]? = some o := by rw [hl]; rfl
      rw [List.getElem?_drop] at this
      simpa using this
    have hl' : ops.toList.drop (k + 1) = l := by
      have : (ops.toList.drop k).drop 1 = l := by rw [hl]; rfl
      rwa [List.drop_drop] at this
    simp only [List.length_cons, List.range'_succ, wpOps, hk]
    simp only [List.map_cons] at h
    unfold runOps at h
    split at h
    · cases h
    · rename_i hw
      have := wanted_ok he hw
      rw [this]
      simp only [Bool.false_eq_true, if_false]
      exact ops_ok hT hcf l (k + 1) hl' c hc _ _ (envR_und he o.dst) (by rw [put_size]; exact hsz) e' H' h (fun a' c' h1 h2 h3 h4 h5 h6 => hQ a' c' h1 h2 h3 h4 h5 (by rw [h6, put_defers]))
    · rename_i hw
      have := wanted_ok he hw
      rw [this]
      simp only [if_true]
      refine .inl ?_
      split at h
      · rename_i v H1 ha
        have ha' : (∀ x, o.dst = some x → x < nt) ∧ aop T cf ((trOpX P ops o).getD .fail) e c.A = some (v, H1) := by
          unfold trOper at ha
          simp only at ha
          cases hod : o.dst with
          | none =>
            rw [hod] at ha
            simp only [if_true] at ha
            exact ⟨fun x hx => (by cases hx), ha⟩
          | some d =>
            rw [hod] at ha
            by_cases hd : d < nt
            · simp only [hd, decide_true, if_true] at ha
              exact ⟨fun x hx => (by cases hx; exact hd), ha⟩
            · simp only [hd, decide_false, Bool.false_eq_true, if_false] at ha
              cases ha
        refine op_okX hT hc he hcf ha'.2 a o _ Q fun y c' hE hW hA hv => ?_
        have hc' := hc.ext hE hW
        rw [← hA] at h
        exact ops_ok hT hcf l (k + 1) hl' c' hc' _ _ (envR_put (he.ext hE) (fun x hx => Nat.lt_of_lt_of_le (ha'.1 x hx) hsz) hv) (by rw [put_size]; exact hsz) e' H' h
          (fun a' c'' h1 h2 h3 h4 h5 h6 => hQ a' c'' (hE.trans h1) h2 h3 h4 h5 (by rw [h6, put_defers]))
      · cases h

def toExit : AEx → Exit
  | .normal => .normal
  | .exit id => .exit id
  | .ret => .ret

/-- What the code's end must meet. -/
def Post (T : Tab) (nt : Nat) (c : Cx) (a : Act) (x : AEx) (e' : Env) (H' : Heap) (Q : Exit → Act → World → Prop) : Prop :=
  ∀ (a' : Act) (c' : Cx), Ext c c' → OK T c' → c'.A = H' → EnvR c' e' a'.tmps → nt ≤ a'.tmps.size → a'.defers = a.defers → Q (toExit x) a' c'.w

theorem Post.then {T : Tab} {nt : Nat} {c c1 : Cx} {a a1 : Act} {x : AEx} {e' : Env} {H' : Heap} {Q : Exit → Act → World → Prop} (h : Post T nt c a x e' H' Q) (hE : Ext c c1) (hd : a1.defers = a.defers) : Post T nt c1 a1 x e' H' Q :=
  fun a' c' h1 h2 h3 h4 h5 h6 => h a' c' (hE.trans h1) h2 h3 h4 h5 (h6.trans hd)
end Go.Eng
