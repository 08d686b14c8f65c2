/- Every operation of the loaded code does what its translation says: the rest, and all. No condition. -/
import Derived.Test.YtfpknphncaopkaaDoorEn13
namespace Go.Eng
open Go

section
variable {P : Program} {T : Tab} {c : Cx} (hc : OK T c) {a : Act} {e : Env} (he : EnvR c e a.tmps) {cf : CF}

theorem zeroO_some {t : TypeId} {z : List AV} (h : zeroO P t = some z) (c : Cx) : ∃ zv, (∀ w, (zeroValue t).run P w = .ok zv w) ∧ VRs c z zv.cells.toList := by
  unfold zeroO at h
  split at h
  · rename_i zv hzv
    exact ⟨zv, fun w => run_zero hzv w, by simpa using mapOpt_rel (c := c) (g := id) (fun x a hx => ofC_ok hx) h⟩
  · cases h

theorem mapO_some {α β : Type} {o : Option α} {f : α → β} {b : β} (h : o.map f = some b) : ∃ x, o = some x ∧ f x = b := by
  cases o with
  | none => cases h
  | some x => exact ⟨x, rfl, by simpa using h⟩

theorem run_places {fs : Array Field} (hf : ∀ (i : Nat) (f : Field), fs[i]? = some f → ∃ s, sizeO P f.type = some s) (w : World) :
    ∃ pl : Array (Nat × Nat), (fs.mapM fun f => do pure (f.offset, ← sizeOf f.type) : Sem (Array (Nat × Nat))).run P w = .ok pl w ∧ ∀ (i : Nat) (f : Field) (s : Nat), fs[i]? = some f → sizeO P f.type = some s → pl[i]? = some (f.offset, s) := by
  have key : ∀ (l : List Field), (∀ f ∈ l, ∃ s, sizeO P f.type = some s) → ∃ pl : List (Nat × Nat), (l.mapM fun f => do pure (f.offset, ← sizeOf f.type) : Sem (List (Nat × Nat))).run P w = .ok pl w ∧ ∀ (i : Nat) (f : Field) (s : Nat), l[i]? = some f → sizeO P f.type = some s → pl[i]? = some (f.offset, s) := by
    intro l
    induction l with
    | nil => intro _; exact ⟨[], by simp, fun i f s h => by simp at h⟩
    | cons f l ih =>
      intro h
      obtain ⟨s, hs⟩ := h f (by simp)
      obtain ⟨pl, h1, h2⟩ := ih fun g hg => h g (by simp [hg])
      refine ⟨(f.offset, s) :: pl, by simp only [List.mapM_cons, Sem.run_bind, run_size hs, Result.andThen_ok, Sem.run_pure, h1], fun i g s' hg hs' => ?_⟩
      cases i with
      | zero => simp at hg; subst hg; rw [hs] at hs'; cases hs'; rfl
      | succ i => simp at hg; simpa using h2 i g s' hg hs'
  obtain ⟨pl, h1, h2⟩ := key fs.toList (fun f hf' => by
    obtain ⟨i, hi, rfl⟩ := List.getElem_of_mem hf'
    exact hf i _ (by simp))
  refine ⟨pl.toArray, ?_, fun i f s hf hs => by simpa using h2 i f s (by simpa using hf) hs⟩
  rw [Array.mapM_eq_mapM_toList]
  simp only [Sem.run_map, h1, Result.andThen_ok]

include hc he in
theorem op_build {t : TypeId} {parts : Array (Nat × Operand)} {ao : AOp} (htr : trOp P (.build t parts) = some ao) {v : AV} {H' : Heap} (h : aop T cf ao e c.A = some (v, H')) : DoesV P (Instr.build t (parts.map fun (i, x) => (i, a.eval x))) c v H' := by
  simp only [trOp] at htr
  split at htr
  · rename_i z fs hz hu
    split at htr
    · rename_i hall
      obtain ⟨ps, hps, rfl⟩ := mapO_some htr
      simp only [aop] at h
      split at h
      · rename_i cs hcs
        cases h
        obtain ⟨zv, hzv, hzr⟩ := zeroO_some hz c
        obtain ⟨pl, hpl, hpl2⟩ := run_places (P := P) (fs := fs) (fun i f hf => by
          rw [List.all_eq_true] at hall
          have := hall f (by rw [Array.mem_toList_iff]; exact Array.mem_of_getElem? hf)
          exact Option.isSome_iff_exists.1 this) c.w
        obtain ⟨hl, hp⟩ := parts_ok (T := T) (place := (pl[·]?)) hc he (fun p q hq => by
          split at hq
          · rename_i f x hf hx
            obtain ⟨s, hs, rfl⟩ := mapO_some hq
            exact ⟨hpl2 _ _ _ hf hs, hx⟩
          · cases hq) hps
        obtain ⟨us, hu1, hu2⟩ := fill_ok hzr hl hp hcs
        refine .same hc.wr (y := .agg us) ?_ (by simpa using hu2.agg)
        simp only [Instr.build, Sem.run_bind, hzv, Result.andThen_ok, run_underlying hu, hpl, Array.toList_map]
        rw [hu1]; rfl
      · cases h
    · cases htr
  · rename_i z n el hz hu
    split at htr
    · rename_i s hs
      obtain ⟨ps, hps, rfl⟩ := mapO_some htr
      simp only [aop] at h
      split at h
      · rename_i cs hcs
        cases h
        obtain ⟨zv, hzv, hzr⟩ := zeroO_some hz c
        obtain ⟨hl, hp⟩ := parts_ok (T := T) (place := fun i => some (i * s, s)) hc he (fun p q hq => by
          obtain ⟨x, hx, rfl⟩ := mapO_some hq
          exact ⟨rfl, hx⟩) hps
        obtain ⟨us, hu1, hu2⟩ := fill_ok (place := fun i => some (i * s, s)) hzr hl hp hcs
        refine .same hc.wr (y := .agg us) ?_ (by simpa using hu2.agg)
        simp only [Instr.build, Sem.run_bind, hzv, Result.andThen_ok, run_underlying hu, run_size hs, Array.toList_map]
        rw [hu1]; rfl
      · cases h
    · cases htr
  · cases htr

include hc he in
theorem op_lit {t : TypeId} {len : Nat} {parts : Array (Nat × Operand)} {ao : AOp} (htr : trOp P (.buildSlice t len parts) = some ao) {v : AV} {H' : Heap} (h : aop T cf ao e c.A = some (v, H')) :
    DoesV P (Instr.buildSlice t len (parts.map fun (i, x) => (i, a.eval x))) c v H' := by
  simp only [trOp] at htr
  split at htr
  · rename_i el hu
    split at htr
    · rename_i z s hz hs
      split at htr
      · rename_i hcond
        obtain ⟨ps, hps, rfl⟩ := mapO_some htr
        simp only [aop] at h
        split at h
        · rename_i cs hcs
          cases h
          obtain ⟨zv, hzv, hzr⟩ := zeroO_some hz c
          obtain ⟨hl, hp⟩ := parts_ok (T := T) (place := fun i => some (i * s, s)) hc he (fun p q hq => by
            obtain ⟨x, hx, rfl⟩ := mapO_some hq
            exact ⟨rfl, hx⟩) hps
          have hzs : zv.cells.size = s := by have := hzr.len; simp at this; omega
          have hr := reps_vr hzr len
          rw [hzs] at hr
          obtain ⟨us, hu1, hu2⟩ := fill_ok (place := fun i => some (i * s, s)) hr hl hp hcs
          have hlen : cs.length = len * s := by
            have : ∀ (ps : List (Nat × Nat × AV)) (cs r : List AV), fillP cs ps = some r → r.length = cs.length := by
              intro ps
              induction ps with
              | nil => intro cs r h; cases h; rfl
              | cons p ps ih =>
                intro cs r h
                obtain ⟨o, sz, v⟩ := p
                unfold fillP at h
                split at h
                · rename_i hh; rw [ih _ _ h, splice_len (by omega)]
                · cases h
            rw [this _ _ _ hcs, reps_len, hcond.2]
          obtain ⟨c', h1, h2, h3, h4, h5⟩ := fresh_sl (P := P) hc el hu2 hlen
          refine ⟨_, c', ?_, h2, h3, h4, h5⟩
          have hlim : ¬ (len * s > 2 ^ 24) := by have := hcond.1; omega
          simp only [Instr.buildSlice, Sem.run_bind, run_underlying hu, Result.andThen_ok, run_size hs, Sem.run_ite, if_neg hlim, Sem.run_pure, Array.toList_map]
          by_cases h0 : len * s = 0
          · simp only [h0, if_true]
            have : ((Array.range 0).map fun x => (#[] : Array Value)[x % (#[] : Array Value).size]!) = (Array.range (len * s)).map (zv.cells[· % s]!) := by rw [h0]; simp
            rw [this, hu1]
            simp [h1]
          · simp only [h0, if_false, hzv, Result.andThen_ok, hzs]
            rw [hu1]
            simp [h1]
        · cases h
      · cases htr
    · cases htr
  · cases htr

include hc he in
theorem op_bin {op : BinOp} {t t' : TypeId} {x y : Operand} {ao : AOp} (hT : TabOK P T) (htr : trOp P (.binOp op t x y t') = some ao) {v : AV} {H' : Heap} (h : aop T cf ao e c.A = some (v, H')) :
    DoesV P (do eqGuard op t x y (a.eval x) (a.eval y); binOp op t (a.eval x) (a.eval y)) c v H' := by
  simp only [trOp] at htr
  split at htr
  · rename_i x' y' hx hy
    have hvx := opd_ok hc he hx
    have hvy := opd_ok hc he hy
    have fin : ∀ {q : EqT} {cn : Bool}, ((op = .eql ∨ op = .neq) → eqtO P 9 t = some q ∧ noGuard P t = true ∧ cn = (isK x || isK y)) → aop T cf (.bin op q cn x' y') e c.A = some (v, H') →
        DoesV P (do eqGuard op t x y (a.eval x) (a.eval y); binOp op t (a.eval x) (a.eval y)) c v H' := by
      intro q cn hqq h
      have guard : ∀ {s : Sem Value}, (∀ w : World, (eqGuard op t x y (a.eval x) (a.eval y)).run P c.w = .ok () c.w) → DoesV P s c v H' → DoesV P (do eqGuard op t x y (a.eval x) (a.eval y); s) c v H' := by
        intro s hg ⟨y, c', h1, h2⟩
        exact ⟨y, c', by simp [hg c.w, h1], h2⟩
      simp only [aop] at h
      split at h
      · rename_i k u k' u' hex hey
        rw [hex] at hvx; rw [hey] at hvy
        obtain ⟨xx, hxx⟩ : ∃ xx, a.eval x = xx := ⟨_, rfl⟩
        obtain ⟨yy, hyy⟩ : ∃ yy, a.eval y = yy := ⟨_, rfl⟩
        rw [hxx] at hvx; rw [hyy] at hvy
        cases hvx; cases hvy
        have hg : ∀ w : World, (eqGuard op t x y (a.eval x) (a.eval y)).run P c.w = .ok () c.w := fun _ => by rw [hxx, hyy]; cases op <;> simp [eqGuard]
        refine guard hg ?_
        rw [hxx, hyy]
        split at h
        · obtain ⟨h1, rfl⟩ := some_pair' h
          obtain ⟨r1, r2⟩ := shift_ok (P := P) (c := c) (.inl rfl) (k' := k') h1 t
          exact .same hc.wr r1 r2
        · obtain ⟨h1, rfl⟩ := some_pair' h
          obtain ⟨r1, r2⟩ := shift_ok (P := P) (c := c) (.inr rfl) (k' := k') h1 t
          exact .same hc.wr r1 r2
        · rename_i hs1 hs2
          split at h
          · rename_i hk; subst hk
            obtain ⟨h1, rfl⟩ := some_pair' h
            obtain ⟨r1, r2⟩ := intBin_ok (P := P) (c := c) h1 (fun e => hs1 e) (fun e => hs2 e) t
            exact .same hc.wr r1 r2
          · cases h
      · rename_i u u' hex hey
        rw [hex] at hvx; rw [hey] at hvy
        obtain ⟨xx, hxx⟩ : ∃ xx, a.eval x = xx := ⟨_, rfl⟩
        obtain ⟨yy, hyy⟩ : ∃ yy, a.eval y = yy := ⟨_, rfl⟩
        rw [hxx] at hvx; rw [hyy] at hvy
        cases hvx; cases hvy
        have hg : ∀ w : World, (eqGuard op t x y (a.eval x) (a.eval y)).run P c.w = .ok () c.w := fun _ => by rw [hxx, hyy]; cases op <;> simp [eqGuard]
        refine guard hg ?_
        rw [hxx, hyy]
        obtain ⟨h1, rfl⟩ := some_pair' h
        obtain ⟨r1, r2⟩ := strBin_ok (P := P) (c := c) h1 t
        exact .same hc.wr r1 r2
      · rename_i hn1 hn2
        have hnum : AV.num (ev T e x') (ev T e y') = false := by
          unfold AV.num
          split
          · rename_i h1 h2; exact absurd h2 (hn1 _ _ _ _ h1)
          · rename_i h1 h2; exact absurd h2 (hn2 _ _ h1)
          · rfl
        split at h
        · obtain ⟨hq, hng, rfl⟩ := hqq (.inl rfl)
          obtain ⟨r, hr, rfl, rfl⟩ := some_pair h
          exact guard (fun _ => eqGuard_ok .eql hvx hvy hng hq hr) (aeqBin_ok hT hc hq hvx hvy hnum hr).1
        · obtain ⟨hq, hng, rfl⟩ := hqq (.inr rfl)
          obtain ⟨r, hr, rfl, rfl⟩ := some_pair h
          exact guard (fun _ => eqGuard_ok .neq hvx hvy hng hq hr) (aeqBin_ok hT hc hq hvx hvy hnum hr).2
        · cases h
    split at htr
    · split at htr
      · rename_i q hq
        split at htr
        · rename_i hng
          cases htr
          exact fin (fun _ => ⟨hq, hng, rfl⟩) h
        · cases htr
      · cases htr
    · split at htr
      · rename_i q hq
        split at htr
        · rename_i hng
          cases htr
          exact fin (fun _ => ⟨hq, hng, rfl⟩) h
        · cases htr
      · cases htr
    · rename_i h1 h2
      cases htr
      exact fin (fun hh => by rcases hh with hh | hh; exact absurd hh h1; exact absurd hh h2) h
  · cases htr

include hc he in
theorem op_conv {s d : TypeId} {x : Operand} {ao : AOp} (htr : trOp P (.convert s d x) = some ao) {v : AV} {H' : Heap} (h : aop T cf ao e c.A = some (v, H')) :
    DoesV P (convert s d (a.eval x)) c v H' := by
  simp only [trOp] at htr
  split at htr
  · rename_i k0 k x' hs hd hx
    cases htr
    have hv := opd_ok hc he hx
    simp only [aop] at h
    split at h
    · rename_i hev
      cases h
      rw [hev] at hv
      generalize a.eval x = y at hv
      cases hv
      exact .same hc.wr (y := .int k (k.wrap _)) (by simp [convert, run_underlying hs, run_underlying hd, Conv.intToInt]) (.int _ _)
    · cases h
  · rename_i el x' hs hd hx
    split at htr
    · rename_i hel
      cases htr
      have hv := opd_ok hc he hx
      simp only [aop] at h
      split at h
      · rename_i str hev
        split at h
        · cases h
          rw [hev] at hv
          generalize a.eval x = y at hv
          cases hv
          obtain ⟨y, c', h1, h2⟩ := toBytes_ok (P := P) hc el str
          exact ⟨y, c', by simp [convert, run_underlying hs, run_underlying hd, run_underlying hel, h1], h2⟩
        · cases h
      · cases h
    · cases htr
  · rename_i el x' hs hd hx
    split at htr
    · rename_i hel hsz
      cases htr
      have hv := opd_ok hc he hx
      simp only [aop] at h
      split at h
      · rename_i m cs hview
        split at h
        · cases h
        · rename_i hns
          obtain ⟨str, hstr, rfl, rfl⟩ := some_pair h
          obtain ⟨y, c', h1, h2⟩ := ofBytes_ok (P := P) hc hv hview (fun s hs => hns s hs) hstr
          refine ⟨y, c', ?_, h2⟩
          have hsl : ∃ b n cap, a.eval x = .slice b n cap := by
            clear h1 h2 h hx hstr
            generalize ev T e x' = z at hv hview hns
            generalize a.eval x = y' at hv
            unfold viewOf at hview
            split at hview
            · cases hv; exact ⟨_, _, _, rfl⟩
            · exact (hns _ rfl).elim
            · cases hv; exact ⟨_, _, _, rfl⟩
            · cases hv; exact ⟨_, _, _, rfl⟩
            · cases hview
          obtain ⟨b, n, cap, hy⟩ := hsl
          rw [hy] at h1 ⊢
          cases b <;> simp [convert, run_underlying hs, run_underlying hd, run_underlying hel, h1]
      · cases h
    · cases htr
  · rename_i x' hs hd hx
    cases htr
    have hv := opd_ok hc he hx
    simp only [aop] at h
    split at h
    · rename_i hev
      cases h
      rw [hev] at hv
      generalize a.eval x = y at hv
      cases hv
      exact .same hc.wr (y := .string _) (by simp [convert, run_underlying hs, run_underlying hd]) (.str _)
    · cases h
  · cases htr
end
end Go.Eng
