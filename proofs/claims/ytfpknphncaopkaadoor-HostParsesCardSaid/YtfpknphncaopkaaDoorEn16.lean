/- Every operation of the loaded code does what its translation says: calls, and all. No condition. -/
import Derived.Test.YtfpknphncaopkaaDoorEn15
namespace Go.Eng
open Go

theorem list2 {α β : Type} {f : α → Option β} {l : List α} {x y : β} (h : mapOpt f l = some [x, y]) : ∃ p q, l = [p, q] ∧ f p = some x ∧ f q = some y := by
  obtain ⟨h1, h2⟩ := mapOpt_len h
  match l, h1 with
  | [p, q], _ =>
    obtain ⟨b1, e1, f1⟩ := h2 0 p rfl
    obtain ⟨b2, e2, f2⟩ := h2 1 q rfl
    simp at e1 e2
    subst e1; subst e2
    exact ⟨p, q, rfl, f1, f2⟩
theorem list1 {α β : Type} {f : α → Option β} {l : List α} {x : β} (h : mapOpt f l = some [x]) : ∃ p, l = [p] ∧ f p = some x := by
  obtain ⟨h1, h2⟩ := mapOpt_len h
  match l, h1 with
  | [p], _ =>
    obtain ⟨b1, e1, f1⟩ := h2 0 p rfl
    simp at e1
    subst e1
    exact ⟨p, rfl, f1⟩

theorem first_le {P : Program} {T : Tab} {c : Cx} (hc : OK T c) {e : Nat} {x : AV} {y : Value} (hx : VR c x y) {m : Nat} {ys : List AV} (h : viewOf c.A e x = some (m, ys)) (hyl : ys.length = m * e) {vs : List Value} (hyv : VRs c ys vs)
    (hrd : ∀ w', w'.heap = c.w.heap → (Builtin.lenOf y).run P w' = .ok m w' ∧ (Builtin.firstCells e m y).run P w' = .ok vs.toArray w') {k : Nat} (hk : k ≤ m) :
    (Builtin.firstCells e k y).run P c.w = .ok (vs.take (k * e)).toArray c.w := by
  have hvl : vs.length = m * e := by rw [← hyv.len, hyl]
  have hke : k * e ≤ m * e := Nat.mul_le_mul_right _ hk
  have hv := (hrd c.w rfl).2
  unfold viewOf at h
  split at h
  · cases h; cases hx
    obtain rfl : vs = [] := List.eq_nil_of_length_eq_zero (by simpa using hvl)
    simp [Builtin.firstCells]
  · rename_i s
    split at h
    · rename_i he; subst he
      cases h; cases hx
      simp only [Builtin.firstCells, Sem.run_pure] at hv ⊢
      rw [extract_list] at hv ⊢
      simp only [List.take_length, Nat.mul_one] at hv ⊢
      have : s.map (fun b => Value.int .u8 b.toNat) = vs := by simpa using hv
      rw [← this]
      simp
    · cases h
  · rename_i full n e' cs
    split at h
    · rename_i he; subst he
      cases h
      cases hx with
      | sl full n e cells us b o cap sp hsp hn hf0 he hlen hr hp hcc =>
        have hus : (loadCells ⟨b, o, sp⟩ us.length).run P c.w = .ok us.toArray c.w := reads_sp hsp hlen rfl hcc
        simp only [Builtin.firstCells] at hv ⊢
        rw [show m * e' = us.length by omega, hus] at hv
        have e1 : us = vs := by simpa using hv
        subst e1
        have := reads_sp (P := P) (w := c.w) (w' := c.w) (sp := sp) (cells := ys.take (k * e')) (fun h => hsp fun h0 => h (by simp [h0])) (by simp [hlen]) rfl (b := b) (o := o) (vs := us.take (k * e')) (fun j v hj => by
          rw [List.getElem?_take] at hj
          split at hj
          · exact hcc j v hj
          · cases hj)
        rw [show (us.take (k * e')).length = k * e' by simp; omega] at this
        exact this
    · cases h
  · rename_i i off n e' g
    split at h
    · rename_i he; subst he
      cases hh : hget c.A i off (n * e') g with
      | none => rw [hh] at h; cases h
      | some cs =>
        rw [hh] at h; cases h
        obtain ⟨hl, us, h2, h3⟩ := row_cells hc.wr hh
        obtain ⟨o', ho', hg', _, _⟩ := hget_some hh
        cases hx with
        | ms i off n e g ob a cap h1 hg hn hs ha hroom =>
          obtain rfl : ob = o' := Option.some.inj (h1.symm.trans ho')
          simp only [Builtin.firstCells] at hv ⊢
          by_cases hcap : cap = 0
          · obtain rfl : m = 0 := by omega
            obtain rfl : k = 0 := by omega
            simp [loadCells, loadCellsFrom]
          · rw [ha hg' hcap] at hv ⊢
            have hus : (loadCells (c.at i off) us.length).run P c.w = .ok us.toArray c.w := reads_heap rfl h3
            rw [show m * e' = us.length by rw [← h2.len, hl], hus] at hv
            have e1 : us = vs := by simpa using hv
            subst e1
            have := reads_heap (P := P) (w := c.w) (w' := c.w) rfl (b := c.blk i) (o := c.base i + off) (vs := us.take (k * e')) (fun j v hj => by
              rw [List.getElem?_take] at hj
              split at hj
              · exact h3 j v hj
              · cases hj)
            rw [show (us.take (k * e')).length = k * e' by simp; omega] at this
            exact this
    · cases h
  · cases h

theorem arr_head (u : Value) (us : Array Value) : (#[u] ++ us)[0]? = some u := by
  obtain ⟨l⟩ := us
  simp
theorem arr_tail (u : Value) (us : Array Value) : (#[u] ++ us).extract 1 (#[u] ++ us).size = us := by
  obtain ⟨l⟩ := us
  apply Array.ext'
  simp [List.extract_eq_take_drop]

section
variable {P : Program} {T : Tab} {c : Cx} (hc : OK T c) {a : Act} {e : Env} (he : EnvR c e a.tmps) {cf : CF}

include hc he in
theorem op_call {k : Call} {ty : TypeId} {ao : AOp} (hT : TabOK P T) (hcf : CFok P T cf) (htr : trOp P (.call k) = some ao) {v : AV} {H' : Heap} (h : aop T cf ao e c.A = some (v, H')) :
    Does P ((do let d ← resolve a.eval k ty; invoke d.target d.args : Sem Next).run P c.w) c v H' := by
  obtain ⟨callee, args, argTypes⟩ := k
  simp only [trOp] at htr
  split at htr
  · cases htr
  · rename_i args' hargs
    have hl := opds_ok hc he hargs
    split at htr
    · -- a function value
      rename_i f
      obtain ⟨f', hf, rfl⟩ := mapO_some htr
      have := applyF_ok hT hc hcf (opd_ok hc he hf) (args' := args.map a.eval) hl h
      simpa [resolve] using this
    · -- a method of an interface value
      rename_i x m
      obtain ⟨x', hx, rfl⟩ := mapO_some htr
      have := invoke_ok hT hc hcf (opd_ok hc he hx) (args' := args.map a.eval) hl h
      simp only [resolve, Sem.run_bind, Sem.run_pure, Result.andThen_ok, invoke, arr_head, arr_tail]
      exact this
    · -- a builtin
      rename_i b
      have bi : ∀ {s : Sem Value}, (∀ (g : Array Bool), builtin b argTypes ty g (args.map a.eval) = (do pure (.value (← s)))) → DoesV P s c v H' →
          Does P ((do let d ← resolve a.eval { callee := .builtin b, args := args, argTypes := argTypes } ty; invoke d.target d.args : Sem Next).run P c.w) c v H' := by
        intro s hs hd
        have := hd.does
        simp only [resolve, Sem.run_bind, Sem.run_pure, Result.andThen_ok, invoke, hs]
        simpa using this
      split at htr <;> first | (cases htr; done) | skip
      · -- len
        rename_i x t hat
        obtain ⟨p, hp, hx⟩ := list1 hargs
        have hargs' : args.map a.eval = #[a.eval p] := by apply Array.ext'; simp [hp]
        have hat' : argTypes = #[t] := by apply Array.ext'; simpa using hat
        refine bi (s := Builtin.len_ argTypes ty (args.map a.eval)) (fun _ => rfl) ?_
        rw [hargs', hat']
        have hv := opd_ok hc he hx
        split at htr
        · rename_i hu
          cases htr
          simp only [aop] at h
          split at h
          · rename_i s hev
            cases h
            rw [hev] at hv
            generalize a.eval p = y at hv
            cases hv
            exact .same hc.wr (y := goInt s.length) (by simp [Builtin.len_, run_underlying hu, bytes_size]) (.int _ _)
          · cases h
        · rename_i el hu
          cases htr
          simp only [aop] at h
          split at h
          · rename_i hev
            cases h
            rw [hev] at hv
            generalize a.eval p = y at hv
            cases hv
            exact .same hc.wr (y := goInt _) (by simp [Builtin.len_, run_underlying hu] <;> rfl) (.int _ _)
          · rename_i hev
            cases h
            rw [hev] at hv
            generalize a.eval p = y at hv
            cases hv
            exact .same hc.wr (y := goInt _) (by simp [Builtin.len_, run_underlying hu] <;> rfl) (.int _ _)
          · rename_i hev
            cases h
            rw [hev] at hv
            generalize a.eval p = y at hv
            cases hv
            exact .same hc.wr (y := goInt 0) (by simp [Builtin.len_, run_underlying hu]) (.int _ _)
          · cases h
        · rename_i n el hu
          cases htr
          simp only [aop] at h
          cases h
          exact .same hc.wr (y := goInt n) (by simp [Builtin.len_, run_underlying hu]) (.int _ _)
        · rename_i arr hu
          split at htr
          · rename_i n el hua
            cases htr
            simp only [aop] at h
            cases h
            exact .same hc.wr (y := goInt n) (by simp [Builtin.len_, run_underlying hu, run_underlying hua]) (.int _ _)
          · cases htr
        · cases htr
      · -- min
        rename_i x y _
        cases htr
        obtain ⟨p, q, hp, hx, hy⟩ := list2 hargs
        have hargs' : args.map a.eval = #[a.eval p, a.eval q] := by apply Array.ext'; simp [hp]
        refine bi (s := Builtin.min_ argTypes ty (args.map a.eval)) (fun _ => rfl) ?_
        rw [hargs']
        have hvx := opd_ok hc he hx
        have hvy := opd_ok hc he hy
        simp only [aop] at h
        split at h
        · rename_i k m k' n hex hey
          rw [hex] at hvx; rw [hey] at hvy
          cases h
          generalize a.eval p = xx at hvx
          generalize a.eval q = yy at hvy
          cases hvx; cases hvy
          exact .same hc.wr (by simp [Builtin.min_, Builtin.min2] <;> rfl) (.int _ _)
        · cases h
      · -- max
        rename_i x y _
        cases htr
        obtain ⟨p, q, hp, hx, hy⟩ := list2 hargs
        have hargs' : args.map a.eval = #[a.eval p, a.eval q] := by apply Array.ext'; simp [hp]
        refine bi (s := Builtin.max_ argTypes ty (args.map a.eval)) (fun _ => rfl) ?_
        rw [hargs']
        have hvx := opd_ok hc he hx
        have hvy := opd_ok hc he hy
        simp only [aop] at h
        split at h
        · rename_i k m k' n hex hey
          rw [hex] at hvx; rw [hey] at hvy
          cases h
          generalize a.eval p = xx at hvx
          generalize a.eval q = yy at hvy
          cases hvx; cases hvy
          exact .same hc.wr (by simp [Builtin.max_, Builtin.max2] <;> rfl) (.int _ _)
        · cases h
      · -- append
        rename_i x y s t hat
        obtain ⟨p, q, hp, hx, hy⟩ := list2 hargs
        have hargs' : args.map a.eval = #[a.eval p, a.eval q] := by apply Array.ext'; simp [hp]
        have hat' : argTypes = #[s, t] := by apply Array.ext'; simpa using hat
        refine bi (s := Builtin.append_ argTypes ty (args.map a.eval)) (fun _ => rfl) ?_
        rw [hargs', hat']
        have hvx := opd_ok hc he hx
        have hvy := opd_ok hc he hy
        split at htr
        · cases htr
        · rename_i el d hni hus hut
          cases hi : P.info? el with
          | none => rw [hi] at htr; cases htr
          | some i =>
            rw [hi] at htr
            simp only [Option.bind_some] at htr
            split at htr
            · rename_i z hz
              split at htr
              · rename_i hcond
                cases htr
                simp only [aop] at h
                split at h
                · rename_i m ys hview
                  exact append_ok hc ⟨⟨i, z, hi, rfl, rfl, hz, hcond.1⟩, hcond.2⟩ hus hut (fun k hk => by subst hk; exact hni k rfl) hvx hvy hview h
                · cases h
              · cases htr
            · cases htr
        · cases htr
      · -- copy
        rename_i x y s r hat
        obtain ⟨p, q, hp, hx, hy⟩ := list2 hargs
        have hargs' : args.map a.eval = #[a.eval p, a.eval q] := by apply Array.ext'; simp [hp]
        have hat' : argTypes[0]? = some s := by rw [← Array.getElem?_toList, hat]; rfl
        refine bi (s := Builtin.copy_ argTypes ty (args.map a.eval)) (fun _ => rfl) ?_
        rw [hargs']
        have hvx := opd_ok hc he hx
        have hvy := opd_ok hc he hy
        split at htr
        · rename_i el hu
          obtain ⟨sz, hsz, rfl⟩ := mapO_some htr
          simp only [aop] at h
          split at h
          · rename_i m ys hview
            obtain ⟨hyl, vs, hyv, hrd⟩ := view_ok (P := P) hc hvy hview
            split at h
            · rename_i i off n s' g hev
              rw [hev] at hvx
              generalize a.eval p = xx at hvx
              split at h
              · rename_i hcond
                obtain ⟨rfl, hcells⟩ := hcond
                split at h
                · rename_i H1 hH
                  cases h
                  have hone := (cells_ok (c := c) (a := .agg ys) (v := .agg vs.toArray) hyv.agg hcells).2
                  simp only [Value.cells] at hone
                  have htake := hyv.take ((Nat.min m n) * sz)
                  obtain ⟨c', hr, hE, hW, hA⟩ := write_row (P := P) hc htake (fun v hv => hone v (List.mem_of_mem_take hv)) hH
                  obtain ⟨o, ho, hg, hlive, hbound, _⟩ := hset_some hH
                  cases hvx with
                  | ms _ _ _ _ _ ob ad cap h1 h2 hn hsp ha hroom =>
                    obtain rfl : ob = o := Option.some.inj (h1.symm.trans ho)
                    refine ⟨goInt (Nat.min m n), c', ?_, hE, hW, hA, .int _ _⟩
                    have hfc : (Builtin.firstCells sz (Nat.min m n) (a.eval q)).run P c.w = .ok (vs.take ((Nat.min m n) * sz)).toArray c.w := by
                      have hview' : viewOf c.A sz (ev T e y) = some (m, ys) := hview
                      exact first_le hc hvy hview' hyl hyv hrd (Nat.min_le_left m n)
                    simp only [Builtin.copy_, hat', List.getElem?_toArray, List.getElem?_cons_zero, List.getElem?_cons_succ, Sem.run_bind, run_underlying hu, Result.andThen_ok, (hrd c.w rfl).1, run_size hsz, hfc]
                    by_cases hcap : cap = 0
                    · obtain rfl : n = 0 := by omega
                      have hr0 : c'.w = c.w := by
                        have : vs.take (Nat.min m 0 * sz) = [] := by simp
                        rw [this] at hr
                        simp [storeCells] at hr
                        exact hr.symm
                      simp [storeCells, hr0]
                    · rw [ha hg hcap, hr]
                      simp
                · cases h
              · cases h
            · cases h
          · cases h
        · cases htr
end
end Go.Eng
