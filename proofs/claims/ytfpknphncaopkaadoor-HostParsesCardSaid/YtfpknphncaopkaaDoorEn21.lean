/- The abstract interpreter is sound: what it gives is what the loaded program's calls give. No condition. -/
import Derived.Test.YtfpknphncaopkaaDoorEn20
import Derived.Scope
namespace Go.Eng
open Go

section
variable {P : Program} {T : Tab} (hT : TabOK P T) {cf : CF} (hcf : CFok P T cf) (hqf : QF T cf) {nt : Nat}

theorem loop_ok {body : Code} {f : Env → Heap → Option (AEx × Env × Heap)} {live : List Nat}
    (hb : ∀ (c : Cx), OK T c → ∀ (e : Env) (a : Act), EnvR c e a.tmps → nt ≤ a.tmps.size → ∀ (x : AEx) (e' : Env) (H' : Heap) (Q : Exit → Act → World → Prop), f e c.A = some (x, e', H') → Post T nt c a x e' H' Q → body.wp P Q a c.w)
    {Q : Exit → Act → World → Prop} : ∀ (n : Nat) (c : Cx), OK T c → ∀ (e : Env) (a : Act), EnvR c e a.tmps → nt ≤ a.tmps.size → ∀ (x : AEx) (e' : Env) (H' : Heap), iter f live n e c.A = some (x, e', H') → Post T nt c a x e' H' Q →
      ∀ (b : Frame) (k : List Item) (cs : List Frame), ∃ y a' w', Q y a' w' ∧ Arrives P (lone (b.at a (.code body :: .inLoop body :: k)) cs c.w) b k cs y a' w'
  | 0, _, _, _, _, _, _, _, _, _, h, _ => by cases h
  | n + 1, c, hc, e, a, he, hsz, x, e', H', h, hQ => by
    intro b k cs
    unfold iter at h
    cases hf : f (Env.keep live e) c.A with
    | none => rw [hf] at h; cases h
    | some p =>
      obtain ⟨y, e1, H1⟩ := p
      rw [hf] at h
      have hk := keep_ok he live
      cases y with
      | normal =>
        simp only at h
        have := hb c hc _ a hk hsz .normal e1 H1 (fun z a' w' => z = .normal ∧ ∃ c', c'.w = w' ∧ Ext c c' ∧ OK T c' ∧ c'.A = H1 ∧ EnvR c' e1 a'.tmps ∧ nt ≤ a'.tmps.size ∧ a'.defers = a.defers) hf
          (fun a' c' h1 h2 h3 h4 h5 h6 => ⟨rfl, c', rfl, h1, h2, h3, h4, h5, h6⟩)
        obtain ⟨z, a1, w1, ⟨rfl, c1, rfl, h1, h2, h3, h4, h5, h6⟩, harr⟩ := this b (.inLoop body :: k) cs
        subst h3
        obtain ⟨y2, a2, w2, hq2, harr2⟩ := loop_ok hb n c1 h2 e1 a1 h4 h5 x e' H' h (hQ.then h1 h6) b k cs
        exact ⟨y2, a2, w2, hq2, .of_steps (Steps.trans harr (.one step_inLoop)) harr2⟩
      | exit j =>
        simp only at h
        cases h
        have := hb c hc _ a hk hsz (.exit j) _ _ (fun z a' w' => z = .exit j ∧ Q z a' w') hf (fun a' c' h1 h2 h3 h4 h5 h6 => ⟨rfl, hQ a' c' h1 h2 h3 h4 h5 h6⟩)
        obtain ⟨z, a1, w1, ⟨rfl, hq⟩, harr⟩ := this b (.inLoop body :: k) cs
        exact ⟨_, a1, w1, hq, .pass (x := .inLoop body) rfl (fun _ _ => .inl (by simp)) harr⟩
      | ret =>
        simp only at h
        cases h
        have := hb c hc _ a hk hsz .ret _ _ (fun z a' w' => z = .ret ∧ Q z a' w') hf (fun a' c' h1 h2 h3 h4 h5 h6 => ⟨rfl, hQ a' c' h1 h2 h3 h4 h5 h6⟩)
        obtain ⟨z, a1, w1, ⟨rfl, hq⟩, harr⟩ := this b (.inLoop body :: k) cs
        exact ⟨_, a1, w1, hq, .pass (x := .inLoop body) rfl (fun _ _ => .inl (by simp)) harr⟩

include hT hcf hqf in
theorem code_ok (n : Nat) : ∀ (code : Code) (lv : List (List Nat)) (ac : ACode) (rest : List (List Nat)), trCode P nt code lv = some (ac, rest) → ∀ (c : Cx), OK T c → ∀ (e : Env) (a : Act), EnvR c e a.tmps → nt ≤ a.tmps.size →
    ∀ (x : AEx) (e' : Env) (H' : Heap) (Q : Exit → Act → World → Prop), exec T cf n ac e c.A = some (x, e', H') → Post T nt c a x e' H' Q → code.wp P Q a c.w := by
  intro code
  induction code with
  | skip =>
    intro lv ac rest htr c hc e a he hsz x e' H' Q h hQ
    cases htr; cases h
    exact wp_skip (hQ a c (Ext.refl c) hc rfl he hsz rfl)
  | label l =>
    intro lv ac rest htr c hc e a he hsz x e' H' Q h hQ
    cases htr; cases h
    exact wp_label (hQ a c (Ext.refl c) hc rfl he hsz rfl)
  | exit id =>
    intro lv ac rest htr c hc e a he hsz x e' H' Q h hQ
    cases htr; cases h
    exact wp_exit (hQ a c (Ext.refl c) hc rfl he hsz rfl)
  | ret =>
    intro lv ac rest htr c hc e a he hsz x e' H' Q h hQ
    cases htr; cases h
    exact wp_ret (hQ a c (Ext.refl c) hc rfl he hsz rfl)
  | goto l => intro lv ac rest htr c hc e a he hsz x e' H' Q h hQ; cases htr; cases h
  | refuse s => intro lv ac rest htr c hc e a he hsz x e' H' Q h hQ; cases htr; cases h
  | rangeFunc f p as body => intro lv ac rest htr c hc e a he hsz x e' H' Q h hQ; cases htr; cases h
  | region id ops d =>
    intro lv ac rest htr c hc e a he hsz x e' H' Q h hQ
    simp only [trCode] at htr
    cases d with
    | false =>
      simp only [Bool.false_eq_true, if_false] at htr
      cases htr
      unfold exec at h
      split at h
      · rename_i e1 H1 hr
        cases h
        refine wp_region ?_
        rw [List.range_eq_range']
        exact ops_ok hT hcf ops.toList 0 rfl c hc e a he hsz e' H' hr hQ
      · cases h
    | true =>
      simp only [if_true] at htr
      split at htr
      · rename_i hd
        cases htr
        unfold exec at h
        split at h
        · rename_i e1 hr
          cases h
          exact draw_ok hT hcf hqf hd hc he hsz hr hQ
        · cases h
      · cases htr; cases h
  | seq p q ihp ihq =>
    intro lv ac rest htr c hc e a he hsz x e' H' Q h hQ
    simp only [trCode] at htr
    split at htr
    · rename_i p' l1 hp
      split at htr
      · rename_i q' l2 hq
        cases htr
        unfold exec at h
        cases hx : exec T cf n p' e c.A with
        | none => rw [hx] at h; cases h
        | some r =>
          obtain ⟨y, e1, H1⟩ := r
          rw [hx] at h
          refine wp_seq ?_
          refine ihp lv p' l1 hp c hc e a he hsz y e1 H1 _ hx fun a1 c1 h1 h2 h3 h4 h5 h6 => ?_
          cases y with
          | normal =>
            simp only at h
            subst h3
            exact ihq l1 q' _ hq c1 h2 e1 a1 h4 h5 x e' H' Q h (hQ.then h1 h6)
          | exit j => simp only at h; cases h; exact hQ a1 c1 h1 h2 h3 h4 h5 h6
          | ret => simp only at h; cases h; exact hQ a1 c1 h1 h2 h3 h4 h5 h6
      · cases htr
    · cases htr
  | cond k p q ihp ihq =>
    intro lv ac rest htr c hc e a he hsz x e' H' Q h hQ
    simp only [trCode] at htr
    split at htr
    · rename_i k' p' l1 hk hp
      split at htr
      · rename_i q' l2 hq
        cases htr
        unfold exec at h
        split at h
        · rename_i t ht
          have hv := opd_ok hc he hk
          rw [ht] at hv
          have hev : a.eval k = .bool t := by generalize a.eval k = z at hv; cases hv; rfl
          cases t with
          | true => exact wp_cond_true hev (ihp lv p' l1 hp c hc e a he hsz x e' H' Q h hQ)
          | false => exact wp_cond_false hev (ihq l1 q' _ hq c hc e a he hsz x e' H' Q h hQ)
        · cases h
      · cases htr
    · cases htr
  | block id body ih =>
    intro lv ac rest htr c hc e a he hsz x e' H' Q h hQ
    cases lv with
    | nil => simp only [trCode] at htr; cases htr; cases h
    | cons v l =>
    simp only [trCode] at htr
    split at htr
    · rename_i b' l1 hb
      cases htr
      unfold exec at h
      cases hx : exec T cf n b' e c.A with
      | none => rw [hx] at h; cases h
      | some r =>
        obtain ⟨y, e1, H1⟩ := r
        rw [hx] at h
        refine wp_block ?_
        refine ih l b' _ hb c hc e a he hsz y e1 H1 _ hx fun a1 c1 h1 h2 h3 h4 h5 h6 => ?_
        cases y with
        | normal => simp only at h; cases h; exact hQ a1 c1 h1 h2 h3 (keep_ok h4 v) h5 h6
        | exit j =>
          simp only at h
          by_cases hj : j = id
          · subst hj
            simp only [beq_self_eq_true, cond_true] at h
            cases h
            simp only [toExit, Exit.inBlock, if_true]
            exact hQ a1 c1 h1 h2 h3 (keep_ok h4 v) h5 h6
          · have hb : (j == id) = false := by simpa using hj
            simp only [hb, cond_false] at h
            cases h
            simp only [toExit, Exit.inBlock, hj, if_false]
            exact hQ a1 c1 h1 h2 h3 h4 h5 h6
        | ret => simp only at h; cases h; exact hQ a1 c1 h1 h2 h3 h4 h5 h6
    · cases htr
  | loop body ih =>
    intro lv ac rest htr c hc e a he hsz x e' H' Q h hQ
    cases lv with
    | nil => simp only [trCode] at htr; cases htr; cases h
    | cons v l =>
    simp only [trCode] at htr
    split at htr
    · rename_i b' l1 hb
      cases htr
      unfold exec at h
      intro b k cs
      obtain ⟨y, a', w', hq, harr⟩ := loop_ok (fun c hc e a he hsz x e' H' Q h hQ => ih l b' _ hb c hc e a he hsz x e' H' Q h hQ) n c hc e a he hsz x e' H' h hQ b k cs
      exact ⟨y, a', w', hq, .of_steps (.one step_loop) harr⟩
    · cases htr
  | scope body ih =>
    intro lv ac rest htr c hc e a he hsz x e' H' Q h hQ
    simp only [trCode] at htr
    split at htr
    · rename_i b' l1 hb
      cases htr
      unfold exec at h
      refine wp_scope_straight ?_
      refine ih lv b' _ hb c hc e a he hsz x e' H' _ h fun a1 c1 h1 h2 h3 h4 h5 h6 => ?_
      have := hQ a1 c1 h1 h2 h3 h4 h5 h6
      cases x <;> exact this
    · cases htr
end

/-! ### calls -/
theorem mapO_ok {f : ResV → Option AV} : ∀ {l : List ResV} {vs : List AV}, mapO f l = some vs → vs.length = l.length ∧ ∀ (k : Nat) (r : ResV), l[k]? = some r → ∃ v, vs[k]? = some v ∧ f r = some v
  | [], vs, h => by cases h; exact ⟨rfl, fun k r hk => by simp at hk⟩
  | x :: l, vs, h => by
    unfold mapO at h
    split at h
    · rename_i v hv
      split at h
      · rename_i vs' hvs
        cases h
        obtain ⟨h1, h2⟩ := mapO_ok hvs
        refine ⟨by simp [h1], fun k r hk => ?_⟩
        cases k with
        | zero => simp at hk; subst hk; exact ⟨v, rfl, hv⟩
        | succ k => simp at hk; simpa using h2 k r hk
      · cases h
    · cases h

/-- A function's results. -/
theorem results_ok {P : Program} {T : Tab} {c : Cx} (hc : OK T c) {e : Env} {tmps : Array Value} (he : EnvR c e tmps) {fn : Func} {rs : List ResV} (hrs : mapOpt (trRes P) fn.results.toList = some rs) {vs : List AV} (h : mapO (resOf e c.A) rs = some vs) :
    ∃ y, (results fn tmps).run P c.w = .ok y c.w ∧ VR c (results1 vs) y := by
  obtain ⟨hl1, hr1⟩ := mapOpt_len hrs
  obtain ⟨hl2, hr2⟩ := mapO_ok h
  let g : ResultVar → Sem Value := fun r => match r with
    | .tmp t => pure (tmps.getD t undef)
    | .cell a t => do loadVar t (← asAddr (tmps.getD a undef))
  have one : ∀ (r : ResultVar) (r' : ResV) (v : AV), trRes P r = some r' → resOf e c.A r' = some v → ∃ y, (g r).run P c.w = .ok y c.w ∧ VR c v y := by
    intro r r' v h1 h2
    cases r with
    | tmp t => cases h1; cases h2; exact ⟨_, rfl, he t⟩
    | cell t ty =>
      simp only [trRes] at h1
      cases hag : aggO P ty with
      | none => rw [hag] at h1; cases h1
      | some n =>
        rw [hag] at h1; cases h1
        have hv := he t
        cases n with
        | none =>
          simp only [resOf] at h2
          split at h2
          · rename_i i off gg hev
            rw [hev] at hv
            split at h2
            · rename_i u hu
              cases h2
              obtain ⟨_, b, o, us, hy, h3, h4⟩ := behind_ok hc.wr hv (n := 1) hu
              obtain ⟨u', x', rfl, h5, h6⟩ := h3.uncons
              have h0 : c.w.cell? ⟨b, o, none⟩ = some u' := by simpa using h4 0 u' rfl
              exact ⟨u', by simp only [g, Sem.run_bind, hy, asAddr, Sem.run_pure, Result.andThen_ok, run_loadVar_one hag h0], h5⟩
            · cases h2
          · cases h2
        | some n =>
          simp only [resOf] at h2
          split at h2
          · rename_i i off gg hev
            rw [hev] at hv
            obtain ⟨cs, hcs, rfl⟩ := mapO_some h2
            obtain ⟨hl, b, o, us, hy, h3, h4⟩ := behind_ok hc.wr hv (n := n) hcs
            exact ⟨.agg us.toArray, by simp only [g, Sem.run_bind, hy, asAddr, Sem.run_pure, Result.andThen_ok, run_loadVar_agg hag (h3.len.symm.trans hl) h4], h3.agg⟩
          · cases h2
  have all : ∀ (l : List ResultVar) (rs : List ResV) (vs : List AV), mapOpt (trRes P) l = some rs → mapO (resOf e c.A) rs = some vs → ∃ ys : List Value, (l.mapM g).run P c.w = .ok ys c.w ∧ VRs c vs ys := by
    intro l
    induction l with
    | nil => intro rs vs h1 h2; cases h1; cases h2; exact ⟨[], rfl, .nil c⟩
    | cons r l ih =>
      intro rs vs h1 h2
      unfold mapOpt at h1
      split at h1
      · rename_i r' hr'
        split at h1
        · rename_i rs' hrs'
          cases h1
          unfold mapO at h2
          split at h2
          · rename_i v hv
            split at h2
            · rename_i vs' hvs'
              cases h2
              obtain ⟨y, hy1, hy2⟩ := one r r' v hr' hv
              obtain ⟨ys, hys1, hys2⟩ := ih rs' vs' hrs' hvs'
              exact ⟨y :: ys, by simp only [List.mapM_cons, Sem.run_bind, hy1, Result.andThen_ok, hys1, Sem.run_pure], .cons hy2 hys2⟩
            · cases h2
          · cases h2
        · cases h1
      · cases h1
  obtain ⟨ys, hys1, hys2⟩ := all _ rs vs hrs h
  have hM : (fn.results.mapM g).run P c.w = .ok ys.toArray c.w := by
    rw [Array.mapM_eq_mapM_toList]
    simp only [Sem.run_map, hys1, Result.andThen_ok]
  have hres : (results fn tmps).run P c.w = .ok (if h : ys.toArray.size = 1 then ys.toArray[0] else .tuple ys.toArray) c.w := by
    have hdef : results fn tmps = (do let vs ← fn.results.mapM g; pure (if h : vs.size = 1 then vs[0] else .tuple vs)) := rfl
    rw [hdef]
    simp only [Sem.run_bind, hM, Result.andThen_ok, Sem.run_pure]
  refine ⟨_, hres, ?_⟩
  match vs, ys, hys2 with
  | [], [], h => exact h.tup
  | [v], [y], h =>
    obtain ⟨_, _, e1, h1, _⟩ := h.uncons
    cases e1
    exact h1
  | v :: v' :: vs, y :: y' :: ys, h =>
    have : ¬ ((y :: y' :: ys).toArray.size = 1) := by simp
    rw [dif_neg this]
    exact h.tup
  | [], _ :: _, h => have := h.len; simp at this
  | [_], [], h => have := h.len; simp at this
  | [_], _ :: _ :: _, h => have := h.len; simp at this
  | _ :: _ :: _, [], h => have := h.len; simp at this
  | _ :: _ :: _, [_], h => have := h.len; simp at this
end Go.Eng
