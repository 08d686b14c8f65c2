/- Code under a caller's yield. No condition. -/
import Derived.Test.YtgjgcjhmaibblaaGreatDoorEi
namespace Go.Eng
open Go

def execB (T : Tab) (cf : CF) (l : Nat) (h : List AV → Heap → Option Heap) (n : Nat) : ACode → Env → Heap → Option (AEx × Env × Heap)
  | .skip, e, H => some (.normal, e, H)
  | .region ops, e, H => match runOpsB T cf l h ops e H with
    | some (e', H') => some (.normal, e', H')
    | none => none
  | .seq a b, e, H => match execB T cf l h n a e H with
    | some (.normal, e', H') => execB T cf l h n b e' H'
    | r => r
  | .cond c a b, e, H => match ev T e c with
    | .bool t => bif t then execB T cf l h n a e H else execB T cf l h n b e H
    | _ => none
  | .block id live body, e, H => match execB T cf l h n body e H with
    | some (.normal, e', H') => some (.normal, Env.keep live e', H')
    | some (.exit j, e', H') => bif j == id then some (.normal, Env.keep live e', H') else some (.exit j, e', H')
    | r => r
  | .loop live body, e, H => iter (fun e H => execB T cf l h n body e H) live n e H
  | .exit id, e, H => some (.exit id, e, H)
  | .ret, e, H => some (.ret, e, H)
  | _, _, _ => none

def codeV (P : Program) : Code → Bool
  | .region _ ops _ => callsV P ops
  | .seq a b => codeV P a && codeV P b
  | .cond _ a b => codeV P a && codeV P b
  | .block _ a => codeV P a
  | .loop a => codeV P a
  | .scope a => codeV P a
  | _ => true

def PostB (T : Tab) (nt : Nat) (K : Cx → Prop) (c : Cx) (a : Act) (x : AEx) (e' : Env) (H' : Heap) (Q : Exit → Act → World → Prop) : Prop :=
  ∀ (a' : Act) (c' : Cx), Tr c c' → K c' → OK T c' → c'.A = H' → EnvR c' e' a'.tmps → nt ≤ a'.tmps.size → a'.defers = a.defers → Q (toExit x) a' c'.w
theorem PostB.then {T : Tab} {nt : Nat} {K : Cx → Prop} {c c1 : Cx} {a a1 : Act} {x : AEx} {e' : Env} {H' : Heap} {Q : Exit → Act → World → Prop} (h : PostB T nt K c a x e' H' Q) (hE : Tr c c1) (hd : a1.defers = a.defers) : PostB T nt K c1 a1 x e' H' Q :=
  fun a' c' h1 h2 h3 h4 h5 h6 h7 => h a' c' (hE.trans h1) h2 h3 h4 h5 h6 (h7.trans hd)

section
variable {P : Program} {T : Tab} (hT : TabOK P T) {cf : CF} (hcf : CFok P T cf) {nt : Nat} {ro : Option Nat} {l : Nat} {K : Cx → Prop} (hK : ∀ c c', K c → Ext c c' → OK T c' → K c') {hh : List AV → Heap → Option Heap} (hY : YOK P T l K hh)

theorem loopB_ok {body : Code} {f : Env → Heap → Option (AEx × Env × Heap)} {live : List Nat}
    (hb : ∀ (c : Cx), K c → OK T c → ∀ (e : Env) (a : Act), EnvR c e a.tmps → nt ≤ a.tmps.size → ∀ (x : AEx) (e' : Env) (H' : Heap) (Q : Exit → Act → World → Prop), f e c.A = some (x, e', H') → PostB T nt K c a x e' H' Q → body.wpIn (WF ro) 0 P Q a c.w)
    {Q : Exit → Act → World → Prop} : ∀ (n : Nat) (c : Cx), K c → OK T c → ∀ (e : Env) (a : Act), EnvR c e a.tmps → nt ≤ a.tmps.size → ∀ (x : AEx) (e' : Env) (H' : Heap), iter f live n e c.A = some (x, e', H') → PostB T nt K c a x e' H' Q →
      ∀ (b : Frame) (k : List Item) (cs : List Frame), b.roundOf = (WF ro).round → ∃ y a' w', Q y a' w' ∧ ArrivesIn (Machine.fenced P (WF ro)) P (lone (b.atR a (.code body :: .inLoop body :: k)) cs c.w) b k cs y a' w'
  | 0, _, _, _, _, _, _, _, _, _, _, h, _ => by cases h
  | n + 1, c, hk0, hc, e, a, he, hsz, x, e', H', h, hQ => by
    intro b k cs hro
    have hFn : (WF ro).fn b.fn := trivial
    have hrm : ∀ m, (WF ro).room m := fun m => room_wide m
    unfold iter at h
    cases hf : f (Env.keep live e) c.A with
    | none => rw [hf] at h; cases h
    | some p =>
      obtain ⟨y, e1, H1⟩ := p
      rw [hf] at h
      have hk := keep_ok he live
      cases y with
      | normal =>
        simp only at h
        have := hb c hk0 hc _ a hk hsz .normal e1 H1 (fun z a' w' => z = .normal ∧ ∃ c', c'.w = w' ∧ Tr c c' ∧ K c' ∧ OK T c' ∧ c'.A = H1 ∧ EnvR c' e1 a'.tmps ∧ nt ≤ a'.tmps.size ∧ a'.defers = a.defers) hf
          (fun a' c' h1 h2 h3 h4 h5 h6 h7 => ⟨rfl, c', rfl, h1, h2, h3, h4, h5, h6, h7⟩)
        obtain ⟨z, a1, w1, ⟨rfl, c1, rfl, h1, h2, h3, h4, h5, h6, h7⟩, harr⟩ := this b (.inLoop body :: k) cs hro hFn (hrm _)
        subst h4
        obtain ⟨y2, a2, w2, hq2, harr2⟩ := loopB_ok hb n c1 h2 h3 e1 a1 h5 h6 x e' H' h (hQ.then h1 h7) b k cs hro
        exact ⟨y2, a2, w2, hq2, .of_steps (StepsIn.trans harr (.one (fenced_calm (n := 0) hFn (hrm _) rfl) stepR_inLoop)) harr2⟩
      | exit j =>
        simp only at h
        cases h
        have := hb c hk0 hc _ a hk hsz (.exit j) _ _ (fun z a' w' => z = .exit j ∧ Q z a' w') hf (fun a' c' h1 h2 h3 h4 h5 h6 h7 => ⟨rfl, hQ a' c' h1 h2 h3 h4 h5 h6 h7⟩)
        obtain ⟨z, a1, w1, ⟨rfl, hq⟩, harr⟩ := this b (.inLoop body :: k) cs hro hFn (hrm _)
        exact ⟨_, a1, w1, hq, .pass (x := .inLoop body) rfl (fun _ _ => .inl (by simp)) harr⟩
      | ret =>
        simp only at h
        cases h
        have := hb c hk0 hc _ a hk hsz .ret _ _ (fun z a' w' => z = .ret ∧ Q z a' w') hf (fun a' c' h1 h2 h3 h4 h5 h6 h7 => ⟨rfl, hQ a' c' h1 h2 h3 h4 h5 h6 h7⟩)
        obtain ⟨z, a1, w1, ⟨rfl, hq⟩, harr⟩ := this b (.inLoop body :: k) cs hro hFn (hrm _)
        exact ⟨_, a1, w1, hq, .pass (x := .inLoop body) rfl (fun _ _ => .inl (by simp)) harr⟩

include hT hcf hK hY in
theorem codeB_ok (n : Nat) : ∀ (code : Code) (lv : List (List Nat)) (ac : ACode) (rest : List (List Nat)), trCode P nt code lv = some (ac, rest) → codeV P code = true → ∀ (c : Cx), K c → OK T c → ∀ (e : Env) (a : Act), EnvR c e a.tmps → nt ≤ a.tmps.size →
    ∀ (x : AEx) (e' : Env) (H' : Heap) (Q : Exit → Act → World → Prop), execB T cf l hh n ac e c.A = some (x, e', H') → PostB T nt K c a x e' H' Q → code.wpIn (WF ro) 0 P Q a c.w := by
  intro code
  induction code with
  | skip =>
    intro lv ac rest htr _ c hk hc e a he hsz x e' H' Q h hQ
    cases htr; cases h
    exact wpIn_skip (hQ a c (Tr.refl c) hk hc rfl he hsz rfl)
  | label l =>
    intro lv ac rest htr _ c hk hc e a he hsz x e' H' Q h hQ
    cases htr; cases h
    exact wpIn_label (hQ a c (Tr.refl c) hk hc rfl he hsz rfl)
  | exit id =>
    intro lv ac rest htr _ c hk hc e a he hsz x e' H' Q h hQ
    cases htr; cases h
    exact wpIn_exit (hQ a c (Tr.refl c) hk hc rfl he hsz rfl)
  | ret =>
    intro lv ac rest htr _ c hk hc e a he hsz x e' H' Q h hQ
    cases htr; cases h
    exact wpIn_ret (hQ a c (Tr.refl c) hk hc rfl he hsz rfl)
  | goto l => intro lv ac rest htr _ c hk hc e a he hsz x e' H' Q h hQ; cases htr; cases h
  | refuse s => intro lv ac rest htr _ c hk hc e a he hsz x e' H' Q h hQ; cases htr; cases h
  | rangeFunc f p as body => intro lv ac rest htr _ c hk hc e a he hsz x e' H' Q h hQ; cases htr; cases h
  | region id ops d =>
    intro lv ac rest htr hv c hk hc e a he hsz x e' H' Q h hQ
    simp only [trCode] at htr
    cases d with
    | false =>
      simp only [Bool.false_eq_true, if_false] at htr
      cases htr
      unfold execB at h
      split at h
      · rename_i e1 H1 hr
        cases h
        exact regB hT hcf hv hK hY rfl hk hc he hsz hr hQ
      · cases h
    | true =>
      simp only [if_true] at htr
      split at htr
      · split at htr <;> cases htr <;> cases h
      · cases htr; cases h
  | seq p q ihp ihq =>
    intro lv ac rest htr hv c hk hc e a he hsz x e' H' Q h hQ
    simp only [codeV, Bool.and_eq_true] at hv
    simp only [trCode] at htr
    split at htr
    · rename_i p' l1 hp
      split at htr
      · rename_i q' l2 hq
        cases htr
        unfold execB at h
        cases hx : execB T cf l hh n p' e c.A with
        | none => rw [hx] at h; cases h
        | some r =>
          obtain ⟨y, e1, H1⟩ := r
          rw [hx] at h
          refine wpIn_seq ?_
          refine ihp lv p' l1 hp hv.1 c hk hc e a he hsz y e1 H1 _ hx fun a1 c1 h1 h2 h3 h4 h5 h6 h7 => ?_
          cases y with
          | normal =>
            simp only at h
            subst h4
            exact ihq l1 q' _ hq hv.2 c1 h2 h3 e1 a1 h5 h6 x e' H' Q h (hQ.then h1 h7)
          | exit j => simp only at h; cases h; exact hQ a1 c1 h1 h2 h3 h4 h5 h6 h7
          | ret => simp only at h; cases h; exact hQ a1 c1 h1 h2 h3 h4 h5 h6 h7
      · cases htr
    · cases htr
  | cond k p q ihp ihq =>
    intro lv ac rest htr hv c hk hc e a he hsz x e' H' Q h hQ
    simp only [codeV, Bool.and_eq_true] at hv
    simp only [trCode] at htr
    split at htr
    · rename_i k' p' l1 hkk hp
      split at htr
      · rename_i q' l2 hq
        cases htr
        unfold execB at h
        split at h
        · rename_i t ht
          have hv2 := opd_ok hc he hkk
          rw [ht] at hv2
          have hev : a.eval k = .bool t := by generalize a.eval k = z at hv2; cases hv2; rfl
          cases t with
          | true => exact wpIn_cond_true hev (ihp lv p' l1 hp hv.1 c hk hc e a he hsz x e' H' Q h hQ)
          | false => exact wpIn_cond_false hev (ihq l1 q' _ hq hv.2 c hk hc e a he hsz x e' H' Q h hQ)
        · cases h
      · cases htr
    · cases htr
  | block id body ih =>
    intro lv ac rest htr hv c hk hc e a he hsz x e' H' Q h hQ
    cases lv with
    | nil => simp only [trCode] at htr; cases htr; cases h
    | cons v lr =>
    simp only [trCode] at htr
    split at htr
    · rename_i b' l1 hb
      cases htr
      unfold execB at h
      cases hx : execB T cf l hh n b' e c.A with
      | none => rw [hx] at h; cases h
      | some r =>
        obtain ⟨y, e1, H1⟩ := r
        rw [hx] at h
        refine wpIn_block ?_
        refine ih lr b' _ hb hv c hk hc e a he hsz y e1 H1 _ hx fun a1 c1 h1 h2 h3 h4 h5 h6 h7 => ?_
        cases y with
        | normal => simp only at h; cases h; exact hQ a1 c1 h1 h2 h3 h4 (keep_ok h5 v) h6 h7
        | exit j =>
          simp only at h
          by_cases hj : j = id
          · subst hj
            simp only [beq_self_eq_true, cond_true] at h
            cases h
            simp only [toExit, Exit.inBlock, if_true]
            exact hQ a1 c1 h1 h2 h3 h4 (keep_ok h5 v) h6 h7
          · have hb : (j == id) = false := by simpa using hj
            simp only [hb, cond_false] at h
            cases h
            simp only [toExit, Exit.inBlock, hj, if_false]
            exact hQ a1 c1 h1 h2 h3 h4 h5 h6 h7
        | ret => simp only at h; cases h; exact hQ a1 c1 h1 h2 h3 h4 h5 h6 h7
    · cases htr
  | loop body ih =>
    intro lv ac rest htr hv c hk hc e a he hsz x e' H' Q h hQ
    cases lv with
    | nil => simp only [trCode] at htr; cases htr; cases h
    | cons v lr =>
    simp only [trCode] at htr
    split at htr
    · rename_i b' l1 hb
      cases htr
      unfold execB at h
      intro b k cs hro hFn hrm
      obtain ⟨y, a', w', hq, harr⟩ := loopB_ok (fun c hk hc e a he hsz x e' H' Q h hQ => ih lr b' _ hb hv c hk hc e a he hsz x e' H' Q h hQ) n c hk hc e a he hsz x e' H' h hQ b k cs hro
      exact ⟨y, a', w', hq, .of_steps (.one (fenced_calm hFn hrm rfl) stepR_loop) harr⟩
    · cases htr
  | scope body ih =>
    intro lv ac rest htr hv c hk hc e a he hsz x e' H' Q h hQ
    simp only [trCode] at htr
    split at htr
    · cases htr; cases h
    · cases htr
end

/-- A function's call under a caller's yield. -/
theorem bodyB_ok {P : Program} {T : Tab} (hT : TabOK P T) {cf : CF} (hcf : CFok P T cf) {l : Nat} {K : Cx → Prop} (hK : ∀ c c', K c → Ext c c' → OK T c' → K c') {hh : List AV → Heap → Option Heap} (hY : YOK P T l K hh) {n : Nat} {f : FuncId} {fn : Func} (hfn : P.funcs[f]? = some fn)
    {p : Bool} {lives : List (List Nat)} {ac : ACode} {rs : List ResV} (htr : trFn P fn p lives = some (.code p ac rs)) (hv : (match fn.body with
      | some code => codeV P code
      | none => true) = true) {args : List AV} {c : Cx} (hk : K c) (hc : OK T c) {args' : Array Value} (ha : VRs c args args'.toList) {x : AEx} (hx : x = .normal ∨ x = .ret) {e1 : Env} {H1 : Heap} (h : execB T cf l hh n ac (argEnv 0 args) c.A = some (x, e1, H1)) {vs : List AV} (hvs : mapO (resOf e1 H1) rs = some vs) :
    CallsIn Fence.wide 0 P f args' c.w fun e w' => ∃ y c', e = .returned y ∧ w' = c'.w ∧ Tr c c' ∧ K c' ∧ OK T c' ∧ c'.A = H1 ∧ VR c' (results1 vs) y := by
  unfold trFn at htr
  split at htr
  · rename_i code hbody
    rw [hbody] at hv
    split at htr
    · rename_i a1 rest rs1 hcode hres
      cases htr
      refine callsIn_of_wp hfn hbody trivial ?_ rfl
      refine codeB_ok (ro := none) hT hcf hK hY n code lives ac rest hcode hv c hk hc (argEnv 0 args) _ (argEnv_ok ha _) (by simp; omega) x e1 H1 _ h fun a' c' h1 h2 h3 h4 h5 h6 h7 => ?_
      subst h4
      obtain ⟨y, hy1, hy2⟩ := results_ok h3 h5 hres hvs
      rcases hx with rfl | rfl <;> exact ⟨h7, y, hy1, y, c', rfl, rfl, h1, h2, h3, rfl, hy2⟩
    · cases htr
  · cases htr
end Go.Eng
