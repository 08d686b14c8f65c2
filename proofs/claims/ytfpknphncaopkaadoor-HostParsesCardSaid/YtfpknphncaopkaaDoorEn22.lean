/- The abstract interpreter is sound: calls. No condition. -/
import Derived.Test.YtfpknphncaopkaaDoorEn21
namespace Go.Eng
open Go

/-! ### closed values -/
theorem closedL_get : ∀ {l : List AV} {k : Nat} {a : AV}, closedL l = true → l[k]? = some a → a.closed = true
  | [], k, a, _, h => by simp at h
  | x :: l, 0, a, hc, h => by simp at h; subst h; simp only [closedL, Bool.and_eq_true] at hc; exact hc.1
  | x :: l, k + 1, a, hc, h => by simp only [closedL, Bool.and_eq_true] at hc; exact closedL_get hc.2 (by simpa using h)

theorem VR.closed {c c' : Cx} (hw : c'.w = c.w) (hp : ∀ b, Perm c b → Perm c' b) {a : AV} {y : Value} (h : VR c a y) : a.closed = true → VR c' a y := by
  induction h with
  | unk y => intro h; cases h
  | bool b => intro _; exact .bool b
  | int k n => intro _; exact .int k n
  | str s => intro _; exact .str s
  | cst v => intro _; exact .cst v
  | ptr i off g o a h1 hg ha => intro h; cases h
  | ms i off n e g o a cap h1 hg hn hs ha hroom => intro h; cases h
  | ep cells vs b o hl hr hpm hc ih =>
    intro h
    simp only [AV.closed] at h
    exact .ep cells vs b o hl (fun k a v h1 h2 => ih k a v h1 h2 (closedL_get h h1)) (hp _ hpm) (fun k v hk => by rw [hw]; exact hc k v hk)
  | sl full n e cells vs b o cap sp hsp hn hf he hl hr hpm hc ih =>
    intro h
    simp only [AV.closed] at h
    exact .sl full n e cells vs b o cap sp hsp hn hf he hl (fun k a v h1 h2 => ih k a v h1 h2 (closedL_get h h1)) (fun hne => hp _ (hpm hne)) (fun k v hk => by rw [hw]; exact hc k v hk)
  | fn f x y x' y' hx hx' hy hy' ih1 ih2 =>
    intro h
    simp only [AV.closed, Bool.and_eq_true] at h
    exact .fn f x y x' y' hx (fun k a v h1 h2 => ih1 k a v h1 h2 (closedL_get h.1 h1)) hy (fun k a v h1 h2 => ih2 k a v h1 h2 (closedL_get h.2 h1))
  | iface t x y h ih => intro h; simp only [AV.closed] at h; exact .iface t x y (ih h)
  | agg x x' hx hx' ih => intro h; simp only [AV.closed] at h; exact .agg x x' hx (fun k a v h1 h2 => ih k a v h1 h2 (closedL_get h h1))
  | tup x x' hx hx' ih => intro h; simp only [AV.closed] at h; exact .tup x x' hx (fun k a v h1 h2 => ih k a v h1 h2 (closedL_get h h1))

theorem VRs.closed {c c' : Cx} (hw : c'.w = c.w) (hp : ∀ b, Perm c b → Perm c' b) {x : List AV} {y : List Value} (h : VRs c x y) (hc : closedL x = true) : VRs c' x y :=
  ⟨h.len, fun k a v h1 h2 => (h.rel k a v h1 h2).closed hw hp (closedL_get hc h1)⟩

/-! ### snapshots -/
/-- Rows are frozen, nothing else. -/
structure Fro (c c' : Cx) : Prop where
  ext : Ext c c'
  wr : WR c'
  w : c'.w = c.w
  blk : c'.blk = c.blk
  base : c'.base = c.base
  row : ∀ (i : Nat) (o : AObj), c.A[i]? = some o → ∃ l, c'.A[i]? = some { o with live := l }

theorem Fro.refl {c : Cx} (h : WR c) : Fro c c := ⟨Ext.refl c, h, rfl, rfl, rfl, fun _i o ho => ⟨o.live, ho⟩⟩
theorem Fro.trans {a b c : Cx} (h : Fro a b) (k : Fro b c) : Fro a c :=
  ⟨h.ext.trans k.ext, k.wr, k.w.trans h.w, k.blk.trans h.blk, k.base.trans h.base, fun i o ho => by
    obtain ⟨l, h1⟩ := h.row i o ho
    obtain ⟨l', h2⟩ := k.row i _ h1
    exact ⟨l', h2⟩⟩

theorem freeze_ok {c : Cx} (hW : WR c) {i : Nat} {o : AObj} (hi : c.A[i]? = some o) : ∃ c', Fro c c' ∧ c'.A = freeze c.A i ∧ Perm c' (c.blk i) := by
  have hre := re_ok hW hi (b := c.blk i) (p := c.base i) (o' := { o with live := false }) (w' := c.w) (fun h => by cases h) (Nat.le_refl _) (fun _ => ⟨rfl, rfl⟩) (.inl rfl) (Nat.le_refl _) (hW.lt i o hi)
    (fun _ _ _ => rfl) (fun _ h => h) rfl rfl (fun h => by cases h) (fun k a hk => hW.cell i o hi k a hk)
  have hb : (c.re i (c.blk i) (c.base i) { o with live := false } c.w).blk = c.blk := by funext j; simp only [Cx.re]; split <;> simp_all
  have hp : (c.re i (c.blk i) (c.base i) { o with live := false } c.w).base = c.base := by funext j; simp only [Cx.re]; split <;> simp_all
  refine ⟨c.re i (c.blk i) (c.base i) { o with live := false } c.w, ⟨hre.1, hre.2, rfl, hb, hp, fun j q hq => ?_⟩, by simp [Cx.re, freeze, hi], hW.lt i o hi, ?_⟩
  · by_cases e : j = i
    · subst e
      obtain rfl : o = q := Option.some.inj (hi.symm.trans hq)
      exact ⟨false, by simp [Cx.re, lt_of_some hi]⟩
    · exact ⟨q.live, by simp only [Cx.re]; rw [List.getElem?_set_ne (by omega)]; exact hq⟩
  · rintro (h | ⟨j, q, h1, h2, h3⟩)
    · exact hW.nf i o hi h
    · rw [hb] at h3
      simp only [Cx.re] at h1
      rcases set_some h1 with ⟨h4, h5⟩ | ⟨h4, h5, _⟩
      · exact h4 (hW.inj j i q o h5 hi h3)
      · subst h5; cases h2

theorem mapS_ok {f : Heap → AV → Option (AV × Heap)}
    (hf : ∀ (c : Cx), WR c → ∀ (v : AV) (y : Value), VR c v y → ∀ v' H', f c.A v = some (v', H') → ∃ c', Fro c c' ∧ c'.A = H' ∧ VR c' v' y ∧ v'.closed = true) :
    ∀ (x : List AV) (c : Cx), WR c → ∀ (y : List Value), VRs c x y → ∀ x' H', mapS f c.A x = some (x', H') → ∃ c', Fro c c' ∧ c'.A = H' ∧ VRs c' x' y ∧ closedL x' = true
  | [], c, hW, y, h, x', H', hm => by
    cases hm
    exact ⟨c, Fro.refl hW, rfl, h, rfl⟩
  | a :: x, c, hW, y, h, x', H', hm => by
    obtain ⟨v, ys, rfl, hv, hvs⟩ := h.uncons
    unfold mapS at hm
    split at hm
    · rename_i a' H1 ha
      obtain ⟨c1, h1, h2, h3, h4⟩ := hf c hW a v hv a' H1 ha
      split at hm
      · rename_i as' H2 has
        cases hm
        rw [← h2] at has
        obtain ⟨c2, k1, k2, k3, k4⟩ := mapS_ok hf x c1 h1.wr ys (hvs.ext h1.ext) as' _ has
        exact ⟨c2, h1.trans k1, k2, .cons (h3.ext k1.ext) k3, by simp only [closedL, Bool.and_eq_true]; exact ⟨h4, k4⟩⟩
      · cases hm
    · cases hm

theorem snap_ok : ∀ (k : Nat) (c : Cx), WR c → ∀ (v : AV) (y : Value), VR c v y → ∀ v' H', snap k c.A v = some (v', H') → ∃ c', Fro c c' ∧ c'.A = H' ∧ VR c' v' y ∧ v'.closed = true
  | 0, c, hW, v, y, h, v', H', hs => by cases hs
  | k + 1, c, hW, v, y, h, v', H', hs => by
    have ih := snap_ok k
    unfold snap at hs
    split at hs
    · rename_i i off n e g
      split at hs
      · rename_i cs hcs
        split at hs
        · rename_i cs' H1 hm
          cases hs
          obtain ⟨hl, vs, h2, h3⟩ := row_cells hW hcs
          obtain ⟨o', ho', hg', _, _⟩ := hget_some hcs
          obtain ⟨c1, f1, f2, f3, f4⟩ := mapS_ok ih cs c hW vs h2 cs' H1 hm
          cases h with
          | ms i off n e g o a cap q1 hg hn hsp ha hroom =>
            obtain rfl : o = o' := Option.some.inj (q1.symm.trans ho')
            obtain ⟨l, hl1⟩ := f1.row i o q1
            obtain ⟨c2, g1, g2, g3⟩ := freeze_ok f1.wr hl1
            have hfr := f1.trans g1
            refine ⟨c2, hfr, by rw [g2, f2], ?_, by simp only [AV.closed]; exact f4⟩
            have f3' := f3.ext g1.ext
            have hcl : cs'.length = n * e := by rw [f3.len, ← h2.len, hl]
            obtain ⟨ab, ao, asp⟩ := a
            simp only at hsp
            subst hsp
            by_cases hcap : cap = 0
            · obtain rfl : n = 0 := by omega
              have hnil : cs' = [] := List.eq_nil_of_length_eq_zero (by simpa using hcl)
              subst hnil
              exact .sl _ _ _ _ [] ab ao _ none (fun _ => rfl) hn (fun h => by cases h) (by simp) rfl (fun k a v h => by simp at h) (fun h => absurd rfl h) (fun k v h => by simp at h)
            · have hA := ha hg' hcap
              simp only [Cx.at, Addr.mk.injEq, and_true] at hA
              obtain ⟨rfl, rfl⟩ := hA
              refine .sl _ _ _ _ vs _ _ _ none (fun _ => rfl) hn (fun h => by cases h) hcl f3'.len f3'.rel (fun _ => by rw [← f1.blk]; exact g3) (fun k v hk => ?_)
              rw [hfr.w]; exact h3 k v hk
        · cases hs
      · cases hs
    · rename_i cs
      split at hs
      · rename_i cs' H1 hm
        cases hs
        obtain ⟨ys, rfl, hl⟩ := h.agg_inv
        obtain ⟨c1, f1, f2, f3, f4⟩ := mapS_ok ih cs c hW _ hl cs' H' hm
        exact ⟨c1, f1, f2, by simpa using f3.agg, by simp only [AV.closed]; exact f4⟩
      · cases hs
    · rename_i cs
      split at hs
      · rename_i cs' H1 hm
        cases hs
        obtain ⟨ys, rfl, hl⟩ := h.tup_inv
        obtain ⟨c1, f1, f2, f3, f4⟩ := mapS_ok ih cs c hW _ hl cs' H' hm
        exact ⟨c1, f1, f2, by simpa using f3.tup, by simp only [AV.closed]; exact f4⟩
      · cases hs
    · rename_i t x
      split at hs
      · rename_i x' H1 hm
        cases hs
        cases h with
        | iface t x y hx =>
          obtain ⟨c1, f1, f2, f3, f4⟩ := ih c hW x y hx x' H' hm
          exact ⟨c1, f1, f2, .iface _ _ _ f3, by simp only [AV.closed]; exact f4⟩
      · cases hs
    · rename_i full n e cs
      cases hc : closedL cs with
      | false => rw [hc] at hs; cases hs
      | true =>
        rw [hc] at hs; cases hs
        cases h with
        | sl full n e cells vs b o cap sp hsp hn hf he hl hr hpm hcc =>
          exact ⟨c, Fro.refl hW, rfl, .sl false n e cs vs b o cap sp hsp hn (fun h => by cases h) he hl hr hpm hcc, by simp only [AV.closed]; exact hc⟩
    · cases hc : v.closed with
      | false => rw [hc] at hs; cases hs
      | true =>
        rw [hc] at hs; cases hs
        exact ⟨c, Fro.refl hW, rfl, h, hc⟩

/-- A closed value's snapshot leaves the heap. -/
theorem mapS_closed {f : Heap → AV → Option (AV × Heap)} (hf : ∀ H v v' H', v.closed = true → f H v = some (v', H') → H' = H) : ∀ (x : List AV) (H : Heap) (x' : List AV) (H' : Heap), closedL x = true → mapS f H x = some (x', H') → H' = H
  | [], H, x', H', _, h => by cases h; rfl
  | a :: x, H, x', H', hc, h => by
    simp only [closedL, Bool.and_eq_true] at hc
    unfold mapS at h
    split at h
    · rename_i a' H1 ha
      split at h
      · rename_i as' H2 has
        cases h
        have e1 := hf _ _ _ _ hc.1 ha
        subst e1
        exact mapS_closed hf x _ _ _ hc.2 has
      · cases h
    · cases h

theorem snap_closed : ∀ (k : Nat) (H : Heap) (v v' : AV) (H' : Heap), v.closed = true → snap k H v = some (v', H') → H' = H
  | 0, _, _, _, _, _, h => by cases h
  | k + 1, H, v, v', H', hc, h => by
    have ih := snap_closed k
    unfold snap at h
    split at h
    · cases hc
    · split at h
      · rename_i cs' H1 hm; cases h; simp only [AV.closed] at hc; exact mapS_closed ih _ _ _ _ hc hm
      · cases h
    · split at h
      · rename_i cs' H1 hm; cases h; simp only [AV.closed] at hc; exact mapS_closed ih _ _ _ _ hc hm
      · cases h
    · split at h
      · rename_i x' H1 hm; cases h; simp only [AV.closed] at hc; exact ih _ _ _ _ hc hm
      · cases h
    · rename_i cs
      cases hcc : closedL cs with
      | false => rw [hcc] at h; cases h
      | true => rw [hcc] at h; cases h; rfl
    · rw [hc] at h; cases h; rfl

theorem acall_quiet (T : Tab) : ∀ n, QF T (acall T n)
  | 0 => fun f args H r H' _ _ h => by cases h
  | n + 1 => fun f args H r H' hp hc h => by
    unfold acall at h
    unfold isPure at hp
    split at hp
    · rename_i p ac rs hf
      subst hp
      rw [hf] at h
      unfold runDef at h
      simp only at h
      split at h
      · rename_i args' H1 hm
        split at h
        · split at h
          · cases h
            exact mapS_closed (snap_closed 12) _ _ _ _ hc hm
          · cases h
        · cases h
      · cases h
    · cases hp

/-! ### functions -/
def PrimOK (P : Program) (T : Tab) (f : FuncId) (p : List AV → Heap → Option (AV × Heap)) : Prop := ∀ (args : List AV) (H : Heap) (r : AV) (H' : Heap), p args H = some (r, H') → ∀ c : Cx, OK T c → c.A = H → ∀ args' : Array Value, VRs c args args'.toList →
  Does P ((callFunc f args').run P c.w) c r H'

structure FnOK (P : Program) (T : Tab) : Prop where
  code : ∀ (f : FuncId) (p : Bool) (ac : ACode) (rs : List ResV), T.fn f = some (.code p ac rs) → ∃ (fn : Func) (lives : List (List Nat)), P.funcs[f]? = some fn ∧ trFn P fn p lives = some (.code p ac rs) ∧
    ∀ (args : Array Value) (w : World), (callFunc f args).run P w = .ok (.enter f args) w
  prim : ∀ (f : FuncId) (p : List AV → Heap → Option (AV × Heap)), T.fn f = some (.prim p) → PrimOK P T f p
  glob : ∀ n cs, T.glob n = some cs → closedL cs = true

theorem argEnv_get : ∀ (x : List AV) (k t : Nat), (argEnv k x).get t = if k ≤ t then (x[t - k]?).getD .unk else .unk
  | [], k, t => by simp [argEnv, Env.get]
  | a :: x, k, t => by
    unfold argEnv
    simp only [Env.get]
    by_cases hk : k = t
    · subst hk; simp
    · have hb : (k == t) = false := by simpa using hk
      rw [hb, cond_false, argEnv_get x (k + 1) t]
      by_cases h1 : k + 1 ≤ t
      · rw [if_pos h1, if_pos (by omega), show t - k = (t - (k + 1)) + 1 by omega]; simp
      · rw [if_neg h1, if_neg (by omega)]

theorem argEnv_ok {c : Cx} {x : List AV} {args : Array Value} (h : VRs c x args.toList) (m : Nat) : EnvR c (argEnv 0 x) (args ++ Array.replicate m undef) := by
  intro t
  rw [argEnv_get]
  simp only [Nat.zero_le, if_true, Nat.sub_zero]
  cases hx : x[t]? with
  | none => exact .unk _
  | some a =>
    obtain ⟨v, h1, h2⟩ := VRs.find h t a hx
    have hlt := (Array.getElem?_eq_some_iff.1 h1).1
    simp only [Option.getD_some, Array.getD_eq_getD_getElem?]
    rw [Array.getElem?_append_left hlt, h1]
    exact h2

/-- A body's run, in the heap as it stands. -/
theorem body_ok {P : Program} {T : Tab} (hT : TabOK P T) {cf : CF} (hcf : CFok P T cf) (hqf : QF T cf) {n : Nat} {f : FuncId} {fn : Func} (hfn : P.funcs[f]? = some fn) {p : Bool} {lives : List (List Nat)} {ac : ACode} {rs : List ResV}
    (htr : trFn P fn p lives = some (.code p ac rs)) {args : List AV} {r : AV} {H' : Heap} {c : Cx} (hc : OK T c) {args' : Array Value} (ha : VRs c args args'.toList) (h : runBody T cf n ac rs args c.A = some (r, H')) :
    Calls P f args' c.w fun e w' => ∃ y c', e = .returned y ∧ w' = c'.w ∧ Ext c c' ∧ OK T c' ∧ c'.A = H' ∧ VR c' r y := by
  unfold trFn at htr
  split at htr
  · rename_i code hbody
    split at htr
    · rename_i a1 rest rs1 hcode hres
      cases htr
      refine calls_of_wp hfn hbody ?_
      unfold runBody at h
      have fin : ∀ (x : AEx) (e1 : Env) (H1 : Heap), (x = .normal ∨ x = .ret) → exec T cf n ac (argEnv 0 args) c.A = some (x, e1, H1) → (mapO (resOf e1 H1) rs).map (fun vs => (results1 vs, H1)) = some (r, H') →
          code.wp P (bodyPost P fn fun e w' => ∃ y c', e = .returned y ∧ w' = c'.w ∧ Ext c c' ∧ OK T c' ∧ c'.A = H' ∧ VR c' r y) { tmps := args' ++ Array.replicate (fn.ntmps - args'.size) undef, defers := [] } c.w := by
        intro x e1 H1 hx he hm
        obtain ⟨vs, hvs, rfl, rfl⟩ := some_pair hm
        refine code_ok hT hcf hqf n code lives ac rest hcode c hc (argEnv 0 args) _ (argEnv_ok ha _) (by simp; omega) x e1 H1 _ he fun a' c' h1 h2 h3 h4 h5 h6 => ?_
        subst h3
        obtain ⟨y, hy1, hy2⟩ := results_ok h2 h4 hres hvs
        rcases hx with rfl | rfl <;> exact ⟨h6, y, hy1, y, c', rfl, rfl, h1, h2, rfl, hy2⟩
      split at h
      · rename_i e1 H1 he; exact fin .normal e1 H1 (.inl rfl) he h
      · rename_i e1 H1 he; exact fin .ret e1 H1 (.inr rfl) he h
      · cases h
    · cases htr
  · cases htr

theorem acall_ok {P : Program} {T : Tab} (hT : TabOK P T) (hF : FnOK P T) : ∀ n, CFok P T (acall T n)
  | 0 => fun f args H r H' h => by cases h
  | n + 1 => fun f args H r H' h c hc hA args' ha => by
    have ih := acall_ok hT hF n
    have hq := acall_quiet T n
    subst hA
    unfold acall at h
    split at h
    · rename_i d hd
      unfold runDef at h
      split at h
      · rename_i p
        exact hF.prim f p hd args c.A r H' h c hc rfl args' ha
      · rename_i ac rs
        obtain ⟨fn, lives, hfn, htr, hcall⟩ := hF.code f _ _ _ hd
        rw [hcall]
        intro a o next Q hk
        rw [Oper.upon_enter]
        refine (body_ok hT ih hq hfn htr hc ha h).mono ?_
        rintro e w' ⟨y, c', rfl, rfl, h1, h2, h3, h4⟩
        exact hk y c' h1 h2.wr h3 h4
      · rename_i ac rs
        obtain ⟨fn, lives, hfn, htr, hcall⟩ := hF.code f _ _ _ hd
        split at h
        · rename_i args1 H1 hm
          split at h
          · rename_i r1 H2 hb
            split at h
            · rename_i r2 H3 hs
              cases h
              obtain ⟨c1, f1, f2, f3, f4⟩ := mapS_ok (snap_ok 12) args c hc.wr _ ha args1 H' hm
              have hc1 := hc.ext f1.ext f1.wr
              -- the callee's own context
              let c2 : Cx := { F := Own c1, blk := fun _ => 0, base := fun _ => 0, A := [], w := c1.w }
              have hp2 : ∀ b, Perm c1 b → Perm c2 b := fun b hb => ⟨hb.1, by
                rintro (h | ⟨i, o, h1, _⟩)
                · exact hb.2 h
                · simp [c2] at h1⟩
              have hc2 : OK T c2 :=
                { wr := { lt := fun i o h => by simp [c2] at h
                          nf := fun i o h => by simp [c2] at h
                          inj := fun i j o p h => by simp [c2] at h
                          cell := fun i o h => by simp [c2] at h
                          soft := fun i o h => by simp [c2] at h }
                  gl := fun n cs hn => (hc1.gl n cs hn).closed (c := c1) (c' := c2) (show c2.w = c1.w from rfl) hp2 (by simp only [AV.closed]; exact hF.glob n cs hn)
                  fr := fun b hb h => by
                    rcases h with h | ⟨i, o, h1, _, h3⟩
                    · exact hc1.fr b hb h
                    · have := hc1.wr.lt i o h1
                      have hb' : c1.w.heap.size ≤ b := hb
                      omega }
              have ha2 : VRs c2 args1 args'.toList := f3.closed (c := c1) (c' := c2) (show c2.w = c1.w from rfl) hp2 f4
              rw [hcall]
              intro a o next Q hk
              rw [Oper.upon_enter]
              have hcalls := body_ok hT ih hq hfn htr hc2 ha2 hb
              have hcw : c2.w = c.w := f1.w
              rw [hcw] at hcalls
              refine hcalls.mono ?_
              rintro e w' ⟨y, c3, rfl, rfl, h1, h2, h3, h4⟩
              rw [← h3] at hs
              obtain ⟨c4, g1, g2, g3, g4⟩ := snap_ok 12 c3 h2.wr r1 y h4 r H3 hs
              -- back in the caller's
              have hold : ∀ b, b < c1.w.heap.size → c3.w.heap[b]? = c1.w.heap[b]? := fun b hb => h1.frame b hb (by rintro ⟨i, o, q1, _⟩; simp [c2] at q1)
              have hE5 : Ext c1 (c1.setW c3.w) :=
                { F := rfl
                  row := fun i o h => ⟨o, h, Nat.le_refl _, fun _ => ⟨rfl, rfl⟩⟩
                  own := fun b h => .inl h
                  size := h1.size
                  frame := fun b hb _ => hold b hb
                  room := fun a ha => h1.room a ha
                  os := h1.os
                  out := h1.out }
              have hW5 : WR (c1.setW c3.w) :=
                { lt := fun i o h => Nat.lt_of_lt_of_le (hc1.wr.lt i o h) h1.size
                  nf := hc1.wr.nf
                  inj := hc1.wr.inj
                  cell := fun i o h k a hk => by
                    obtain ⟨v, q1, q2⟩ := hc1.wr.cell i o h k a hk
                    exact ⟨v, by rw [← q1]; exact cell_of_heap (hold _ (hc1.wr.lt i o h)), q2.ext hE5⟩
                  soft := fun i o h hl k hk => by
                    have hb := hold _ (hc1.wr.lt i o h)
                    have hk' : (c1.w.cell? ⟨c1.blk i, k, none⟩).isSome = true := by rw [← hk]; congr 1; exact (cell_of_heap hb).symm
                    rw [← hc1.wr.soft i o h hl k hk']; exact frozen_of_heap hb }
              have hp5 : ∀ b, Perm c4 b → Perm (c1.setW c3.w) b := fun b hb => by
                refine ⟨by have := hb.1; rw [g1.w] at this; exact this, fun ho => hb.2 (.inl ?_)⟩
                rw [g1.ext.F, h1.F]
                exact ho
              exact hk y (c1.setW c3.w) (f1.ext.trans hE5) hW5 f2 (g3.closed (c' := c1.setW c3.w) (by rw [g1.w]; rfl) hp5 g4)
            · cases h
          · cases h
        · cases h
    · cases h

theorem C_ok {P : Program} {T : Tab} (hT : TabOK P T) (hF : FnOK P T) : CFok P T (C T) := fun f args H r H' h c hc hA args' ha => by
  obtain ⟨n, hn⟩ := C_some.1 h
  exact acall_ok hT hF n f args H r H' hn c hc hA args' ha
end Go.Eng
