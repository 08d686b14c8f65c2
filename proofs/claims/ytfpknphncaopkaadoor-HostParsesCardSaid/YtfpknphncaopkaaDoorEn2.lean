/- The fuel-free limit of the abstract interpreter and its equations. No condition. -/
import Derived.Test.YtfpknphncaopkaaDoorEn1
namespace Go.Eng
open Go

abbrev CF := FuncId → List AV → Heap → Option (AV × Heap)

def Le (a b : CF) : Prop := ∀ f x H r, a f x H = some r → b f x H = some r

theorem invokeM_call (T : Tab) (x : AV) (m : String) (args : List AV) (H : Heap) :
    (∃ f args' H', ∀ cf, invokeM T cf x m args H = cf f args' H') ∨ (∀ cf cf', invokeM T cf x m args H = invokeM T cf' x m args H) := by
  unfold invokeM
  split
  · split
    · exact .inl ⟨_, _, _, fun _ => rfl⟩
    · split
      · exact .inl ⟨_, _, _, fun _ => rfl⟩
      · exact .inr fun _ _ => rfl
    · exact .inr fun _ _ => rfl
  · exact .inr fun _ _ => rfl

theorem applyF_call (T : Tab) (f : AV) (args : List AV) (H : Heap) :
    (∃ f' args' H', ∀ cf, applyF T cf f args H = cf f' args' H') ∨ (∀ cf cf', applyF T cf f args H = applyF T cf' f args H) := by
  unfold applyF
  split
  · exact .inl ⟨_, _, _, fun _ => rfl⟩
  · split
    · exact invokeM_call ..
    · exact .inr fun _ _ => rfl
  · split
    · exact .inl ⟨_, _, _, fun _ => rfl⟩
    · exact .inr fun _ _ => rfl
  · exact .inr fun _ _ => rfl

theorem aop_call (T : Tab) (o : AOp) (e : Env) (H : Heap) :
    (∃ f args H', ∀ cf, aop T cf o e H = cf f args H') ∨ (∀ cf cf', aop T cf o e H = aop T cf' o e H) := by
  cases o with
  | call f args => exact applyF_call ..
  | invoke x m args => exact invokeM_call ..
  | load n x => cases n <;> exact .inr fun _ _ => rfl
  | conv k x => cases k <;> exact .inr fun _ _ => rfl
  | iaddr a s x i => cases a <;> exact .inr fun _ _ => rfl
  | _ => exact .inr fun _ _ => rfl

theorem aop_mono {T : Tab} {a b : CF} (h : Le a b) {o : AOp} {e : Env} {H : Heap} {r : AV × Heap} (hr : aop T a o e H = some r) : aop T b o e H = some r := by
  rcases aop_call T o e H with ⟨f, args, H', hc⟩ | hc
  · rw [hc] at hr ⊢; exact h _ _ _ _ hr
  · rw [hc b a]; exact hr

theorem runOps_mono {T : Tab} {a b : CF} (h : Le a b) : ∀ {ops : List AOper} {e : Env} {H : Heap} {r : Env × Heap}, runOps T a ops e H = some r → runOps T b ops e H = some r
  | [], e, H, r, hr => hr
  | o :: ops, e, H, r, hr => by
    unfold runOps at hr ⊢
    split
    · rename_i hw; rw [hw] at hr; exact hr
    · rename_i hw; rw [hw] at hr; exact runOps_mono h hr
    · rename_i hw; rw [hw] at hr
      simp only at hr
      cases ha : aop T a o.op e H with
      | none => rw [ha] at hr; cases hr
      | some p => rw [ha] at hr; rw [aop_mono h ha]; exact runOps_mono h hr

theorem runDraw_mono {T : Tab} {a b : CF} (h : Le a b) : ∀ {ops : List AOper} {e : Env} {H : Heap} {r : Env}, runDraw T a ops e H = some r → runDraw T b ops e H = some r
  | [], e, H, r, hr => hr
  | o :: ops, e, H, r, hr => by
    unfold runDraw at hr ⊢
    split
    · rename_i hw; rw [hw] at hr; exact hr
    · rename_i hw; rw [hw] at hr; exact runDraw_mono h hr
    · rename_i hw; rw [hw] at hr
      simp only at hr
      cases hq : quietOp T e o.op with
      | false => rw [hq] at hr; cases hr
      | true =>
        rw [hq] at hr
        simp only [cond_true] at hr ⊢
        cases ha : aop T a o.op e H with
        | none => rw [ha] at hr; cases hr
        | some p => rw [ha] at hr; rw [aop_mono h ha]; exact runDraw_mono h hr

theorem iter_mono {f g : Env → Heap → Option (AEx × Env × Heap)} (h : ∀ e H r, f e H = some r → g e H = some r) (live : List Nat) :
    ∀ {n m : Nat} (_ : n ≤ m) {e : Env} {H : Heap} {r}, iter f live n e H = some r → iter g live m e H = some r
  | 0, _, _, _, _, _, hr => by cases hr
  | n + 1, m, hm, e, H, r, hr => by
    obtain ⟨m, rfl⟩ : ∃ k, m = k + 1 := ⟨m - 1, by omega⟩
    unfold iter at hr ⊢
    cases hf : f (Env.keep live e) H with
    | none => rw [hf] at hr; cases hr
    | some p =>
      obtain ⟨x, e', H'⟩ := p
      rw [hf] at hr; rw [h _ _ _ hf]
      cases x with
      | normal => exact iter_mono h live (by omega) hr
      | exit j => exact hr
      | ret => exact hr

theorem exec_mono {T : Tab} {a b : CF} (h : Le a b) {n m : Nat} (hm : n ≤ m) : ∀ (c : ACode) {e : Env} {H : Heap} {r}, exec T a n c e H = some r → exec T b m c e H = some r
  | .skip, _, _, _, hr => hr
  | .exit _, _, _, _, hr => hr
  | .ret, _, _, _, hr => hr
  | .fail, _, _, _, hr => by cases hr
  | .region ops, e, H, r, hr => by
    unfold exec at hr ⊢
    cases ha : runOps T a ops e H with
    | none => rw [ha] at hr; cases hr
    | some p => rw [ha] at hr; rw [runOps_mono h ha]; exact hr
  | .draw ops, e, H, r, hr => by
    unfold exec at hr ⊢
    cases ha : runDraw T a ops e H with
    | none => rw [ha] at hr; cases hr
    | some p => rw [ha] at hr; rw [runDraw_mono h ha]; exact hr
  | .seq x y, e, H, r, hr => by
    unfold exec at hr ⊢
    cases ha : exec T a n x e H with
    | none => rw [ha] at hr; cases hr
    | some p =>
      obtain ⟨k, e', H'⟩ := p
      rw [ha] at hr; rw [exec_mono h hm x ha]
      cases k with
      | normal => exact exec_mono h hm y hr
      | exit j => exact hr
      | ret => exact hr
  | .cond c x y, e, H, r, hr => by
    unfold exec at hr ⊢
    split at hr
    · rename_i t ht
      cases t with
      | true => exact exec_mono h hm x hr
      | false => exact exec_mono h hm y hr
    · cases hr
  | .block id live body, e, H, r, hr => by
    unfold exec at hr ⊢
    cases ha : exec T a n body e H with
    | none => rw [ha] at hr; cases hr
    | some p => rw [ha] at hr; rw [exec_mono h hm body ha]; exact hr
  | .loop live body, e, H, r, hr => by
    unfold exec at hr ⊢
    exact iter_mono (fun _ _ _ hf => exec_mono h hm body hf) live hm hr
  | .scope body, e, H, r, hr => by
    unfold exec at hr ⊢
    exact exec_mono h hm body hr

theorem runBody_mono {T : Tab} {a b : CF} (h : Le a b) {n m : Nat} (hm : n ≤ m) {c : ACode} {res : List ResV} {args : List AV} {H : Heap} {r}
    (hr : runBody T a n c res args H = some r) : runBody T b m c res args H = some r := by
  unfold runBody at hr ⊢
  cases ha : exec T a n c (argEnv 0 args) H with
  | none => rw [ha] at hr; cases hr
  | some p => rw [ha] at hr; rw [exec_mono h hm c ha]; exact hr

theorem runDef_mono {T : Tab} {a b : CF} (h : Le a b) {n m : Nat} (hm : n ≤ m) {d : FDef} {args : List AV} {H : Heap} {r}
    (hr : runDef T a n d args H = some r) : runDef T b m d args H = some r := by
  unfold runDef at hr ⊢
  split
  · exact hr
  · exact runBody_mono h hm hr
  · rename_i c res
    simp only at hr
    cases hs : mapS (snap 12) H args with
    | none => rw [hs] at hr; cases hr
    | some p =>
      rw [hs] at hr
      simp only at hr ⊢
      cases hb : runBody T a n c res p.1 [] with
      | none => rw [hb] at hr; cases hr
      | some q => rw [hb] at hr; rw [runBody_mono h hm hb]; exact hr

theorem acall_succ (T : Tab) : ∀ n, Le (acall T n) (acall T (n + 1))
  | 0 => fun _ _ _ _ h => by cases h
  | n + 1 => fun f x H r h => by
    unfold acall at h ⊢
    cases hd : T.fn f with
    | none => rw [hd] at h; cases h
    | some d => rw [hd] at h; exact runDef_mono (acall_succ T n) (Nat.le_succ n) h

theorem acall_mono (T : Tab) {n m : Nat} (h : n ≤ m) : Le (acall T n) (acall T m) := by
  induction m with
  | zero => obtain rfl : n = 0 := by omega
            exact fun _ _ _ _ h => h
  | succ m ih =>
    by_cases e : n = m + 1
    · subst e; exact fun _ _ _ _ h => h
    · exact fun f x H r hr => acall_succ T m f x H r (ih (by omega) f x H r hr)

/-! ### the limit -/
open Classical in
noncomputable def lim {α : Type} (f : Nat → Option α) : Option α := if h : ∃ n r, f n = some r then f h.choose else none

theorem lim_some {α : Type} {f : Nat → Option α} (hm : ∀ n m, n ≤ m → ∀ r, f n = some r → f m = some r) {r : α} : lim f = some r ↔ ∃ n, f n = some r := by
  unfold lim
  constructor
  · intro h
    split at h
    · rename_i hh; exact ⟨_, h⟩
    · cases h
  · rintro ⟨n, hn⟩
    have hh : ∃ n r, f n = some r := ⟨n, r, hn⟩
    rw [dif_pos hh]
    obtain ⟨r', hr'⟩ := hh.choose_spec
    rw [hr']
    have a := hm n (max n hh.choose) (Nat.le_max_left ..) r hn
    have b := hm hh.choose (max n hh.choose) (Nat.le_max_right ..) r' hr'
    rw [← b]; exact a.trans rfl |>.symm ▸ a

noncomputable def C (T : Tab) : CF := fun f args H => lim fun n => acall T n f args H
noncomputable def X (T : Tab) (c : ACode) (e : Env) (H : Heap) : Option (AEx × Env × Heap) := lim fun n => exec T (acall T n) n c e H

theorem C_some {T : Tab} {f args H r} : C T f args H = some r ↔ ∃ n, acall T n f args H = some r :=
  lim_some fun _ _ h r hr => acall_mono T h f args H r hr
theorem X_some {T : Tab} {c e H r} : X T c e H = some r ↔ ∃ n, exec T (acall T n) n c e H = some r :=
  lim_some fun _ _ h _ hr => exec_mono (acall_mono T h) h c hr

theorem C_of {T : Tab} {f args H r} (n : Nat) (h : acall T n f args H = some r) : C T f args H = some r := C_some.2 ⟨n, h⟩
theorem acall_le (T : Tab) (n : Nat) : Le (acall T n) (C T) := fun _ _ _ _ h => C_of n h

theorem ext_some {α : Type} {a b : Option α} (h : ∀ r, a = some r ↔ b = some r) : a = b := by
  cases a with
  | none => cases b with
    | none => rfl
    | some r => exact absurd ((h r).2 rfl) (by simp)
  | some r => exact ((h r).1 rfl).symm

theorem runOps_fin {T : Tab} : ∀ {ops : List AOper} {e : Env} {H : Heap} {r}, runOps T (C T) ops e H = some r → ∃ n, runOps T (acall T n) ops e H = some r
  | [], e, H, r, h => ⟨0, h⟩
  | o :: ops, e, H, r, h => by
    unfold runOps at h
    split at h
    · cases h
    · rename_i hw
      obtain ⟨n, hn⟩ := runOps_fin h
      exact ⟨n, by unfold runOps; rw [hw]; exact hn⟩
    · rename_i hw
      split at h
      · rename_i v H' ha
        obtain ⟨n, hn⟩ := runOps_fin h
        obtain ⟨k, hk⟩ : ∃ k, aop T (acall T k) o.op e H = some (v, H') := by
          rcases aop_call T o.op e H with ⟨f, args, H1, hc⟩ | hc
          · rw [hc] at ha
            obtain ⟨k, hk⟩ := C_some.1 ha
            exact ⟨k, by rw [hc]; exact hk⟩
          · exact ⟨0, by rw [hc _ (C T)]; exact ha⟩
        refine ⟨max n k, ?_⟩
        unfold runOps
        rw [hw]
        simp only
        rw [aop_mono (acall_mono T (Nat.le_max_right n k)) hk]
        exact runOps_mono (acall_mono T (Nat.le_max_left n k)) hn
      · cases h

theorem runDraw_fin {T : Tab} : ∀ {ops : List AOper} {e : Env} {H : Heap} {r}, runDraw T (C T) ops e H = some r → ∃ n, runDraw T (acall T n) ops e H = some r
  | [], e, H, r, h => ⟨0, h⟩
  | o :: ops, e, H, r, h => by
    unfold runDraw at h
    split at h
    · cases h
    · rename_i hw
      obtain ⟨n, hn⟩ := runDraw_fin h
      exact ⟨n, by unfold runDraw; rw [hw]; exact hn⟩
    · rename_i hw
      cases hq : quietOp T e o.op with
      | false => rw [hq] at h; cases h
      | true =>
      rw [hq] at h
      simp only [cond_true] at h
      split at h
      · rename_i v H' ha
        obtain ⟨n, hn⟩ := runDraw_fin h
        obtain ⟨k, hk⟩ : ∃ k, aop T (acall T k) o.op e H = some (v, H') := by
          rcases aop_call T o.op e H with ⟨f, args, H1, hc⟩ | hc
          · rw [hc] at ha
            obtain ⟨k, hk⟩ := C_some.1 ha
            exact ⟨k, by rw [hc]; exact hk⟩
          · exact ⟨0, by rw [hc _ (C T)]; exact ha⟩
        refine ⟨max n k, ?_⟩
        unfold runDraw
        rw [hw]
        simp only [hq, cond_true]
        rw [aop_mono (acall_mono T (Nat.le_max_right n k)) hk]
        exact runDraw_mono (acall_mono T (Nat.le_max_left n k)) hn
      · cases h

theorem X_skip {T e H} : X T .skip e H = some (.normal, e, H) := X_some.2 ⟨0, rfl⟩
theorem X_exit {T id e H} : X T (.exit id) e H = some (.exit id, e, H) := X_some.2 ⟨0, rfl⟩
theorem X_ret {T e H} : X T .ret e H = some (.ret, e, H) := X_some.2 ⟨0, rfl⟩
theorem X_region {T ops e H} : X T (.region ops) e H = match runOps T (C T) ops e H with
    | some (e', H') => some (.normal, e', H')
    | none => none := by
  apply ext_some; intro r
  rw [X_some]
  constructor
  · rintro ⟨n, hn⟩
    unfold exec at hn
    split at hn
    · rename_i ha; rw [runOps_mono (acall_le T n) ha]; exact hn
    · cases hn
  · intro h
    split at h
    · rename_i ha
      obtain ⟨n, hn⟩ := runOps_fin ha
      exact ⟨n, by unfold exec; rw [hn]; exact h⟩
    · cases h
theorem X_draw {T ops e H} : X T (.draw ops) e H = match runDraw T (C T) ops e H with
    | some e' => some (.normal, e', H)
    | none => none := by
  apply ext_some; intro r
  rw [X_some]
  constructor
  · rintro ⟨n, hn⟩
    unfold exec at hn
    split at hn
    · rename_i ha; rw [runDraw_mono (acall_le T n) ha]; exact hn
    · cases hn
  · intro h
    split at h
    · rename_i ha
      obtain ⟨n, hn⟩ := runDraw_fin ha
      exact ⟨n, by unfold exec; rw [hn]; exact h⟩
    · cases h
theorem X_up {T c e H n r} (h : exec T (acall T n) n c e H = some r) : X T c e H = some r := X_some.2 ⟨n, h⟩
theorem exec_up {T c e H n m r} (hm : n ≤ m) (h : exec T (acall T n) n c e H = some r) : exec T (acall T m) m c e H = some r := exec_mono (acall_mono T hm) hm c h
theorem X_seq {T a b e H} : X T (.seq a b) e H = match X T a e H with
    | some (.normal, e', H') => X T b e' H'
    | r => r := by
  apply ext_some; intro r
  rw [X_some]
  constructor
  · rintro ⟨n, hn⟩
    unfold exec at hn
    cases ha : exec T (acall T n) n a e H with
    | none => rw [ha] at hn; cases hn
    | some p =>
      obtain ⟨k, e', H'⟩ := p
      rw [ha] at hn; rw [X_up ha]
      cases k with
      | normal => exact X_up hn
      | exit j => exact hn
      | ret => exact hn
  · intro h
    cases ha : X T a e H with
    | none => rw [ha] at h; cases h
    | some p =>
      obtain ⟨k, e', H'⟩ := p
      rw [ha] at h
      obtain ⟨n, hn⟩ := X_some.1 ha
      cases k with
      | normal =>
        obtain ⟨m, hm⟩ := X_some.1 h
        refine ⟨max n m, ?_⟩
        unfold exec
        rw [exec_up (Nat.le_max_left n m) hn]
        exact exec_up (Nat.le_max_right n m) hm
      | exit j => exact ⟨n, by unfold exec; rw [hn]; exact h⟩
      | ret => exact ⟨n, by unfold exec; rw [hn]; exact h⟩
theorem X_cond {T c a b e H t} (h : ev T e c = .bool t) : X T (.cond c a b) e H = bif t then X T a e H else X T b e H := by
  apply ext_some; intro r
  rw [X_some]
  cases t with
  | true =>
    simp only [cond_true]
    rw [X_some]
    constructor
    · rintro ⟨n, hn⟩; unfold exec at hn; rw [h] at hn; exact ⟨n, hn⟩
    · rintro ⟨n, hn⟩; exact ⟨n, by unfold exec; rw [h]; exact hn⟩
  | false =>
    simp only [cond_false]
    rw [X_some]
    constructor
    · rintro ⟨n, hn⟩; unfold exec at hn; rw [h] at hn; exact ⟨n, hn⟩
    · rintro ⟨n, hn⟩; exact ⟨n, by unfold exec; rw [h]; exact hn⟩
theorem X_block {T id live a e H} : X T (.block id live a) e H = match X T a e H with
    | some (.normal, e', H') => some (.normal, Env.keep live e', H')
    | some (.exit j, e', H') => bif j == id then some (.normal, Env.keep live e', H') else some (.exit j, e', H')
    | r => r := by
  apply ext_some; intro r
  rw [X_some]
  constructor
  · rintro ⟨n, hn⟩
    unfold exec at hn
    cases ha : exec T (acall T n) n a e H with
    | none => rw [ha] at hn; cases hn
    | some p => rw [ha] at hn; rw [X_up ha]; exact hn
  · intro h
    cases ha : X T a e H with
    | none => rw [ha] at h; cases h
    | some p =>
      rw [ha] at h
      obtain ⟨n, hn⟩ := X_some.1 ha
      exact ⟨n, by unfold exec; rw [hn]; exact h⟩
theorem X_scope {T a e H} : X T (.scope a) e H = X T a e H := by
  apply ext_some; intro r
  rw [X_some, X_some]
  constructor
  · rintro ⟨n, hn⟩; unfold exec at hn; exact ⟨n, hn⟩
  · rintro ⟨n, hn⟩; exact ⟨n, by unfold exec; exact hn⟩
theorem X_loop {T live a e H} : X T (.loop live a) e H = match X T a (Env.keep live e) H with
    | some (.normal, e', H') => X T (.loop live a) e' H'
    | r => r := by
  apply ext_some; intro r
  rw [X_some]
  constructor
  · rintro ⟨n, hn⟩
    unfold exec at hn
    cases n with
    | zero => cases hn
    | succ n =>
      unfold iter at hn
      cases ha : exec T (acall T (n + 1)) (n + 1) a (Env.keep live e) H with
      | none => rw [ha] at hn; cases hn
      | some p =>
        obtain ⟨k, e', H'⟩ := p
        rw [ha] at hn; rw [X_up ha]
        cases k with
        | normal =>
          simp only at hn ⊢
          exact X_some.2 ⟨n + 1, by unfold exec; exact iter_mono (fun _ _ _ h => h) live (Nat.le_succ n) hn⟩
        | exit j => exact hn
        | ret => exact hn
  · intro h
    cases ha : X T a (Env.keep live e) H with
    | none => rw [ha] at h; cases h
    | some p =>
      obtain ⟨k, e', H'⟩ := p
      rw [ha] at h
      obtain ⟨n, hn⟩ := X_some.1 ha
      cases k with
      | normal =>
        obtain ⟨m, hm⟩ := X_some.1 h
        unfold exec at hm
        refine ⟨max n m + 1, ?_⟩
        unfold exec iter
        rw [exec_up (m := max n m + 1) (by omega) hn]
        exact iter_mono (fun _ _ _ h => exec_mono (acall_mono T (by omega)) (by omega) a h) live (Nat.le_max_right n m) hm
      | exit j => exact ⟨n + 1, by unfold exec iter; rw [exec_up (Nat.le_succ n) hn]; exact h⟩
      | ret => exact ⟨n + 1, by unfold exec iter; rw [exec_up (Nat.le_succ n) hn]; exact h⟩

/-- A body's answer. -/
noncomputable def B (T : Tab) (c : ACode) (res : List ResV) (args : List AV) (H : Heap) : Option (AV × Heap) :=
  match X T c (argEnv 0 args) H with
  | some (.normal, e, H') => (mapO (resOf e H') res).map fun vs => (results1 vs, H')
  | some (.ret, e, H') => (mapO (resOf e H') res).map fun vs => (results1 vs, H')
  | _ => none

theorem B_some {T c res args H r} : B T c res args H = some r ↔ ∃ n, runBody T (acall T n) n c res args H = some r := by
  constructor
  · intro h
    unfold B at h
    cases ha : X T c (argEnv 0 args) H with
    | none => rw [ha] at h; cases h
    | some p =>
      rw [ha] at h
      obtain ⟨n, hn⟩ := X_some.1 ha
      exact ⟨n, by unfold runBody; rw [hn]; exact h⟩
  · rintro ⟨n, hn⟩
    unfold runBody at hn
    unfold B
    cases ha : exec T (acall T n) n c (argEnv 0 args) H with
    | none => rw [ha] at hn; cases hn
    | some p => rw [ha] at hn; rw [X_up ha]; exact hn

theorem C_code {T f c res} (h : T.fn f = some (.code false c res)) (args : List AV) (H : Heap) : C T f args H = B T c res args H := by
  apply ext_some; intro r
  rw [C_some, B_some]
  constructor
  · rintro ⟨n, hn⟩
    cases n with
    | zero => cases hn
    | succ n => unfold acall at hn; rw [h] at hn; exact ⟨n, hn⟩
  · rintro ⟨n, hn⟩; exact ⟨n + 1, by unfold acall; rw [h]; exact hn⟩

theorem C_pure {T f c res} (h : T.fn f = some (.code true c res)) (args : List AV) (H : Heap) : C T f args H = match mapS (snap 12) H args with
    | some (args', H') => match B T c res args' [] with
      | some (r, H2) => match snap 12 H2 r with
        | some (r', _) => some (r', H')
        | none => none
      | none => none
    | none => none := by
  apply ext_some; intro r
  rw [C_some]
  constructor
  · rintro ⟨n, hn⟩
    cases n with
    | zero => cases hn
    | succ n =>
      unfold acall at hn; rw [h] at hn
      unfold runDef at hn
      cases hs : mapS (snap 12) H args with
      | none => rw [hs] at hn; cases hn
      | some p =>
        rw [hs] at hn
        simp only at hn ⊢
        cases hb : runBody T (acall T n) n c res p.1 [] with
        | none => rw [hb] at hn; cases hn
        | some q => rw [hb] at hn; rw [B_some.2 ⟨n, hb⟩]; exact hn
  · intro hh
    cases hs : mapS (snap 12) H args with
    | none => rw [hs] at hh; cases hh
    | some p =>
      rw [hs] at hh
      simp only at hh
      cases hb : B T c res p.1 [] with
      | none => rw [hb] at hh; cases hh
      | some q =>
        rw [hb] at hh
        obtain ⟨n, hn⟩ := B_some.1 hb
        exact ⟨n + 1, by unfold acall; rw [h]; unfold runDef; rw [hs]; simp only; rw [hn]; exact hh⟩

theorem C_prim {T f p} (h : T.fn f = some (.prim p)) (args : List AV) (H : Heap) : C T f args H = p args H := by
  apply ext_some; intro r
  rw [C_some]
  constructor
  · rintro ⟨n, hn⟩
    cases n with
    | zero => cases hn
    | succ n => unfold acall at hn; rw [h] at hn; exact hn
  · intro hh; exact ⟨1, by unfold acall; rw [h]; exact hh⟩
end Go.Eng
