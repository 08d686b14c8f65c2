/- The equations of the abstract interpreter in a form that leaves a tree of cases. No condition. -/
import Derived.Test.YtfpknphncaopkaaDoorEn27
import Derived.Laws.BitsLemmas
namespace Go.Eng
open Go

abbrev XR := Option (AEx × Env × Heap)
def seqK (r : XR) (k : Env → Heap → XR) : XR := match r with
  | some (.normal, e, H) => k e H
  | r => r
@[simp] theorem seqK_n {e H k} : seqK (some (.normal, e, H)) k = k e H := rfl
@[simp] theorem seqK_x {j e H k} : seqK (some (.exit j, e, H)) k = some (.exit j, e, H) := rfl
@[simp] theorem seqK_r {e H k} : seqK (some (.ret, e, H)) k = some (.ret, e, H) := rfl
@[simp] theorem seqK_0 {k} : seqK none k = none := rfl
@[simp] theorem seqK_i {c : Prop} [Decidable c] {a b : XR} {k} : seqK (if c then a else b) k = if c then seqK a k else seqK b k := by split <;> rfl
theorem S_seq {T a b e H} : X T (.seq a b) e H = seqK (X T a e H) (X T b) := X_seq

def blkK (id : Nat) (live : List Nat) (r : XR) : XR := match r with
  | some (.normal, e', H') => some (.normal, Env.keep live e', H')
  | some (.exit j, e', H') => if j = id then some (.normal, Env.keep live e', H') else some (.exit j, e', H')
  | r => r
@[simp] theorem blkK_n {id live e H} : blkK id live (some (.normal, e, H)) = some (.normal, Env.keep live e, H) := rfl
@[simp] theorem blkK_x {id live j e H} : blkK id live (some (.exit j, e, H)) = if j = id then some (.normal, Env.keep live e, H) else some (.exit j, e, H) := rfl
@[simp] theorem blkK_r {id live e H} : blkK id live (some (.ret, e, H)) = some (.ret, e, H) := rfl
@[simp] theorem blkK_0 {id live} : blkK id live none = none := rfl
@[simp] theorem blkK_i {id live} {c : Prop} [Decidable c] {a b : XR} : blkK id live (if c then a else b) = if c then blkK id live a else blkK id live b := by split <;> rfl
theorem S_block {T id live a e H} : X T (.block id live a) e H = blkK id live (X T a e H) := by
  rw [X_block]
  generalize X T a e H = r
  rcases r with _ | ⟨k, e', H'⟩
  · rfl
  · cases k with
    | normal => rfl
    | exit j =>
      show (bif j == id then _ else _) = if j = id then _ else _
      by_cases h : j = id
      · rw [if_pos h, beq_iff_eq.2 h]; rfl
      · rw [if_neg h, beq_eq_false_iff_ne.2 h]; rfl
    | ret => rfl

/-- A round's answer: on with the loop, or out. -/
def lopK (r : XR) (k : Env → Heap → XR) : XR := seqK r k
theorem S_loop {T live a e H} : X T (.loop live a) e H = seqK (X T a (Env.keep live e) H) (X T (.loop live a)) := X_loop

theorem S_if {T c a b e H} : X T (.cond c a b) e H = match ev T e c with
    | .bool t => if t = true then X T a e H else X T b e H
    | _ => none := by
  rw [X_if]
  cases ev T e c with
  | bool t => cases t <;> rfl
  | _ => rfl

def opsK (r : Option (Env × Heap)) : XR := match r with
  | some (e, H) => some (.normal, e, H)
  | none => none
@[simp] theorem opsK_s {e H} : opsK (some (e, H)) = some (.normal, e, H) := rfl
@[simp] theorem opsK_0 : opsK none = none := rfl
@[simp] theorem opsK_i {c : Prop} [Decidable c] {a b} : opsK (if c then a else b) = if c then opsK a else opsK b := by split <;> rfl
theorem S_region {T ops e H} : X T (.region ops) e H = opsK (runOps T (C T) ops e H) := by
  rw [X_region]; unfold opsK; rfl
def drwK (H : Heap) (r : Option Env) : XR := match r with
  | some e => some (.normal, e, H)
  | none => none
@[simp] theorem drwK_s {e H} : drwK H (some e) = some (.normal, e, H) := rfl
@[simp] theorem drwK_0 {H} : drwK H none = none := rfl
@[simp] theorem drwK_i {H} {c : Prop} [Decidable c] {a b} : drwK H (if c then a else b) = if c then drwK H a else drwK H b := by split <;> rfl
/-- A drawn region, its heap ahead of its environment. -/
def rD (T : Tab) (cf : CF) (ops : List AOper) (H : Heap) (e : Env) : Option Env := runDraw T cf ops e H
theorem S_draw {T ops e H} : X T (.draw ops) e H = drwK H (rD T (C T) ops H e) := by
  rw [X_draw]; unfold drwK rD; rfl

/-- One operation's answer goes on. -/
def opK (d : Option Nat) (e : Env) (r : Option (AV × Heap)) (k : Env → Heap → Option (Env × Heap)) : Option (Env × Heap) := match r with
  | some (v, H') => k (putA e d v) H'
  | none => none
@[simp] theorem opK_s {d e v H k} : opK d e (some (v, H)) k = k (putA e d v) H := rfl
@[simp] theorem opK_0 {d e k} : opK d e none k = none := rfl
@[simp] theorem opK_i {d e k} {c : Prop} [Decidable c] {a b} : opK d e (if c then a else b) k = if c then opK d e a k else opK d e b k := by split <;> rfl
theorem S_ops_nil {T cf e H} : runOps T cf [] e H = some (e, H) := rfl
theorem S_ops_u {T cf d o r e H} : runOps T cf (⟨d, o, none⟩ :: r) e H = opK d e (aop T cf o e H) (runOps T cf r) := rfl
theorem S_ops_g {T cf d o t b r e H} : runOps T cf (⟨d, o, some (some t, b)⟩ :: r) e H = match e.get t with
    | .bool c => if c = b then opK d e (aop T cf o e H) (runOps T cf r) else runOps T cf r (putA e d .und) H
    | .cst (.tuple _) => runOps T cf r (putA e d .und) H
    | _ => none := by
  rw [runOps]
  unfold wantedA
  dsimp only
  cases e.get t with
  | bool c => cases c <;> cases b <;> rfl
  | cst v => cases v <;> rfl
  | _ => rfl

def dopK (d : Option Nat) (e : Env) (r : Option (AV × Heap)) (k : Env → Option Env) : Option Env := match r with
  | some (v, _) => k (putA e d v)
  | none => none
@[simp] theorem dopK_s {d e v H k} : dopK d e (some (v, H)) k = k (putA e d v) := rfl
@[simp] theorem dopK_0 {d e k} : dopK d e none k = none := rfl
@[simp] theorem dopK_i {d e k} {c : Prop} [Decidable c] {a b} : dopK d e (if c then a else b) k = if c then dopK d e a k else dopK d e b k := by split <;> rfl
theorem S_drw_nil {T cf e H} : rD T cf [] H e = some e := rfl
theorem S_drw_u {T cf d o r e H} : rD T cf (⟨d, o, none⟩ :: r) H e = if quietOp T e o = true then dopK d e (aop T cf o e H) (rD T cf r H) else none := by
  rw [rD, runDraw]
  unfold wantedA
  cases quietOp T e o <;> rfl
theorem S_drw_g {T cf d o t b r e H} : rD T cf (⟨d, o, some (some t, b)⟩ :: r) H e = match e.get t with
    | .bool c => if c = b then (if quietOp T e o = true then dopK d e (aop T cf o e H) (rD T cf r H) else none) else rD T cf r H (putA e d .und)
    | .cst (.tuple _) => rD T cf r H (putA e d .und)
    | _ => none := by
  rw [rD, runDraw]
  unfold wantedA
  dsimp only
  cases e.get t with
  | bool c => cases c <;> cases b <;> cases quietOp T e o <;> rfl
  | cst v => cases v <;> rfl
  | _ => rfl

/-- The end of a body. -/
def finK (res : List ResV) (r : XR) : Option (AV × Heap) := match r with
  | some (.normal, e, H') => (mapO (resOf e H') res).map fun vs => (results1 vs, H')
  | some (.ret, e, H') => (mapO (resOf e H') res).map fun vs => (results1 vs, H')
  | _ => none
@[simp] theorem finK_n {res e H} : finK res (some (.normal, e, H)) = (mapO (resOf e H) res).map fun vs => (results1 vs, H) := rfl
@[simp] theorem finK_r {res e H} : finK res (some (.ret, e, H)) = (mapO (resOf e H) res).map fun vs => (results1 vs, H) := rfl
@[simp] theorem finK_0 {res} : finK res none = none := rfl
@[simp] theorem finK_i {res} {c : Prop} [Decidable c] {a b} : finK res (if c then a else b) = if c then finK res a else finK res b := by split <;> rfl
theorem S_body {T c res args H} : B T c res args H = finK res (X T c (argEnv 0 args) H) := B_eq

/-- The answer of a pure function out of its body's. -/
def purK (H' : Heap) (r : Option (AV × Heap)) : Option (AV × Heap) := match r with
  | some (r, H2) => match snap 12 H2 r with
    | some (r', _) => some (r', H')
    | none => none
  | none => none
@[simp] theorem purK_s {H' r H2} : purK H' (some (r, H2)) = (snap 12 H2 r).map fun p => (p.1, H') := by
  show (match snap 12 H2 r with
    | some (r', _) => some (r', H')
    | none => none) = _
  cases snap 12 H2 r <;> rfl
@[simp] theorem purK_0 {H'} : purK H' none = none := rfl
@[simp] theorem purK_i {H'} {c : Prop} [Decidable c] {a b} : purK H' (if c then a else b) = if c then purK H' a else purK H' b := by split <;> rfl
def FDef.body : FDef → ACode
  | .code _ c _ => c
  | _ => .fail
def FDef.res : FDef → List ResV
  | .code _ _ r => r
  | _ => []
def FDef.pure : FDef → Bool
  | .code p _ _ => p
  | _ => false
theorem S_pure {T : Tab} {f : FuncId} {d : FDef} (h : T.fn f = some d) (hp : d.pure = true) {args args' : List AV} {H H' : Heap} (hs : mapS (snap 12) H args = some (args', H')) : C T f args H = purK H' (B T d.body d.res args' []) := by
  cases d with
  | prim p => cases hp
  | code p c res =>
    obtain rfl : p = true := hp
    rw [C_pure h, hs]
    simp only [FDef.body, FDef.res]
    unfold purK
    cases B T c res args' [] with
    | none => rfl
    | some q => rfl
theorem S_code {T : Tab} {f : FuncId} {d : FDef} (h : T.fn f = some d) (hp : d.pure = false) (hc : d.body = d.body) {args : List AV} {H : Heap} (hn : ∀ p, d ≠ .prim p) : C T f args H = B T d.body d.res args H := by
  cases d with
  | prim p => exact absurd rfl (hn p)
  | code p c res =>
    obtain rfl : p = false := hp
    rw [C_code h]
    rfl
theorem isPure_of {T : Tab} {f : FuncId} {d : FDef} (h : T.fn f = some d) (hp : d.pure = true) : isPure T f = true := by
  cases d with
  | prim p => cases hp
  | code p c res => unfold isPure; rw [h]; exact hp

attribute [simp] S_seq S_block S_if S_region S_draw S_ops_nil S_ops_u S_ops_g S_drw_nil S_drw_u S_drw_g S_body X_exit X_ret X_skip X_scope
attribute [simp] quietOp aop ev evO Env.get putA intBin strBin aun Env.keep argEnv mapO resOf results1 mapS_nil mapS_cons snap_bool snap_int snap_str snap_cst snap_tup snap_agg snap_iface applyF fillP reps splice AV.cells AV.isCell viewOf aslice bndO bndR partA hnew closedL AV.closed FDef.body FDef.res
end Go.Eng
namespace Go.Eng
open Go
def snpK (r : Option (List AV × Heap)) (k : List AV → Heap → Option (AV × Heap)) : Option (AV × Heap) := match r with
  | some (a, H) => k a H
  | none => none
@[simp] theorem snpK_s {a H k} : snpK (some (a, H)) k = k a H := rfl
theorem Q_pure {T : Tab} {f : FuncId} {d : FDef} (h : T.fn f = some d) (hp : d.pure = true) (args : List AV) (H : Heap) : C T f args H = snpK (mapS (snap 12) H args) fun args' H' => purK H' (B T d.body d.res args' []) := by
  cases hs : mapS (snap 12) H args with
  | none =>
    cases d with
    | prim p => cases hp
    | code p c res =>
      obtain rfl : p = true := hp
      rw [C_pure h, hs]; rfl
  | some p => obtain ⟨a, H'⟩ := p; exact S_pure h hp hs
theorem Q_code {T : Tab} {f : FuncId} {c res} (h : T.fn f = some (.code false c res)) (args : List AV) (H : Heap) : C T f args H = B T c res args H := C_code h args H
end Go.Eng
namespace Go.Eng
open Go
/-- A loop from an environment of its live variables. -/
noncomputable def XL (T : Tab) (live : List Nat) (a : ACode) (e : Env) (H : Heap) : XR := X T (.loop live a) e H
theorem keep_get {t : Nat} : ∀ {live : List Nat} {e : Env}, t ∈ live → (Env.keep live e).get t = e.get t
  | [], _, h => by cases h
  | a :: r, e, h => by
    show (bif a == t then e.get a else Env.get (Env.keep r e) t) = _
    by_cases hc : a = t
    · rw [beq_iff_eq.2 hc, hc]; rfl
    · rw [beq_eq_false_iff_ne.2 hc]
      rcases List.mem_cons.1 h with rfl | h
      · exact absurd rfl hc
      · exact keep_get h
theorem keep_keep (live : List Nat) (e : Env) : Env.keep live (Env.keep live e) = Env.keep live e := by
  unfold Env.keep
  apply List.map_congr_left
  intro t ht
  have := keep_get (e := e) ht
  unfold Env.keep at this
  rw [this]
theorem S_loopx {T live a e H} : X T (.loop live a) e H = XL T live a (Env.keep live e) H := by
  unfold XL
  rw [X_loop, X_loop (e := Env.keep live e), keep_keep]
theorem XL_eq {T live a e H} : XL T live a e H = seqK (X T a (Env.keep live e) H) (fun e' H' => XL T live a (Env.keep live e') H') := by
  conv => lhs; unfold XL; rw [S_loop]
  congr 1
  funext e' H'
  exact S_loopx
attribute [simp] S_loopx
theorem wr64 {x : Int} (h1 : -9223372036854775808 ≤ x) (h2 : x < 9223372036854775808) : IntKind.i64.wrap x = x := by rw [IntKind.wrap_i64]; omega
theorem wr8 {x : Int} (h1 : 0 ≤ x) (h2 : x < 256) : IntKind.u8.wrap x = x := by rw [IntKind.wrap_u8]; omega
end Go.Eng
namespace Go.Eng
open Go
@[simp] theorem getq0 {α : Type} {a : α} {z : List α} : (a :: z)[0]? = some a := rfl
@[simp] theorem getq1 {α : Type} {a b : α} {z : List α} : (a :: b :: z)[1]? = some b := rfl
@[simp] theorem getq2 {α : Type} {a b c : α} {z : List α} : (a :: b :: c :: z)[2]? = some c := rfl
@[simp] theorem getq3 {α : Type} {a b c d : α} {z : List α} : (a :: b :: c :: d :: z)[3]? = some d := rfl
@[simp] theorem getq4 {α : Type} {a b c d e : α} {z : List α} : (a :: b :: c :: d :: e :: z)[4]? = some e := rfl
@[simp] theorem getq5 {α : Type} {a b c d e f : α} {z : List α} : (a :: b :: c :: d :: e :: f :: z)[5]? = some f := rfl
@[simp] theorem getq6 {α : Type} {a b c d e f g : α} {z : List α} : (a :: b :: c :: d :: e :: f :: g :: z)[6]? = some g := rfl
@[simp] theorem getq7 {α : Type} {a b c d e f g h : α} {z : List α} : (a :: b :: c :: d :: e :: f :: g :: h :: z)[7]? = some h := rfl
@[simp] theorem getq8 {α : Type} {a b c d e f g h i : α} {z : List α} : (a :: b :: c :: d :: e :: f :: g :: h :: i :: z)[8]? = some i := rfl
@[simp] theorem getq9 {α : Type} {a b c d e f g h i j : α} {z : List α} : (a :: b :: c :: d :: e :: f :: g :: h :: i :: j :: z)[9]? = some j := rfl
end Go.Eng
namespace Go.Eng
open Go
@[simp] theorem ix_i {m : Nat} {k : IntKind} {i : Int} (h0 : 0 ≤ i) (h : i < (m : Int)) : ix m (.int k i) = some i.toNat := by simp [ix, h0, h]
@[simp] theorem bnd_i {m : Nat} {k : IntKind} {i : Int} (h0 : 0 ≤ i) (h : i ≤ (m : Int)) : bnd m (.int k i) = some i.toNat := by simp [bnd, h0, h]
@[simp] theorem tn_add {n k : Nat} : ((n : Int) + (k : Int)).toNat = n + k := by omega
@[simp] theorem tn_1 {n : Nat} : ((n : Int) + 1).toNat = n + 1 := by omega
@[simp] theorem tn_2 {n : Nat} : ((n : Int) + 2).toNat = n + 2 := by omega
@[simp] theorem tn_m1 {n : Nat} : ((n : Int) - 1).toNat = n - 1 := by omega
@[simp] theorem di_lt_t {a b : Int} (h : a < b) : decide (a < b) = true := by simpa using h
@[simp] theorem di_lt_f {a b : Int} (h : ¬ a < b) : decide (a < b) = false := by simpa using h
@[simp] theorem di_le_t {a b : Int} (h : a ≤ b) : decide (a ≤ b) = true := by simpa using h
@[simp] theorem di_le_f {a b : Int} (h : ¬ a ≤ b) : decide (a ≤ b) = false := by simpa using h
@[simp] theorem dn_lt_t {a b : Nat} (h : a < b) : decide (a < b) = true := by simpa using h
@[simp] theorem dn_lt_f {a b : Nat} (h : ¬ a < b) : decide (a < b) = false := by simpa using h
@[simp] theorem dn_le_t {a b : Nat} (h : a ≤ b) : decide (a ≤ b) = true := by simpa using h
@[simp] theorem dn_le_f {a b : Nat} (h : ¬ a ≤ b) : decide (a ≤ b) = false := by simpa using h
@[simp] theorem ii_lt_t {a b : Int} {α : Type} {x y : α} (h : a < b) : (if a < b then x else y) = x := if_pos h
@[simp] theorem ii_lt_f {a b : Int} {α : Type} {x y : α} (h : ¬ a < b) : (if a < b then x else y) = y := if_neg h
@[simp] theorem ii_le_t {a b : Int} {α : Type} {x y : α} (h : a ≤ b) : (if a ≤ b then x else y) = x := if_pos h
@[simp] theorem ii_le_f {a b : Int} {α : Type} {x y : α} (h : ¬ a ≤ b) : (if a ≤ b then x else y) = y := if_neg h
@[simp] theorem ni_lt_t {a b : Nat} {α : Type} {x y : α} (h : a < b) : (if a < b then x else y) = x := if_pos h
@[simp] theorem ni_lt_f {a b : Nat} {α : Type} {x y : α} (h : ¬ a < b) : (if a < b then x else y) = y := if_neg h
@[simp] theorem ni_le_t {a b : Nat} {α : Type} {x y : α} (h : a ≤ b) : (if a ≤ b then x else y) = x := if_pos h
@[simp] theorem ni_le_f {a b : Nat} {α : Type} {x y : α} (h : ¬ a ≤ b) : (if a ≤ b then x else y) = y := if_neg h
@[simp] theorem be_t {a b : Int} (h : a = b) : (a == b) = true := by simpa using h
@[simp] theorem be_f {a b : Int} (h : ¬ a = b) : (a == b) = false := by simpa using h
@[simp] theorem bn_t {a b : Int} (h : ¬ a = b) : (a != b) = true := by simpa using h
@[simp] theorem bn_f {a b : Int} (h : a = b) : (a != b) = false := by simpa using h
attribute [simp] wr64 wr8
end Go.Eng
namespace Go.Eng
open Go
@[simp] theorem aeq_nn {T : Tab} : aeq T 9 .iface true (.cst .nilIface) (.cst .nilIface) = some true := rfl
@[simp] theorem aeq_in {T : Tab} {c : Bool} {t : TypeId} {x : AV} : aeq T 9 .iface c (.iface t x) (.cst .nilIface) = some false := rfl
@[simp] theorem aeq_ni {T : Tab} {c : Bool} {t : TypeId} {x : AV} : aeq T 9 .iface c (.cst .nilIface) (.iface t x) = some false := rfl
@[simp] theorem aeq_bb {T : Tab} {c : Bool} {a b : Bool} : aeq T 9 .bool c (.bool a) (.bool b) = some (a == b) := rfl
end Go.Eng
