/- More equations of the abstract interpreter, and loops. The equations of the abstract interpreter in a form that leaves a tree of cases. A pure function's equation at closed arguments holds in every heap. What is read as data has an abstract form: shapes by type. A law's call out of its abstract answer: for whatever is read. Bytes in strings, found and counted by the library's entries; an address that does not escape. No condition. -/
import Derived.Test.YtgjgcjhmaibblaaGreatDoorEa
import Derived.Laws.BitsLemmas
import Derived.Test.YtgjgcjhmaibblaaGreatDoorEf
import Derived.ChangeBears
import Derived.Deep.Slices
import Derived.WideKeyArgs
import Derived.ChangeOld
import Derived.Below
import Derived.RowKit
import Derived.Lib.Bytealg
import GoSem.Extern.AbiNoEscape
import Derived.Lib.MakeNoZero
namespace Go.Eng
open Go

theorem X_if {T c a b e H} : X T (.cond c a b) e H = match ev T e c with
    | .bool t => bif t then X T a e H else X T b e H
    | _ => none := by
  cases h : ev T e c with
  | bool t => exact X_cond h
  | _ =>
    apply ext_some; intro r
    rw [X_some]
    constructor
    · rintro ⟨n, hn⟩; unfold exec at hn; rw [h] at hn; cases hn
    · intro hn; cases hn

/-- A body's answer out of its code's. -/
theorem B_eq {T c res args H} : B T c res args H = match X T c (argEnv 0 args) H with
    | some (.normal, e, H') => (mapO (resOf e H') res).map fun vs => (results1 vs, H')
    | some (.ret, e, H') => (mapO (resOf e H') res).map fun vs => (results1 vs, H')
    | _ => none := by
  apply ext_some; intro r
  rw [B_some]
  constructor
  · rintro ⟨n, hn⟩
    unfold runBody at hn
    cases he : exec T (acall T n) n c (argEnv 0 args) H with
    | none => rw [he] at hn; cases hn
    | some p => rw [he] at hn; rw [X_up he]; exact hn
  · intro h
    cases hx : X T c (argEnv 0 args) H with
    | none => rw [hx] at h; cases h
    | some p =>
      rw [hx] at h
      obtain ⟨n, hn⟩ := X_some.1 hx
      refine ⟨n, ?_⟩
      unfold runBody
      rw [hn]
      exact h

/-! ### snapshots of plain values -/
theorem snap_bool (k : Nat) (H : Heap) (b : Bool) : snap (k + 1) H (.bool b) = some (.bool b, H) := rfl
theorem snap_int (k : Nat) (H : Heap) (t : IntKind) (n : Int) : snap (k + 1) H (.int t n) = some (.int t n, H) := rfl
theorem snap_str (k : Nat) (H : Heap) (l : List UInt8) : snap (k + 1) H (.str l) = some (.str l, H) := rfl
theorem snap_cst (k : Nat) (H : Heap) (v : Value) : snap (k + 1) H (.cst v) = some (.cst v, H) := rfl
theorem snap_tup (k : Nat) (H : Heap) (cs : List AV) : snap (k + 1) H (.tup cs) = (match mapS (snap k) H cs with | some (cs', H') => some (.tup cs', H') | none => none) := rfl
theorem snap_agg (k : Nat) (H : Heap) (cs : List AV) : snap (k + 1) H (.agg cs) = (match mapS (snap k) H cs with | some (cs', H') => some (.agg cs', H') | none => none) := rfl
theorem snap_iface (k : Nat) (H : Heap) (t : TypeId) (x : AV) : snap (k + 1) H (.iface t x) = (match snap k H x with | some (x', H') => some (.iface t x', H') | none => none) := rfl
theorem mapS_nil (f : Heap → AV → Option (AV × Heap)) (H : Heap) : mapS f H [] = some ([], H) := rfl
theorem mapS_cons (f : Heap → AV → Option (AV × Heap)) (H : Heap) (a : AV) (as : List AV) : mapS f H (a :: as) = (match f H a with
    | some (a', H') => match mapS f H' as with
      | some (as', H'') => some (a' :: as', H'')
      | none => none
    | none => none) := rfl

/-- A bytewise fact out of one closed look at 256 cases. -/
def isB (r : Option (AV × Heap)) (b : Bool) : Bool := match r with
  | some (.bool c, []) => c == b
  | _ => false
theorem of_isB {r : Option (AV × Heap)} {b : Bool} (h : isB r b = true) : r = some (.bool b, []) := by
  unfold isB at h
  split at h
  · rw [eq_of_beq h]
  · cases h
def isI (r : Option (AV × Heap)) (n : Int) : Bool := match r with
  | some (.int .i64 m, []) => m == n
  | _ => false
theorem of_isI {r : Option (AV × Heap)} {n : Int} (h : isI r n = true) : r = some (.int .i64 n, []) := by
  unfold isI at h
  split at h
  · rw [eq_of_beq h]
  · cases h
def isIB (r : Option (AV × Heap)) (n : Int) (b : Bool) : Bool := match r with
  | some (.tup [.int .i64 m, .bool c], []) => m == n && c == b
  | _ => false
theorem of_isIB {r : Option (AV × Heap)} {n : Int} {b : Bool} (h : isIB r n b = true) : r = some (.tup [.int .i64 n, .bool b], []) := by
  unfold isIB at h
  split at h
  · simp only [Bool.and_eq_true, beq_iff_eq] at h; rw [h.1, h.2]
  · cases h
theorem all256 {p : Nat → Bool} (h : (List.range 256).all p = true) (c : UInt8) : p c.toNat = true := by
  rw [List.all_eq_true] at h
  exact h _ (List.mem_range.2 c.toNat_lt)

/-! ### bytes that are appended one by one -/
def outV (l : List UInt8) : AV := match l with
  | [] => .cst (.slice none 0 0)
  | _ :: _ => .ms 0 0 l.length 1 (l.length - 1)
def outH (l : List UInt8) : Heap := match l with
  | [] => []
  | _ :: _ => [⟨bcells l, l.length - 1, true, .no⟩]
theorem bcells_len (l : List UInt8) : (bcells l).length = l.length := by simp [bcells]
theorem bcells_app (l m : List UInt8) : bcells (l ++ m) = bcells l ++ bcells m := by simp [bcells]
theorem append_out (l : List UInt8) (b : UInt8) (h : (l.length + 1) * 2 ≤ LIM) : aappend .no (outH l) 1 1 (outV l) 1 [.int .u8 b.toNat] = some (outV (l ++ [b]), outH (l ++ [b])) := by
  cases l with
  | nil =>
    unfold aappend outH outV
    simp [AV.isCell, hnew, bcells, LIM]
  | cons a r =>
    have h' : (r.length + 1 + 1) * 2 ≤ LIM := by simpa using h
    have ht : List.take (r.length + 1) (bcells (a :: r)) = bcells (a :: r) := List.take_of_length_le (by simp [bcells])
    unfold aappend
    simp [outH, outV, AV.isCell, h', bcells_len, ht]
    simp [bcells]
theorem view_out (l : List UInt8) : viewOf (outH l) 1 (outV l) = some (l.length, bcells l) := by
  cases l with
  | nil => simp [viewOf, outV, bcells]
  | cons a r =>
    have ht : List.take (r.length + 1) (bcells (a :: r)) = bcells (a :: r) := List.take_of_length_le (by simp [bcells])
    simp [viewOf, outH, outV, hget, bcells_len, ht]
theorem bytesOf_bcells : ∀ l : List UInt8, bytesOf (bcells l) = some l
  | [] => rfl
  | b :: r => by
    have := bytesOf_bcells r
    simp only [bcells] at this
    simp [bcells, bytesOf, this]

/-! ### one row of bytes that is written in place -/
theorem hget_b (A : List UInt8) (i g : Nat) (h : i < A.length) : hget [⟨bcells A, g, true, .no⟩] 0 i 1 g = some [.int .u8 (A[i].toNat : Nat)] := by
  have : List.take 1 (List.drop i (bcells A)) = [.int .u8 (A[i].toNat : Nat)] := by
    rw [bcells, List.drop_eq_getElem_cons (by simpa using h)]; simp
  simp [hget, bcells_len, this]; omega
theorem hset_b (A : List UInt8) (i g : Nat) (b : UInt8) (h : i < A.length) : hset [⟨bcells A, g, true, .no⟩] 0 i g [.int .u8 (b.toNat : Nat)] = some [⟨bcells (A.set i b), g, true, .no⟩] := by
  have : splice (bcells A) i [.int .u8 (b.toNat : Nat)] = bcells (A.set i b) := by
    rw [List.set_eq_take_append_cons_drop, if_pos h]; simp [splice, bcells]
  simp [hset, bcells_len, this]; omega

/-! ### a pure function's equation holds in every heap -/
def AV.plain : AV → Bool
  | .bool _ | .int _ _ | .str _ | .cst _ => true
  | .sl .. => true
  | _ => false
mutual
theorem snap_nilc : ∀ (k : Nat) (v v' : AV) (H' : Heap), snap k [] v = some (v', H') → v.closed = true ∧ H' = []
  | 0, _, _, _, h => by cases h
  | k + 1, v, v', H', h => by
    unfold snap at h
    split at h
    · simp [hget] at h
    · split at h
      · rename_i hm; cases h; have := mapS_nilc k _ _ _ hm; simp only [AV.closed]; exact this
      · cases h
    · split at h
      · rename_i hm; cases h; have := mapS_nilc k _ _ _ hm; simp only [AV.closed]; exact this
      · cases h
    · split at h
      · rename_i hm; cases h; have := snap_nilc k _ _ _ hm; simp only [AV.closed]; exact this
      · cases h
    · rename_i cs
      cases hc : closedL cs with
      | true => rw [hc] at h; cases h; exact ⟨by simp only [AV.closed]; exact hc, rfl⟩
      | false =>
        rw [hc] at h
        simp only [cond_false] at h
        split at h
        · rename_i hm; cases h; have := mapS_nilc k _ _ _ hm; simp only [AV.closed]; exact this
        · cases h
    · cases hc : v.closed with
      | true => rw [hc] at h; cases h; exact ⟨by first | exact hc | rfl, rfl⟩
      | false => rw [hc] at h; cases h
  termination_by k _ _ _ _ => (k, 0)
theorem mapS_nilc : ∀ (k : Nat) (x x' : List AV) (H' : Heap), mapS (snap k) [] x = some (x', H') → closedL x = true ∧ H' = []
  | _, [], _, _, h => by cases h; exact ⟨rfl, rfl⟩
  | k, a :: x, x', H', h => by
    unfold mapS at h
    split at h
    · rename_i a' H1 ha
      obtain ⟨h1, rfl⟩ := snap_nilc k _ _ _ ha
      split at h
      · rename_i as' H2 has
        cases h
        obtain ⟨h2, rfl⟩ := mapS_nilc k _ _ _ has
        exact ⟨by simp only [closedL, h1, h2, Bool.and_self], rfl⟩
      · cases h
    · cases h
  termination_by k x _ _ _ => (k, x.length + 1)
end
theorem snap_plain (k : Nat) (H : Heap) (v : AV) (h : v.plain = true) {p : AV × Heap} (hp : snap (k + 1) [] v = some p) : snap (k + 1) H v = some (p.1, H) := by
  have hc := (snap_nilc _ _ _ _ hp).1
  cases v <;> first | (cases hp; rfl) | (simp [AV.plain] at h; done) | skip
  rename_i full n e cs
  simp only [AV.closed] at hc
  unfold snap at hp ⊢
  simp only [hc, cond_true] at hp ⊢
  cases hp
  rfl
theorem mapS_plain (k : Nat) : ∀ (args : List AV) (H : Heap), args.all AV.plain = true → ∀ p, mapS (snap (k + 1)) [] args = some p → mapS (snap (k + 1)) H args = some (p.1, H)
  | [], H, h, p, hp => by cases hp; rfl
  | a :: as, H, h, p, hp => by
    simp only [List.all_cons, Bool.and_eq_true] at h
    rw [mapS_cons] at hp ⊢
    cases ha : snap (k + 1) [] a with
    | none => rw [ha] at hp; cases hp
    | some q =>
      obtain ⟨a', H1⟩ := q
      obtain ⟨_, rfl⟩ := snap_nilc _ _ _ _ ha
      rw [ha] at hp
      rw [snap_plain k H a h.1 ha]
      dsimp only at hp ⊢
      cases hm : mapS (snap (k + 1)) [] as with
      | none => rw [hm] at hp; cases hp
      | some r =>
        rw [hm] at hp
        rw [mapS_plain k as H h.2 r hm]
        cases hp
        rfl
theorem pure_any {T : Tab} {f : FuncId} {c : ACode} {res : List ResV} (hf : T.fn f = some (.code true c res)) {args : List AV} (ha : args.all AV.plain = true) {r : AV} (h : C T f args [] = some (r, [])) (H : Heap) : C T f args H = some (r, H) := by
  rw [C_pure hf] at h ⊢
  cases hm : mapS (snap 64) [] args with
  | none => rw [hm] at h; cases h
  | some p =>
    obtain ⟨a', H1⟩ := p
    rw [hm] at h
    rw [mapS_plain 63 args H ha _ hm]
    simp only at h ⊢
    revert h
    cases B T c res a' [] with
    | none => intro h; cases h
    | some q =>
      obtain ⟨r1, H2⟩ := q
      simp only
      cases snap 64 H2 r1 with
      | none => intro h; cases h
      | some z => intro h; simp at h; simp [h.1]
end Go.Eng

namespace Go.Eng
open Go

abbrev XR := Option (AEx × Env × Heap)
def seqK (r : XR) (k : Env → Heap → XR) : XR := match r with
  | some (.normal, e, H) => k e H
  | r => r
@[simp] theorem seqK_n {e H k} : seqK (some (.normal, e, H)) k = k e H := rfl
@[simp] theorem seqK_x {j e H k} : seqK (some (.exit j, e, H)) k = some (.exit j, e, H) := rfl
@[simp] theorem seqK_r {e H k} : seqK (some (.ret, e, H)) k = some (.ret, e, H) := rfl
@[simp] theorem seqK_0 {k} : seqK none k = none := rfl
@[simp] theorem seqK_i {c : Prop} [Decidable c] {a b : XR} {k} : seqK (if c then a else b) k = if c then seqK a k else seqK b k := by split <;> rfl
theorem S_seq {T a b e H} : X T (.seq a b) e H = seqK (X T a e H) (X T b) := X_seq

def blkK (id : Nat) (live : List Nat) (r : XR) : XR := match r with
  | some (.normal, e', H') => some (.normal, Env.keep live e', H')
  | some (.exit j, e', H') => if j = id then some (.normal, Env.keep live e', H') else some (.exit j, e', H')
  | r => r
@[simp] theorem blkK_n {id live e H} : blkK id live (some (.normal, e, H)) = some (.normal, Env.keep live e, H) := rfl
@[simp] theorem blkK_x {id live j e H} : blkK id live (some (.exit j, e, H)) = if j = id then some (.normal, Env.keep live e, H) else some (.exit j, e, H) := rfl
@[simp] theorem blkK_r {id live e H} : blkK id live (some (.ret, e, H)) = some (.ret, e, H) := rfl
@[simp] theorem blkK_0 {id live} : blkK id live none = none := rfl
@[simp] theorem blkK_i {id live} {c : Prop} [Decidable c] {a b : XR} : blkK id live (if c then a else b) = if c then blkK id live a else blkK id live b := by split <;> rfl
theorem S_block {T id live a e H} : X T (.block id live a) e H = blkK id live (X T a e H) := by
  rw [X_block]
  generalize X T a e H = r
  rcases r with _ | ⟨k, e', H'⟩
  · rfl
  · cases k with
    | normal => rfl
    | exit j =>
      show (bif j == id then _ else _) = if j = id then _ else _
      by_cases h : j = id
      · rw [if_pos h, beq_iff_eq.2 h]; rfl
      · rw [if_neg h, beq_eq_false_iff_ne.2 h]; rfl
    | ret => rfl

/-- A round's answer: on with the loop, or out. -/
def lopK (r : XR) (k : Env → Heap → XR) : XR := seqK r k
theorem S_loop {T live a e H} : X T (.loop live a) e H = seqK (X T a (Env.keep live e) H) (X T (.loop live a)) := X_loop

theorem S_if {T c a b e H} : X T (.cond c a b) e H = match ev T e c with
    | .bool t => if t = true then X T a e H else X T b e H
    | _ => none := by
  rw [X_if]
  cases ev T e c with
  | bool t => cases t <;> rfl
  | _ => rfl

def opsK (r : Option (Env × Heap)) : XR := match r with
  | some (e, H) => some (.normal, e, H)
  | none => none
@[simp] theorem opsK_s {e H} : opsK (some (e, H)) = some (.normal, e, H) := rfl
@[simp] theorem opsK_0 : opsK none = none := rfl
@[simp] theorem opsK_i {c : Prop} [Decidable c] {a b} : opsK (if c then a else b) = if c then opsK a else opsK b := by split <;> rfl
theorem S_region {T ops e H} : X T (.region ops) e H = opsK (runOps T (C T) ops e H) := by
  rw [X_region]; unfold opsK; rfl
def drwK (H : Heap) (r : Option Env) : XR := match r with
  | some e => some (.normal, e, H)
  | none => none
@[simp] theorem drwK_s {e H} : drwK H (some e) = some (.normal, e, H) := rfl
@[simp] theorem drwK_0 {H} : drwK H none = none := rfl
@[simp] theorem drwK_i {H} {c : Prop} [Decidable c] {a b} : drwK H (if c then a else b) = if c then drwK H a else drwK H b := by split <;> rfl
/-- A drawn region, its heap ahead of its environment. -/
def rD (T : Tab) (cf : CF) (ops : List AOper) (H : Heap) (e : Env) : Option Env := runDraw T cf ops e H
theorem S_draw {T ops e H} : X T (.draw ops) e H = drwK H (rD T (C T) ops H e) := by
  rw [X_draw]; unfold drwK rD; rfl

/-- One operation's answer goes on. -/
def opK (d : Option Nat) (e : Env) (r : Option (AV × Heap)) (k : Env → Heap → Option (Env × Heap)) : Option (Env × Heap) := match r with
  | some (v, H') => k (putA e d v) H'
  | none => none
@[simp] theorem opK_s {d e v H k} : opK d e (some (v, H)) k = k (putA e d v) H := rfl
@[simp] theorem opK_0 {d e k} : opK d e none k = none := rfl
@[simp] theorem opK_i {d e k} {c : Prop} [Decidable c] {a b} : opK d e (if c then a else b) k = if c then opK d e a k else opK d e b k := by split <;> rfl
theorem S_ops_nil {T cf e H} : runOps T cf [] e H = some (e, H) := rfl
theorem S_ops_u {T cf d o r e H} : runOps T cf (⟨d, o, none⟩ :: r) e H = opK d e (aop T cf o e H) (runOps T cf r) := rfl
theorem S_ops_g {T cf d o t b r e H} : runOps T cf (⟨d, o, some (some t, b)⟩ :: r) e H = match e.get t with
    | .bool c => if c = b then opK d e (aop T cf o e H) (runOps T cf r) else runOps T cf r (putA e d .und) H
    | .cst (.tuple _) => runOps T cf r (putA e d .und) H
    | _ => none := by
  rw [runOps]
  unfold wantedA
  dsimp only
  cases e.get t with
  | bool c => cases c <;> cases b <;> rfl
  | cst v => cases v <;> rfl
  | _ => rfl

def dopK (d : Option Nat) (e : Env) (r : Option (AV × Heap)) (k : Env → Option Env) : Option Env := match r with
  | some (v, _) => k (putA e d v)
  | none => none
@[simp] theorem dopK_s {d e v H k} : dopK d e (some (v, H)) k = k (putA e d v) := rfl
@[simp] theorem dopK_0 {d e k} : dopK d e none k = none := rfl
@[simp] theorem dopK_i {d e k} {c : Prop} [Decidable c] {a b} : dopK d e (if c then a else b) k = if c then dopK d e a k else dopK d e b k := by split <;> rfl
theorem S_drw_nil {T cf e H} : rD T cf [] H e = some e := rfl
theorem S_drw_u {T cf d o r e H} : rD T cf (⟨d, o, none⟩ :: r) H e = if quietOp T e o = true then dopK d e (aop T cf o e H) (rD T cf r H) else none := by
  rw [rD, runDraw]
  unfold wantedA
  cases quietOp T e o <;> rfl
theorem S_drw_g {T cf d o t b r e H} : rD T cf (⟨d, o, some (some t, b)⟩ :: r) H e = match e.get t with
    | .bool c => if c = b then (if quietOp T e o = true then dopK d e (aop T cf o e H) (rD T cf r H) else none) else rD T cf r H (putA e d .und)
    | .cst (.tuple _) => rD T cf r H (putA e d .und)
    | _ => none := by
  rw [rD, runDraw]
  unfold wantedA
  dsimp only
  cases e.get t with
  | bool c => cases c <;> cases b <;> cases quietOp T e o <;> rfl
  | cst v => cases v <;> rfl
  | _ => rfl

/-- What follows, where the late readings answer as they did. -/
def lateK (T : Tab) (lates : List (Nat × AOper)) (k : Nat) (f : Env → Heap → Option (Env × Heap)) (e : Env) (H : Heap) : Option (Env × Heap) := if lateOK T lates k e H = true then f e H else none
theorem S_lateK_nil {T k f e H} : lateK T [] k f e H = f e H := rfl
theorem S_lateK_cons {T k i a r f e H} : lateK T ((i, a) :: r) k f e H = if i = k then (if recheck T a e H = true then lateK T r k f e H else none) else lateK T r k f e H := by
  unfold lateK
  have : lateOK T ((i, a) :: r) k e H = ((if i = k then recheck T a e H else true) && lateOK T r k e H) := rfl
  rw [this]
  by_cases h : i = k
  · simp only [h, if_true]
    cases recheck T a e H <;> simp
  · simp only [h, if_false, Bool.true_and]
theorem S_recheck {T d o g e H} : recheck T ⟨some d, o, g⟩ e H = match aop T (fun _ _ _ => none) o e H with
    | some (v, _) => aveq 5 v (e.get d)
    | none => false := by
  unfold recheck
  dsimp only
  cases aop T (fun _ _ _ => none) o e H <;> rfl
/-- What follows, where an early reading answers as it would have. -/
def earlK (T : Tab) (earls : List (Nat × Nat)) (k : Nat) (o : AOp) (e0 : Env) (Hs : List (Nat × Heap)) (r : Option (AV × Heap)) : Option (AV × Heap) := match r with
  | some (v, H) => if earlyOK T earls k o e0 v Hs = true then some (v, H) else none
  | none => none
@[simp] theorem earlK_0 {T earls k o e Hs} : earlK T earls k o e Hs none = none := rfl
@[simp] theorem earlK_s {T earls k o e Hs v H} : earlK T earls k o e Hs (some (v, H)) = if earlyOK T earls k o e v Hs = true then some (v, H) else none := rfl
@[simp] theorem earlK_i {T earls k o e Hs} {c : Prop} [Decidable c] {a b} : earlK T earls k o e Hs (if c then a else b) = if c then earlK T earls k o e Hs a else earlK T earls k o e Hs b := by split <;> rfl
@[simp] theorem earlK_nil {T k o e Hs r} : earlK T [] k o e Hs r = r := by
  unfold earlK
  cases r <;> rfl
theorem earlyOK_nil {T k o e v Hs} : earlyOK T [] k o e v Hs = true := rfl
theorem earlyOK_cons {T i j r k o e v Hs} : earlyOK T ((i, j) :: r) k o e v Hs = ((if j = k then isEpOp T e o || earlyH T i o e v Hs else true) && earlyOK T r k o e v Hs) := rfl
theorem earlyH_nil {T j o e v} : earlyH T j o e v [] = true := rfl
theorem earlyH_cons {T j o e v i H r} : earlyH T j o e v ((i, H) :: r) = ((if i = j then reearl T o e v H else true) && earlyH T j o e v r) := rfl
theorem S_drawE {T effs lates earls ops e H} : X T (.drawE effs lates earls ops) e H = opsK (runDrawE T (C T) effs lates earls 0 [] ops e H) := by
  rw [X_drawE]; unfold opsK; rfl
theorem S_dE_nil {T cf effs lates earls k Hs e H} : runDrawE T cf effs lates earls k Hs [] e H = some (e, H) := rfl
theorem S_dE_u {T cf effs lates earls k Hs d o r e H} : runDrawE T cf effs lates earls k Hs (⟨d, o, none⟩ :: r) e H = if (effs.contains k || quietOp T e o) = true then opK d e (earlK T earls k o e Hs (aop T cf o e H)) (lateK T lates k (runDrawE T cf effs lates earls (k + 1) (hpush earls k H Hs) r)) else none := by
  rw [runDrawE]
  unfold wantedA
  cases (effs.contains k || quietOp T e o) with
  | false => rfl
  | true =>
    dsimp only
    cases aop T cf o e H with
    | none => rfl
    | some p =>
      obtain ⟨v, H1⟩ := p
      unfold earlK
      dsimp only
      cases earlyOK T earls k o e v Hs with
      | false =>
        rw [Bool.and_false]
        rfl
      | true =>
        rw [Bool.and_true]
        simp only [if_true, cond_true]
        unfold opK lateK
        dsimp only
        cases lateOK T lates k (putA e d v) H1 <;> rfl
theorem S_dE_g {T cf effs lates earls k Hs d o t b r e H} : runDrawE T cf effs lates earls k Hs (⟨d, o, some (some t, b)⟩ :: r) e H = match e.get t with
    | .bool c => if c = b then (if (effs.contains k || quietOp T e o) = true then opK d e (earlK T earls k o e Hs (aop T cf o e H)) (lateK T lates k (runDrawE T cf effs lates earls (k + 1) (hpush earls k H Hs) r)) else none) else runDrawE T cf effs lates earls (k + 1) (hpush earls k H Hs) r (putA e d .und) H
    | .cst (.tuple _) => runDrawE T cf effs lates earls (k + 1) (hpush earls k H Hs) r (putA e d .und) H
    | _ => none := by
  have key : (bif effs.contains k || quietOp T e o then match aop T cf o e H with
        | some (v, H') => bif lateOK T lates k (putA e d v) H' && earlyOK T earls k o e v Hs then runDrawE T cf effs lates earls (k + 1) (hpush earls k H Hs) r (putA e d v) H' else none
        | none => none
      else none) = if (effs.contains k || quietOp T e o) = true then opK d e (earlK T earls k o e Hs (aop T cf o e H)) (lateK T lates k (runDrawE T cf effs lates earls (k + 1) (hpush earls k H Hs) r)) else none := by
    have := @S_dE_u T cf effs lates earls k Hs d o r e H
    rw [← this, runDrawE]
    rfl
  rw [← key, runDrawE]
  unfold wantedA
  dsimp only
  cases e.get t with
  | bool c => cases c <;> cases b <;> rfl
  | cst v => cases v <;> rfl
  | _ => rfl
theorem S_hpush_nil {k H Hs} : hpush [] k H Hs = Hs := rfl
theorem S_hpush {earls k H Hs} : hpush earls k H Hs = if earls.any (fun p => p.1 == k) = true then (k, H) :: Hs else Hs := by
  unfold hpush
  cases earls.any (fun p => p.1 == k) <;> rfl
attribute [simp] S_drawE S_dE_nil S_dE_u S_dE_g S_lateK_nil S_lateK_cons S_recheck earlyOK_nil earlyOK_cons earlyH_nil earlyH_cons S_hpush isEpOp reearl

/-- The end of a body. -/
def finK (res : List ResV) (r : XR) : Option (AV × Heap) := match r with
  | some (.normal, e, H') => (mapO (resOf e H') res).map fun vs => (results1 vs, H')
  | some (.ret, e, H') => (mapO (resOf e H') res).map fun vs => (results1 vs, H')
  | _ => none
@[simp] theorem finK_n {res e H} : finK res (some (.normal, e, H)) = (mapO (resOf e H) res).map fun vs => (results1 vs, H) := rfl
@[simp] theorem finK_r {res e H} : finK res (some (.ret, e, H)) = (mapO (resOf e H) res).map fun vs => (results1 vs, H) := rfl
@[simp] theorem finK_0 {res} : finK res none = none := rfl
@[simp] theorem finK_i {res} {c : Prop} [Decidable c] {a b} : finK res (if c then a else b) = if c then finK res a else finK res b := by split <;> rfl
theorem S_body {T c res args H} : B T c res args H = finK res (X T c (argEnv 0 args) H) := B_eq

/-- The answer of a pure function out of its body's. -/
def purK (H' : Heap) (r : Option (AV × Heap)) : Option (AV × Heap) := match r with
  | some (r, H2) => match snap 64 H2 r with
    | some (r', _) => some (r', H')
    | none => none
  | none => none
@[simp] theorem purK_s {H' r H2} : purK H' (some (r, H2)) = (snap 64 H2 r).map fun p => (p.1, H') := by
  show (match snap 64 H2 r with
    | some (r', _) => some (r', H')
    | none => none) = _
  cases snap 64 H2 r <;> rfl
@[simp] theorem purK_0 {H'} : purK H' none = none := rfl
@[simp] theorem purK_i {H'} {c : Prop} [Decidable c] {a b} : purK H' (if c then a else b) = if c then purK H' a else purK H' b := by split <;> rfl
def FDef.body : FDef → ACode
  | .code _ c _ => c
  | _ => .fail
def FDef.res : FDef → List ResV
  | .code _ _ r => r
  | _ => []
def FDef.pure : FDef → Bool
  | .code p _ _ => p
  | _ => false
theorem S_pure {T : Tab} {f : FuncId} {d : FDef} (h : T.fn f = some d) (hp : d.pure = true) {args args' : List AV} {H H' : Heap} (hs : mapS (snap 64) H args = some (args', H')) : C T f args H = purK H' (B T d.body d.res args' []) := by
  cases d with
  | prim p => cases hp
  | code p c res =>
    obtain rfl : p = true := hp
    rw [C_pure h, hs]
    simp only [FDef.body, FDef.res]
    unfold purK
    cases B T c res args' [] with
    | none => rfl
    | some q => rfl
theorem S_code {T : Tab} {f : FuncId} {d : FDef} (h : T.fn f = some d) (hp : d.pure = false) (hc : d.body = d.body) {args : List AV} {H : Heap} (hn : ∀ p, d ≠ .prim p) : C T f args H = B T d.body d.res args H := by
  cases d with
  | prim p => exact absurd rfl (hn p)
  | code p c res =>
    obtain rfl : p = false := hp
    rw [C_code h]
    rfl
theorem isPure_of {T : Tab} {f : FuncId} {d : FDef} (h : T.fn f = some d) (hp : d.pure = true) : isPure T f = true := by
  cases d with
  | prim p => cases hp
  | code p c res => unfold isPure; rw [h]; exact hp

attribute [simp] S_seq S_block S_if S_region S_draw S_ops_nil S_ops_u S_ops_g S_drw_nil S_drw_u S_drw_g S_body X_exit X_ret X_skip X_scope
attribute [simp] quietOp aop ev evO Env.get putA intBin strBin aun Env.keep argEnv mapO resOf results1 mapS_nil mapS_cons snap_bool snap_int snap_str snap_cst snap_tup snap_agg snap_iface applyF fillP reps splice viewOf aslice bndO bndR partA hnew closedL AV.closed FDef.body FDef.res
end Go.Eng
namespace Go.Eng
open Go
def snpK (r : Option (List AV × Heap)) (k : List AV → Heap → Option (AV × Heap)) : Option (AV × Heap) := match r with
  | some (a, H) => k a H
  | none => none
@[simp] theorem snpK_s {a H k} : snpK (some (a, H)) k = k a H := rfl
theorem Q_pure {T : Tab} {f : FuncId} {d : FDef} (h : T.fn f = some d) (hp : d.pure = true) (args : List AV) (H : Heap) : C T f args H = snpK (mapS (snap 64) H args) fun args' H' => purK H' (B T d.body d.res args' []) := by
  cases hs : mapS (snap 64) H args with
  | none =>
    cases d with
    | prim p => cases hp
    | code p c res =>
      obtain rfl : p = true := hp
      rw [C_pure h, hs]; rfl
  | some p => obtain ⟨a, H'⟩ := p; exact S_pure h hp hs
theorem Q_code {T : Tab} {f : FuncId} {c res} (h : T.fn f = some (.code false c res)) (args : List AV) (H : Heap) : C T f args H = B T c res args H := C_code h args H
end Go.Eng
namespace Go.Eng
open Go
/-- A loop from an environment of its live variables. -/
noncomputable def XL (T : Tab) (live : List Nat) (a : ACode) (e : Env) (H : Heap) : XR := X T (.loop live a) e H
theorem keep_get {t : Nat} : ∀ {live : List Nat} {e : Env}, t ∈ live → (Env.keep live e).get t = e.get t
  | [], _, h => by cases h
  | a :: r, e, h => by
    show (bif a == t then e.get a else Env.get (Env.keep r e) t) = _
    by_cases hc : a = t
    · rw [beq_iff_eq.2 hc, hc]; rfl
    · rw [beq_eq_false_iff_ne.2 hc]
      rcases List.mem_cons.1 h with rfl | h
      · exact absurd rfl hc
      · exact keep_get h
theorem keep_keep (live : List Nat) (e : Env) : Env.keep live (Env.keep live e) = Env.keep live e := by
  unfold Env.keep
  apply List.map_congr_left
  intro t ht
  have := keep_get (e := e) ht
  unfold Env.keep at this
  rw [this]
theorem S_loopx {T live a e H} : X T (.loop live a) e H = XL T live a (Env.keep live e) H := by
  unfold XL
  rw [X_loop, X_loop (e := Env.keep live e), keep_keep]
theorem XL_eq {T live a e H} : XL T live a e H = seqK (X T a (Env.keep live e) H) (fun e' H' => XL T live a (Env.keep live e') H') := by
  conv => lhs; unfold XL; rw [S_loop]
  congr 1
  funext e' H'
  exact S_loopx
attribute [simp] S_loopx
theorem wr64 {x : Int} (h1 : -9223372036854775808 ≤ x) (h2 : x < 9223372036854775808) : IntKind.i64.wrap x = x := by rw [IntKind.wrap_i64]; omega
theorem wr8 {x : Int} (h1 : 0 ≤ x) (h2 : x < 256) : IntKind.u8.wrap x = x := by rw [IntKind.wrap_u8]; omega
end Go.Eng
namespace Go.Eng
open Go
@[simp] theorem getq0 {α : Type} {a : α} {z : List α} : (a :: z)[0]? = some a := rfl
@[simp] theorem getq1 {α : Type} {a b : α} {z : List α} : (a :: b :: z)[1]? = some b := rfl
@[simp] theorem getq2 {α : Type} {a b c : α} {z : List α} : (a :: b :: c :: z)[2]? = some c := rfl
@[simp] theorem getq3 {α : Type} {a b c d : α} {z : List α} : (a :: b :: c :: d :: z)[3]? = some d := rfl
@[simp] theorem getq4 {α : Type} {a b c d e : α} {z : List α} : (a :: b :: c :: d :: e :: z)[4]? = some e := rfl
@[simp] theorem getq5 {α : Type} {a b c d e f : α} {z : List α} : (a :: b :: c :: d :: e :: f :: z)[5]? = some f := rfl
@[simp] theorem getq6 {α : Type} {a b c d e f g : α} {z : List α} : (a :: b :: c :: d :: e :: f :: g :: z)[6]? = some g := rfl
@[simp] theorem getq7 {α : Type} {a b c d e f g h : α} {z : List α} : (a :: b :: c :: d :: e :: f :: g :: h :: z)[7]? = some h := rfl
@[simp] theorem getq8 {α : Type} {a b c d e f g h i : α} {z : List α} : (a :: b :: c :: d :: e :: f :: g :: h :: i :: z)[8]? = some i := rfl
@[simp] theorem getq9 {α : Type} {a b c d e f g h i j : α} {z : List α} : (a :: b :: c :: d :: e :: f :: g :: h :: i :: j :: z)[9]? = some j := rfl
end Go.Eng
namespace Go.Eng
open Go
@[simp] theorem ix_i {m : Nat} {k : IntKind} {i : Int} (h0 : 0 ≤ i) (h : i < (m : Int)) : ix m (.int k i) = some i.toNat := by simp [ix, h0, h]
@[simp] theorem bnd_i {m : Nat} {k : IntKind} {i : Int} (h0 : 0 ≤ i) (h : i ≤ (m : Int)) : bnd m (.int k i) = some i.toNat := by simp [bnd, h0, h]
@[simp] theorem tn_add {n k : Nat} : ((n : Int) + (k : Int)).toNat = n + k := by omega
@[simp] theorem tn_1 {n : Nat} : ((n : Int) + 1).toNat = n + 1 := by omega
@[simp] theorem tn_2 {n : Nat} : ((n : Int) + 2).toNat = n + 2 := by omega
@[simp] theorem tn_m1 {n : Nat} : ((n : Int) - 1).toNat = n - 1 := by omega
@[simp] theorem di_lt_t {a b : Int} (h : a < b) : decide (a < b) = true := by simpa using h
@[simp] theorem di_lt_f {a b : Int} (h : ¬ a < b) : decide (a < b) = false := by simpa using h
@[simp] theorem di_le_t {a b : Int} (h : a ≤ b) : decide (a ≤ b) = true := by simpa using h
@[simp] theorem di_le_f {a b : Int} (h : ¬ a ≤ b) : decide (a ≤ b) = false := by simpa using h
@[simp] theorem dn_lt_t {a b : Nat} (h : a < b) : decide (a < b) = true := by simpa using h
@[simp] theorem dn_lt_f {a b : Nat} (h : ¬ a < b) : decide (a < b) = false := by simpa using h
@[simp] theorem dn_le_t {a b : Nat} (h : a ≤ b) : decide (a ≤ b) = true := by simpa using h
@[simp] theorem dn_le_f {a b : Nat} (h : ¬ a ≤ b) : decide (a ≤ b) = false := by simpa using h
@[simp] theorem ii_lt_t {a b : Int} {α : Type} {x y : α} (h : a < b) : (if a < b then x else y) = x := if_pos h
@[simp] theorem ii_lt_f {a b : Int} {α : Type} {x y : α} (h : ¬ a < b) : (if a < b then x else y) = y := if_neg h
@[simp] theorem ii_le_t {a b : Int} {α : Type} {x y : α} (h : a ≤ b) : (if a ≤ b then x else y) = x := if_pos h
@[simp] theorem ii_le_f {a b : Int} {α : Type} {x y : α} (h : ¬ a ≤ b) : (if a ≤ b then x else y) = y := if_neg h
@[simp] theorem ni_lt_t {a b : Nat} {α : Type} {x y : α} (h : a < b) : (if a < b then x else y) = x := if_pos h
@[simp] theorem ni_lt_f {a b : Nat} {α : Type} {x y : α} (h : ¬ a < b) : (if a < b then x else y) = y := if_neg h
@[simp] theorem ni_le_t {a b : Nat} {α : Type} {x y : α} (h : a ≤ b) : (if a ≤ b then x else y) = x := if_pos h
@[simp] theorem ni_le_f {a b : Nat} {α : Type} {x y : α} (h : ¬ a ≤ b) : (if a ≤ b then x else y) = y := if_neg h
@[simp] theorem be_t {a b : Int} (h : a = b) : (a == b) = true := by simpa using h
@[simp] theorem be_f {a b : Int} (h : ¬ a = b) : (a == b) = false := by simpa using h
@[simp] theorem bn_t {a b : Int} (h : ¬ a = b) : (a != b) = true := by simpa using h
@[simp] theorem bn_f {a b : Int} (h : a = b) : (a != b) = false := by simpa using h
attribute [simp] wr64 wr8
end Go.Eng
namespace Go.Eng
open Go
@[simp] theorem aeq_nn {T : Tab} : aeq T 9 .iface true (.cst .nilIface) (.cst .nilIface) = some true := rfl
@[simp] theorem aeq_in {T : Tab} {c : Bool} {t : TypeId} {x : AV} : aeq T 9 .iface c (.iface t x) (.cst .nilIface) = some false := rfl
@[simp] theorem aeq_ni {T : Tab} {c : Bool} {t : TypeId} {x : AV} : aeq T 9 .iface c (.cst .nilIface) (.iface t x) = some false := rfl
@[simp] theorem aeq_bb {T : Tab} {c : Bool} {a b : Bool} : aeq T 9 .bool c (.bool a) (.bool b) = some (a == b) := rfl
end Go.Eng
namespace Go.Eng
open Go
@[simp] theorem ic_bool {b : Bool} : AV.isCell (.bool b) = true := rfl
@[simp] theorem ic_int {k : IntKind} {n : Int} : AV.isCell (.int k n) = true := rfl
@[simp] theorem ic_str {l : List UInt8} : AV.isCell (.str l) = true := rfl
@[simp] theorem ic_ptr {i o g : Nat} : AV.isCell (.ptr i o g) = true := rfl
@[simp] theorem ic_ep {cs : List AV} : AV.isCell (.ep cs) = true := rfl
@[simp] theorem ic_sl {f : Bool} {n e : Nat} {cs : List AV} : AV.isCell (.sl f n e cs) = true := rfl
@[simp] theorem ic_ms {i o n e g : Nat} : AV.isCell (.ms i o n e g) = true := rfl
@[simp] theorem ic_fn {f : Fn} {a b : List AV} : AV.isCell (.fn f a b) = true := rfl
@[simp] theorem ic_iface {t : TypeId} {x : AV} : AV.isCell (.iface t x) = true := rfl
@[simp] theorem ic_nilS {a : Option Addr} {n c : Nat} : AV.isCell (.cst (.slice a n c)) = true := rfl
@[simp] theorem ic_nilI : AV.isCell (.cst .nilIface) = true := rfl
@[simp] theorem ic_nilF : AV.isCell (.cst .nilFunc) = true := rfl
@[simp] theorem ic_nilP {a : Option Addr} : AV.isCell (.cst (.pointer a)) = true := rfl
@[simp] theorem ic_unk : AV.isCell .unk = false := rfl
@[simp] theorem ic_agg {cs : List AV} : AV.isCell (.agg cs) = false := rfl
@[simp] theorem ic_tup {cs : List AV} : AV.isCell (.tup cs) = false := rfl
@[simp] theorem cells_agg {cs : List AV} : AV.cells (.agg cs) = cs := rfl
@[simp] theorem ce_bool {b : Bool} : AV.cells (.bool b) = [.bool b] := rfl
@[simp] theorem ce_int {k : IntKind} {n : Int} : AV.cells (.int k n) = [.int k n] := rfl
@[simp] theorem ce_str {l : List UInt8} : AV.cells (.str l) = [.str l] := rfl
@[simp] theorem ce_ptr {i o g : Nat} : AV.cells (.ptr i o g) = [.ptr i o g] := rfl
@[simp] theorem ce_ep {cs : List AV} : AV.cells (.ep cs) = [.ep cs] := rfl
@[simp] theorem ce_sl {f : Bool} {n e : Nat} {cs : List AV} : AV.cells (.sl f n e cs) = [.sl f n e cs] := rfl
@[simp] theorem ce_ms {i o n e g : Nat} : AV.cells (.ms i o n e g) = [.ms i o n e g] := rfl
@[simp] theorem ce_fn {f : Fn} {a b : List AV} : AV.cells (.fn f a b) = [.fn f a b] := rfl
@[simp] theorem ce_iface {t : TypeId} {x : AV} : AV.cells (.iface t x) = [.iface t x] := rfl
@[simp] theorem ce_cst {v : Value} : AV.cells (.cst v) = [.cst v] := rfl
theorem cells_cell {x : AV} (h : x.isCell = true) : x.cells = [x] := by
  cases x <;> first | rfl | (simp at h; done)
end Go.Eng

namespace Go.Eng
open Go

theorem mapSclo {f : Heap → AV → Option (AV × Heap)} (hf : ∀ v, v.closed = true → ∀ H, f H v = (f [] v).map fun p => (p.1, H)) :
    ∀ (cs : List AV), closedL cs = true → ∀ H, mapS f H cs = (mapS f [] cs).map fun p => (p.1, H)
  | [], _, H => rfl
  | a :: as, h, H => by
    simp only [closedL, Bool.and_eq_true] at h
    have h1 := hf a h.1
    have h2 := mapSclo hf as h.2
    rw [mapS_cons, mapS_cons, h1 H]
    cases ha : f [] a with
    | none => rfl
    | some p =>
      obtain ⟨a', H1⟩ := p
      have e1 : H1 = [] := by
        have := h1 []
        rw [ha] at this
        simp at this
        exact this
      subst e1
      simp only [Option.map_some]
      rw [h2 H]
      cases mapS f [] as <;> rfl

theorem snapclo : ∀ (k : Nat) (v : AV), v.closed = true → ∀ H, snap k H v = (snap k [] v).map fun p => (p.1, H)
  | 0, _, _, _ => rfl
  | k + 1, v, h, H => by
    cases v with
    | agg cs =>
      rw [snap_agg, snap_agg, mapSclo (snapclo k) cs (by simpa [AV.closed] using h) H]
      cases mapS (snap k) [] cs <;> rfl
    | tup cs =>
      rw [snap_tup, snap_tup, mapSclo (snapclo k) cs (by simpa [AV.closed] using h) H]
      cases mapS (snap k) [] cs <;> rfl
    | iface t x =>
      rw [snap_iface, snap_iface, snapclo k x (by simpa [AV.closed] using h) H]
      cases snap k [] x <;> rfl
    | ms => simp [AV.closed] at h
    | ptr => simp [AV.closed] at h
    | unk => simp [AV.closed] at h
    | sl full n e cs =>
      have h' : closedL cs = true := by simpa [AV.closed] using h
      simp [snap, h']
    | ep cs =>
      have h' : closedL cs = true := by simpa [AV.closed] using h
      simp [snap, AV.closed, h']
    | fn f a b =>
      have h' : closedL a = true ∧ closedL b = true := by simpa [AV.closed] using h
      simp [snap, AV.closed, h']
    | bool => rfl
    | int => rfl
    | str => rfl
    | cst => rfl

theorem anyH {T : Tab} {f : FuncId} {d : FDef} (h : T.fn f = some d) (hp : d.pure = true) {args : List AV} (ha : closedL args = true) {r : AV} (he : C T f args [] = some (r, [])) (H : Heap) : C T f args H = some (r, H) := by
  rw [Q_pure h hp] at he ⊢
  rw [mapSclo (snapclo 64) args ha H]
  cases hm : mapS (snap 64) [] args with
  | none => rw [hm] at he; cases he
  | some p =>
    obtain ⟨a', H1⟩ := p
    rw [hm] at he
    simp only [Option.map_some, snpK_s] at he ⊢
    revert he
    unfold purK
    cases B T d.body d.res a' [] with
    | none => intro h; cases h
    | some q =>
      obtain ⟨r1, H2⟩ := q
      show (match snap 64 H2 r1 with
        | some (r', _) => some (r', H1)
        | none => none) = _ → (match snap 64 H2 r1 with
        | some (r', _) => some (r', H)
        | none => none) = _
      cases snap 64 H2 r1 with
      | none => intro h; cases h
      | some z => intro h; simp at h; simp [h.1]
end Go.Eng

namespace Go.Eng
open Go

/-- Kinds that are taken apart. -/
def plainKind : Option TypeDesc → Bool
  | some .bool | some (.int _) | some .string | some (.slice _) | some (.struct _) => true
  | _ => false
/-- A cell's value. -/
def leafV : Value → Bool
  | .agg _ | .tuple _ => false
  | _ => true
inductive Sh (P : Program) : TypeId → List AV → Prop where
  | bool (t : TypeId) (b : Bool) (ht : P.underlying t = some .bool) : Sh P t [.bool b]
  | int (t : TypeId) (k : IntKind) (n : Int) (ht : P.underlying t = some (.int k)) (hw : (Lit.int k n).wf = true) : Sh P t [.int k n]
  | str (t : TypeId) (l : List UInt8) (ht : P.underlying t = some .string) (hl : l.length ≤ maxLen) : Sh P t [.str l]
  | nils (t e : TypeId) (ht : P.underlying t = some (.slice e)) : Sh P t [.cst (.slice none 0 0)]
  | sl (t e : TypeId) (n : Nat) (cells : List AV) (ht : P.underlying t = some (.slice e)) (hcl : closedL cells = true) (hci : cells.all AV.isCell = true) (hn : n ≤ maxLen) (hl : cells.length = n * P.cellsOf e)
      (hc : ∀ i, i < n → Sh P e ((cells.drop (i * P.cellsOf e)).take (P.cellsOf e))) : Sh P t [.sl false n (P.cellsOf e) cells]
  | struct (t : TypeId) (fs : Array Field) (as : List AV) (ht : P.underlying t = some (.struct fs)) (hcl : closedL as = true) (hci : as.all AV.isCell = true) (hl : as.length = P.cellsOf t)
      (hc : ∀ f ∈ fs.toList, Sh P f.type ((as.drop f.offset).take (P.cellsOf f.type))) : Sh P t as
  | other (t : TypeId) (vs : List Value) (ht : plainKind (P.underlying t) = false) (hv : vs.all leafV = true) : Sh P t (vs.map .cst)

theorem closedL_append {x y : List AV} (hx : closedL x = true) (hy : closedL y = true) : closedL (x ++ y) = true := by
  induction x with
  | nil => exact hy
  | cons a x ih =>
    simp only [closedL, Bool.and_eq_true, List.cons_append] at hx ⊢
    exact ⟨hx.1, ih hx.2⟩
theorem VRs.chunk {c : Cx} {x : List AV} {x' : List Value} (h : VRs c x x') (o n : Nat) : VRs c ((x.drop o).take n) ((x'.drop o).take n) := (h.drop o).take n

/-- All chunks of a list have an abstract form, and so has the whole. -/
theorem chunks {c : Cx} {E : Nat} (Q : Nat → List AV → Prop) : ∀ (n : Nat) (V : Nat → List Value), (∀ i, i < n → (V i).length = E ∧ ∃ as, VRs c as (V i) ∧ closedL as = true ∧ as.all AV.isCell = true ∧ Q i as) →
    ∃ (as : List AV) (vs : List Value), VRs c as vs ∧ closedL as = true ∧ as.all AV.isCell = true ∧ vs.length = n * E ∧ ∀ i, i < n → (vs.drop (i * E)).take E = V i ∧ Q i ((as.drop (i * E)).take E)
  | 0, V, _ => ⟨[], [], .nil c, rfl, rfl, by simp, fun i h => absurd h (Nat.not_lt_zero i)⟩
  | n + 1, V, h => by
    obtain ⟨as, vs, h1, h2, h3, h4, h5⟩ := chunks Q n V fun i hi => h i (by omega)
    obtain ⟨g0, bs, g1, g2, g3, g4⟩ := h n (by omega)
    have hal : as.length = n * E := by rw [h1.len, h4]
    have hbl : bs.length = E := by rw [g1.len, g0]
    refine ⟨as ++ bs, vs ++ V n, h1.append g1, closedL_append h2 g2, by rw [List.all_append, h3, g3]; rfl, by rw [List.length_append, h4, g0, Nat.succ_mul], fun i hi => ?_⟩
    by_cases hin : i < n
    · have hle : i * E + E ≤ n * E := by rw [← Nat.succ_mul]; exact Nat.mul_le_mul_right E hin
      rw [List.drop_append_of_le_length (by omega), List.drop_append_of_le_length (by omega), List.take_append_of_le_length (by simp; omega), List.take_append_of_le_length (by simp; omega)]
      exact h5 i hin
    · obtain rfl : i = n := by omega
      have e1 : (vs ++ V i).drop (i * E) = V i := by rw [← h4]; exact List.drop_left
      have e2 : (as ++ bs).drop (i * E) = bs := by rw [← hal]; exact List.drop_left
      rw [e1, e2, List.take_of_length_le (by omega), List.take_of_length_le (by omega)]
      exact ⟨rfl, g4⟩

/-- Fields in a row. -/
theorem fields {c : Cx} (Q : Nat → List AV → Prop) : ∀ (sz : List Nat) (cs : List Value), cs.length = sz.sum → (∀ (j : Nat) (n : Nat), sz[j]? = some n → ∃ as, VRs c as ((cs.drop (sz.take j).sum).take n) ∧ closedL as = true ∧ as.all AV.isCell = true ∧ Q j as) →
    ∃ as : List AV, VRs c as cs ∧ closedL as = true ∧ as.all AV.isCell = true ∧ ∀ (j : Nat) (n : Nat), sz[j]? = some n → Q j ((as.drop (sz.take j).sum).take n)
  | [], cs, hl, _ => by
    obtain rfl : cs = [] := List.eq_nil_of_length_eq_zero (by simpa using hl)
    exact ⟨[], .nil c, rfl, rfl, fun j n h => by simp at h⟩
  | m :: sz, cs, hl, h => by
    simp only [List.sum_cons] at hl
    obtain ⟨bs, g1, g2, g3, g4⟩ := h 0 m rfl
    simp only [List.take_zero, List.sum_nil, List.drop_zero] at g1
    obtain ⟨as, h1, h2, h3, h4⟩ := fields (fun j => Q (j + 1)) sz (cs.drop m) (by simp; omega) (fun j n hj => by
      obtain ⟨as, a1, a2, a3, a4⟩ := h (j + 1) n (by simpa using hj)
      refine ⟨as, ?_, a2, a3, a4⟩
      rw [List.drop_drop]
      simpa using a1)
    have hbl : bs.length = m := by rw [g1.len]; simp; omega
    refine ⟨bs ++ as, by rw [← List.take_append_drop m cs]; exact g1.append h1, closedL_append g2 h2, by rw [List.all_append, g3, h3]; rfl, fun j n hj => ?_⟩
    cases j with
    | zero =>
      simp at hj
      subst hj
      simp only [List.take_zero, List.sum_nil, List.drop_zero]
      rw [List.take_append_of_le_length (by omega), List.take_of_length_le (by omega)]
      exact g4
    | succ j =>
      simp only [List.take_succ_cons, List.sum_cons]
      rw [List.drop_append, List.drop_eq_nil_of_le (by omega), List.nil_append, show m + (sz.take j).sum - bs.length = (sz.take j).sum by omega]
      exact h4 j n (by simpa using hj)

theorem csts (c : Cx) : ∀ vs : List Value, VRs c (vs.map .cst) vs
  | [] => .nil c
  | v :: vs => .cons (.cst v) (csts c vs)
theorem csts_closed : ∀ vs : List Value, closedL (vs.map AV.cst) = true
  | [] => rfl
  | v :: vs => by simp [closedL, AV.closed, csts_closed vs]

theorem csts_cell : ∀ vs : List Value, vs.all leafV = true → (vs.map AV.cst).all AV.isCell = true
  | [], _ => rfl
  | v :: vs, h => by
    simp only [List.all_cons, Bool.and_eq_true] at h
    simp only [List.map_cons, List.all_cons, Bool.and_eq_true]
    refine ⟨?_, csts_cell vs h.2⟩
    have := h.1
    cases v <;> simp [leafV, AV.isCell] at this ⊢

/-- Types that are taken apart to the bottom, or are of one cell. -/
def shT (P : Program) : Nat → TypeId → Bool
  | 0, _ => false
  | d + 1, t => match P.underlying t with
    | some (.slice e) => shT P d e
    | some (.struct fs) => fs.toList.all fun f => shT P d f.type
    | some (.array _ _) => false
    | _ => true

section
variable {H : Type} {enc : TypeId × Value → H} {P : Program} {w : World} {base : Nat} {spare : Nat → Bool} {held : Bool}
theorem trod_leaf {fuel : Nat} {t : TypeId} {cs : List Value} {x : DataW H × List MemPlace} (h : DataW.trod enc P w base spare held fuel t cs = some x)
    (h1 : ∀ fs, P.underlying t ≠ some (.struct fs)) (h2 : ∀ n e, P.underlying t ≠ some (.array n e)) : cs.all leafV = true := by
  cases fuel with
  | zero => simp [DataW.trod] at h
  | succ n =>
    unfold DataW.trod at h
    split at h
    all_goals first
      | rfl
      | (rename_i hu; exact absurd hu (h1 _))
      | (rename_i hu; exact absurd hu (h2 _ _))
      | (cases h; done)

theorem cell_add {b o i j : Nat} : ((⟨b, o, none⟩ : Addr).add i).add j = ⟨b, o + (i + j), none⟩ := by
  unfold Addr.add
  split <;> split <;> simp_all <;> omega

theorem sh_of (hl : laidOutB P = true) : ∀ (d fuel : Nat) (t : TypeId) (cs : List Value) (x : DataW H × List MemPlace), shT P d t = true → t < P.types.size → DataW.trod enc P w base (fun _ => true) held fuel t cs = some x →
    ∃ as, VRs (Cx.start w) as cs ∧ closedL as = true ∧ as.all AV.isCell = true ∧ Sh P t as
  | 0, _, _, _, _, hd, _, _ => by cases hd
  | d + 1, fuel, t, cs, x, hd, ht, h => by
    by_cases hk : plainKind (P.underlying t) = false
    · refine ⟨cs.map .cst, csts _ cs, csts_closed cs, csts_cell cs (trod_leaf h ?_ ?_), .other t cs hk (trod_leaf h ?_ ?_)⟩
      all_goals first
        | (intro fs hu; rw [hu] at hk; cases hk; done)
        | (intro n e hu; unfold shT at hd; rw [hu] at hd; cases hd)
    · cases hu : P.underlying t with
      | none => rw [hu] at hk; exact absurd rfl hk
      | some k =>
        cases k with
        | bool =>
          obtain ⟨b, rfl, _⟩ := DataW.trod_bool hu h
          exact ⟨[.bool b], .cons (.bool b) (.nil _), rfl, rfl, .bool t b hu⟩
        | int k =>
          obtain ⟨n, rfl, _, hw⟩ := DataW.trod_int hu h
          exact ⟨[.int k n], .cons (.int k n) (.nil _), rfl, rfl, .int t k n hu hw⟩
        | string =>
          obtain ⟨s, rfl, _, hs⟩ := DataW.trod_string hu h
          exact ⟨[.str s.data.toList], .cons (by simpa using VR.str (c := Cx.start w) s.data.toList) (.nil _), rfl, rfl, .str t _ hu (by simpa using hs)⟩
        | slice e =>
          have he := kid_slice hl ht hu
          unfold shT at hd
          rw [hu] at hd
          simp only at hd
          rcases Go.Deep.open_slice hu h with ⟨rfl, _⟩ | ⟨a, len, cap, m, n, D, Pl, rfl, hb, hle, hcap, hm, _, hel⟩
          · exact ⟨[.cst (.slice none 0 0)], .cons (.cst _) (.nil _), rfl, rfl, .nils t e hu⟩
          · simp only [if_true] at hm
            subst hm
            have hV : ∀ i : Nat, ∃ V : List Value, i < len → w.cells? base (a.add (i * P.cellsOf e)) (P.cellsOf e) = some V ∧ DataW.trod enc P w base (fun _ => true) held n e V = some (D i, Pl i) := by
              intro i
              by_cases hi : i < len
              · obtain ⟨V, q1, q2⟩ := hel i (by omega)
                exact ⟨V, fun _ => ⟨q1, q2⟩⟩
              · exact ⟨[], fun h => absurd h hi⟩
            obtain ⟨V, hV⟩ := Classical.axiomOfChoice hV
            obtain ⟨as, vs, g1, g2, g3, g4, g5⟩ := chunks (c := Cx.start w) (E := P.cellsOf e) (fun _ as => Sh P e as) len V (fun i hi => by
              obtain ⟨q1, q2⟩ := hV i hi
              obtain ⟨_, q3, _⟩ := World.cells?_some q1
              obtain ⟨bs, r1, r2, r3, r4⟩ := sh_of hl d n e _ _ hd he q2
              exact ⟨q3, bs, r1, r2, r3, r4⟩)
            have hal : as.length = len * P.cellsOf e := by rw [g1.len, g4]
            obtain ⟨ab, ao, asp⟩ := a
            have hsp : as ≠ [] → asp = none := by
              intro hne
              have hpos : 0 < as.length := List.length_pos_iff.2 hne
              rw [hal] at hpos
              have hl0 : 0 < len := Nat.pos_of_mul_pos_right hpos
              have hE0 : 0 < P.cellsOf e := Nat.pos_of_mul_pos_left hpos
              obtain ⟨q1, _⟩ := hV 0 hl0
              obtain ⟨_, q3, q4⟩ := World.cells?_some q1
              have := q4 0 hE0
              rw [List.getElem?_eq_getElem (by omega)] at this
              simp only [Nat.zero_mul, Addr.add, if_true] at this
              unfold World.cell? at this
              split at this
              · split at this
                · cases this
                · rename_i hs; cases asp <;> simp at hs ⊢
              · cases this
            refine ⟨[.sl false len (P.cellsOf e) as], .cons (.sl false len (P.cellsOf e) as vs ab ao _ asp hsp hle (fun h => by cases h) hal g1.len g1.rel (fun hne => ?_) (fun k v hk => ?_)) (.nil _), by simp [closedL, AV.closed, g2], rfl, .sl t e len as hu g2 g3 (by omega) hal fun i hi => (g5 i hi).2⟩
            · have hpos : 0 < as.length := List.length_pos_iff.2 hne
              rw [hal] at hpos
              have hl0 : 0 < len := Nat.pos_of_mul_pos_right hpos
              have hE0 : 0 < P.cellsOf e := Nat.pos_of_mul_pos_left hpos
              obtain rfl := hsp hne
              obtain ⟨q1, _⟩ := hV 0 hl0
              obtain ⟨_, q3, q4⟩ := World.cells?_some q1
              have := q4 0 hE0
              rw [List.getElem?_eq_getElem (by omega)] at this
              simp only [Nat.zero_mul, Addr.add, if_true] at this
              refine start_perm ?_
              rcases Nat.lt_or_ge ab w.heap.size with h | h
              · exact h
              · simp [World.cell?, Array.getElem?_eq_none h] at this
            · have hklt : k < vs.length := (List.getElem?_eq_some_iff.1 hk).1
              have hne : as ≠ [] := by
                rintro rfl
                have := g1.len
                simp at this
                omega
              obtain rfl := hsp hne
              rw [g4] at hklt
              have hE0 : 0 < P.cellsOf e := Nat.pos_of_mul_pos_left (Nat.lt_of_le_of_lt (Nat.zero_le _) hklt)
              have hi : k / P.cellsOf e < len := (Nat.div_lt_iff_lt_mul hE0).2 hklt
              obtain ⟨q1, _⟩ := hV _ hi
              obtain ⟨_, q3, q4⟩ := World.cells?_some q1
              have hj := Nat.mod_lt k hE0
              have := q4 (k % P.cellsOf e) hj
              rw [cell_add] at this
              have hdm : k / P.cellsOf e * P.cellsOf e + k % P.cellsOf e = k := by rw [Nat.mul_comm]; exact Nat.div_add_mod k _
              rw [hdm] at this
              show w.cell? _ = _
              rw [this, ← (g5 _ hi).1, List.getElem?_take_of_lt hj, List.getElem?_drop, hdm]
              exact hk
        | struct fs =>
          obtain ⟨k1, k2, k3⟩ := kid_struct hl ht hu
          unfold shT at hd
          rw [hu] at hd
          simp only [List.all_eq_true] at hd
          obtain ⟨xs, n, rfl, _, hlen, hxl, hf⟩ := DataW.trod_struct hu h
          obtain ⟨as, g1, g2, g3, g4⟩ := fields (c := Cx.start w) (fun j as => ∀ f, fs.toList[j]? = some f → Sh P f.type as) (fs.toList.map fun f => P.cellsOf f.type) cs (by rw [hlen, k2]) (fun j n' hj => by
            rw [List.getElem?_map] at hj
            obtain ⟨f, hfj, rfl⟩ := Option.map_eq_some_iff.1 hj
            have hfa : fs[j]? = some f := by simpa using hfj
            have h3 := hf j f hfa
            have hjl : j < xs.length := by
              have := (List.getElem?_eq_some_iff.1 hfj).1
              simp at this
              omega
            rw [List.getElem?_eq_getElem hjl] at h3
            rw [← List.map_take, ← k3 j f hfj]
            have hm : f ∈ fs.toList := List.mem_of_getElem? hfj
            obtain ⟨bs, r1, r2, r3, r4⟩ := sh_of hl d n f.type _ _ (hd f hm) (k1 f hm) h3
            exact ⟨bs, r1, r2, r3, fun f' hf' => by rw [hfj] at hf'; cases hf'; exact r4⟩)
          refine ⟨as, g1, g2, g3, .struct t fs as hu g2 g3 (by rw [g1.len, hlen]) fun f hm => ?_⟩
          obtain ⟨j, hj⟩ := List.mem_iff_getElem?.1 hm
          have := g4 j (P.cellsOf f.type) (by simp [hj]) f hj
          rwa [← List.map_take, ← k3 j f hj] at this
        | _ => rw [hu] at hk; exact absurd rfl hk
theorem Sh.cells {t : TypeId} {as : List AV} (h : Sh P t as) : closedL as = true ∧ as.all AV.isCell = true := by
  cases h with
  | bool _ b _ => exact ⟨rfl, rfl⟩
  | int _ k n _ _ => exact ⟨rfl, rfl⟩
  | str _ l _ _ => exact ⟨rfl, rfl⟩
  | nils _ e _ => exact ⟨rfl, rfl⟩
  | sl _ e n cells _ hcl hci => exact ⟨by simp [closedL, AV.closed, hcl], rfl⟩
  | struct _ fs as _ hcl hci => exact ⟨hcl, hci⟩
  | other _ vs _ hv => exact ⟨csts_closed vs, csts_cell vs hv⟩
end
end Go.Eng

namespace Go.Eng
open Go

def argOf (P : Program) (t : TypeId) (cells : List AV) : AV := match P.underlying t with
  | some (.struct _) => .agg cells
  | _ => cells.headD .unk
/-- The abstract forms of a law's arguments. -/
inductive Shs (P : Program) : List TypeId → List AV → Prop where
  | nil : Shs P [] []
  | cons (t : TypeId) (cells : List AV) (ts : List TypeId) (as : List AV) (h : Sh P t cells) (hs : Shs P ts as) : Shs P (t :: ts) (argOf P t cells :: as)

def argT (P : Program) (t : TypeId) : Bool := shT P 9 t && P.readableRec t && decide (t < P.types.size)

section
variable {H : Type} {enc : TypeId × Value → H} {P : Program}

theorem leaf_of {W : World} {r : Reach} {base : Nat} {t : TypeId} {v : Value} (h : Value.okWide P W r base t v) (h1 : ∀ fs, P.underlying t ≠ some (.struct fs)) (h2 : ∀ n e, P.underlying t ≠ some (.array n e)) : v.cells.toList = [v] := by
  cases v with
  | agg cs =>
    exfalso
    unfold Value.okWide at h
    split at h
    · rename_i hu; exact h1 _ hu
    · rename_i hu; exact h2 _ _ hu
    · unfold Cell.okWide Cell.ok at h
      cases hu : P.underlying t with
      | none => rw [hu] at h; exact h
      | some k => rw [hu] at h; cases k <;> exact h
  | _ => rfl

theorem arg_sh (hl : laidOutB P = true) {W : World} {base : Nat} {t : TypeId} {v : Value} {d : DataW H} {ps : List MemPlace} (ht : argT P t = true) (hok : Value.okWide P W .any base t v) (h : DataW.Trod enc P W 0 (fun _ => true) true t v d ps) :
    ∃ cells, Sh P t cells ∧ VR (Cx.start W) (argOf P t cells) v := by
  unfold argT at ht
  simp only [Bool.and_eq_true, decide_eq_true_eq] at ht
  obtain ⟨n, hn⟩ := h
  obtain ⟨as, g1, g2, g3, g4⟩ := sh_of hl 9 n t _ _ ht.1.1 ht.2 hn
  refine ⟨as, g4, ?_⟩
  unfold argOf
  split
  · rename_i fs hu
    unfold Value.okWide at hok
    rw [hu] at hok
    obtain ⟨cs, rfl, _, _⟩ := hok
    refine .agg as cs (by simpa [Value.cells] using g1.len) fun k a x h1 h2 => g1.rel k a x h1 (by simpa [Value.cells] using h2)
  · rename_i hu
    have hleaf := leaf_of hok (fun fs h => hu fs h) (fun n e h => by
      have := ht.1.1
      unfold shT at this
      rw [h] at this
      cases this)
    rw [hleaf] at g1
    obtain ⟨a, rest, h1⟩ : ∃ a rest, as = a :: rest := by
      cases as with
      | nil => have := g1.len; simp at this
      | cons a rest => exact ⟨a, rest, rfl⟩
    subst h1
    exact g1.rel 0 a v rfl rfl

theorem args_sh (hl : laidOutB P = true) {W : World} {base : Nat} : ∀ {ts : List TypeId} {vs : List Value} {ds : List (DataW H)} {ps : List MemPlace}, ts.all (argT P) = true → (∀ (j : Nat) t v, ts[j]? = some t → vs[j]? = some v → Value.okWide P W .any base t v) →
    DataW.TrodAll enc P W 0 (fun _ => true) true ts vs ds ps → ∃ as, Shs P ts as ∧ VRs (Cx.start W) as vs
  | [], [], [], _, _, _, _ => ⟨[], .nil, .nil _⟩
  | t :: ts, v :: vs, d :: ds, ps, ht, hok, h => by
    simp only [List.all_cons, Bool.and_eq_true] at ht
    obtain ⟨p, q, h1, h2, _⟩ := h
    obtain ⟨cells, g1, g2⟩ := arg_sh hl ht.1 (hok 0 t v rfl rfl) h1
    obtain ⟨as, g3, g4⟩ := args_sh hl ht.2 (fun j t v hj hv => hok (j + 1) t v (by simpa using hj) (by simpa using hv)) h2
    exact ⟨_, .cons t cells ts as g1 g3, .cons g2 g4⟩
  | [], _ :: _, _, _, _, _, h => h.elim
  | _ :: _, [], _, _, _, _, h => h.elim
  | [], [], _ :: _, _, _, _, h => h.elim
  | _ :: _, _ :: _, [], _, _, _, h => h.elim

theorem trodAll_len {W : World} {base : Nat} {sp : Nat → Bool} {held : Bool} : ∀ {ts : List TypeId} {vs : List Value} {ds : List (DataW H)} {ps : List MemPlace}, DataW.TrodAll enc P W base sp held ts vs ds ps → ds.length = ts.length
  | [], [], [], _, _ => rfl
  | _ :: ts, _ :: vs, _ :: ds, ps, h => by
    obtain ⟨p, q, _, h2, _⟩ := h
    simp [trodAll_len h2]
  | [], _ :: _, _, _, h => h.elim
  | _ :: _, [], _, _, h => h.elim
  | [], [], _ :: _, _, h => h.elim
  | _ :: _, _ :: _, [], _, h => h.elim

theorem trodAll_keep (hl : laidOutB P = true) {W W' : World} (hb : ∀ b, b < W.heap.size → W'.heap[b]? = W.heap[b]?) : ∀ {ts : List TypeId} {vs : List Value} {ds : List (DataW H)} {ps : List MemPlace}, ts.all (argT P) = true → (∀ p ∈ ps, p.block < W.heap.size) →
    DataW.TrodAll enc P W 0 (fun _ => true) true ts vs ds ps → DataW.TrodAll enc P W' 0 (fun b => decide (b < W.heap.size)) true ts vs ds ps
  | [], [], [], _, _, _, h => h
  | t :: ts, v :: vs, d :: ds, ps, ht, hlt, h => by
    simp only [List.all_cons, Bool.and_eq_true, argT, decide_eq_true_eq] at ht
    obtain ⟨p, q, h1, h2, rfl⟩ := h
    refine ⟨p, q, WideElems.Trod_stays hl ht.1.1.2 ht.1.2 h1 (fun x hx => ?_) (fun x hx => by simpa using hlt x (List.mem_append_left _ hx)), trodAll_keep hl hb (by simpa only [argT] using ht.2) (fun x hx => hlt x (List.mem_append_right _ hx)) h2, rfl⟩
    have hx' := hb _ (hlt x (List.mem_append_left _ hx))
    cases x with
    | cell b o => exact World.cell?_of_block hx'
    | map b => exact hx'
  | [], _ :: _, _, _, _, _, h => h.elim
  | _ :: _, [], _, _, _, _, h => h.elim
  | [], [], _ :: _, _, _, _, h => h.elim
  | _ :: _, _ :: _, [], _, _, _, h => h.elim

/-- A law's call: it answers true, and what it was given reads as it did. -/
theorem law_calls {T : Tab} (hT : TabOK P T) (hF : FnOK P T) (hl : laidOutB P = true) {f : FuncId} {fn : Func} {s : ChangeSpec} {tb : TypeId} (hcall : ∀ (args : Array Value) (w : World), (callFunc f args).run P w = .ok (.enter f args) w)
    (hpar : fn.params.toList.all (argT P) = true) (hres : fn.resultTypes = #[tb]) (htb : P.underlying tb = some .bool) (hvars : s.vars = [])
    (hfn : ∀ (ds : List (DataW H)), ds.length = fn.params.size → s.fn H ds = { results := [.lit (.bool true)], args := ds, vars := [] })
    (hlaw : ∀ as, Shs P fn.params.toList as → C T f as [] = some (.bool true, []))
    {W : World} {base : Nat} {args : Array Value} {ds gs : List (DataW H)} {before : List MemPlace}
    (hval : ∀ (j : Nat) t v, fn.params[j]? = some t → args[j]? = some v → Value.okWide P W .any base t v) (hW : DataW.Whole enc P fn.params.toList s.vars false W args.toList ds gs before)
    (hg : ∀ n cs, T.glob n = some cs → VR (Cx.start W) (.ep cs) (.pointer (some ⟨n, 0, none⟩))) :
    Calls P f args W fun e W' => ∃ v, e = .returned v ∧ s.post enc P fn false true false false W args v W' := by
  have hWk := hW
  obtain ⟨p, q, hA, hV, rfl, _, _⟩ := hW
  rw [hvars] at hV
  have hgs : gs = [] ∧ q = [] := by
    cases gs with
    | nil => exact ⟨rfl, hV⟩
    | cons g gs => exact hV.elim
  obtain ⟨rfl, rfl⟩ := hgs
  obtain ⟨as, hs, hv⟩ := args_sh hl hpar (fun j t v hj hv => hval j t v (by simpa using hj) (by simpa using hv)) hA
  have hrun := run_law hT hF hcall hg hv (hlaw as hs)
  refine hrun.mono ?_
  rintro e W' ⟨y, c', rfl, rfl, hE, hy⟩
  cases hy
  have hfn' := hfn ds (by rw [trodAll_len hA]; simp)
  have hbl : ∀ b, b < W.heap.size → c'.w.heap[b]? = W.heap[b]? := fun b hb => start_same hE hb
  refine ⟨_, rfl, ds, [], p ++ [], [], p, [], hWk, ?_, ?_, ?_, start_kept hE _, fun h => by cases h⟩
  · rw [List.append_nil, hfn', hres]
    exact ⟨[], [], ⟨1, by simp [DataW.trod, htb, Value.cells]⟩, rfl, rfl⟩
  · rw [List.append_nil, hfn']
    exact trodAll_keep hl hbl hpar (fun x hx => hWk.lt x (by simpa using hx)) hA
  · rw [List.append_nil, hfn', hvars]
    rfl
end
end Go.Eng
namespace Go.Eng
open Go
section
variable {P : Program}
theorem Sh.str_inv {t : TypeId} {as : List AV} (h : Sh P t as) (ht : P.underlying t = some .string) : ∃ l, as = [.str l] ∧ l.length ≤ maxLen := by
  cases h with
  | str _ l _ hl => exact ⟨l, rfl, hl⟩
  | other _ vs hk => rw [ht] at hk; cases hk
  | bool _ b hu => rw [ht] at hu; cases hu
  | int _ k n hu => rw [ht] at hu; cases hu
  | nils _ e hu => rw [ht] at hu; cases hu
  | sl _ e n cells hu => rw [ht] at hu; cases hu
  | struct _ fs as hu => rw [ht] at hu; cases hu
theorem Sh.bool_inv {t : TypeId} {as : List AV} (h : Sh P t as) (ht : P.underlying t = some .bool) : ∃ b, as = [.bool b] := by
  cases h with
  | bool _ b _ => exact ⟨b, rfl⟩
  | other _ vs hk => rw [ht] at hk; cases hk
  | str _ l hu => rw [ht] at hu; cases hu
  | int _ k n hu => rw [ht] at hu; cases hu
  | nils _ e hu => rw [ht] at hu; cases hu
  | sl _ e n cells hu => rw [ht] at hu; cases hu
  | struct _ fs as hu => rw [ht] at hu; cases hu
theorem Sh.int_inv {t : TypeId} {k : IntKind} {as : List AV} (h : Sh P t as) (ht : P.underlying t = some (.int k)) : ∃ n, as = [.int k n] ∧ k.min ≤ n ∧ n ≤ k.max := by
  cases h with
  | int _ k' n hu hw =>
    rw [ht] at hu
    cases hu
    simp only [Lit.wf, Bool.and_eq_true, decide_eq_true_eq] at hw
    exact ⟨n, rfl, hw.1, hw.2⟩
  | other _ vs hk => rw [ht] at hk; cases hk
  | str _ l hu => rw [ht] at hu; cases hu
  | bool _ b hu => rw [ht] at hu; cases hu
  | nils _ e hu => rw [ht] at hu; cases hu
  | sl _ e n cells hu => rw [ht] at hu; cases hu
  | struct _ fs as hu => rw [ht] at hu; cases hu
theorem Sh.slice_inv {t e : TypeId} {as : List AV} (h : Sh P t as) (ht : P.underlying t = some (.slice e)) : as = [.cst (.slice none 0 0)] ∨
    ∃ n cells, as = [.sl false n (P.cellsOf e) cells] ∧ n ≤ maxLen ∧ cells.length = n * P.cellsOf e ∧ ∀ i, i < n → Sh P e ((cells.drop (i * P.cellsOf e)).take (P.cellsOf e)) := by
  cases h with
  | nils _ e hu => exact .inl rfl
  | sl _ e' n cells hu _ _ hn hl hc =>
    rw [ht] at hu
    cases hu
    exact .inr ⟨n, cells, rfl, hn, hl, hc⟩
  | int _ k n hu => rw [ht] at hu; cases hu
  | other _ vs hk => rw [ht] at hk; cases hk
  | str _ l hu => rw [ht] at hu; cases hu
  | bool _ b hu => rw [ht] at hu; cases hu
  | struct _ fs as hu => rw [ht] at hu; cases hu
theorem Sh.struct_inv {t : TypeId} {fs : Array Field} {as : List AV} (h : Sh P t as) (ht : P.underlying t = some (.struct fs)) : as.length = P.cellsOf t ∧ ∀ f ∈ fs.toList, Sh P f.type ((as.drop f.offset).take (P.cellsOf f.type)) := by
  cases h with
  | struct _ fs' as hu _ _ hl hc =>
    rw [ht] at hu
    cases hu
    exact ⟨hl, hc⟩
  | nils _ e hu => rw [ht] at hu; cases hu
  | sl _ e n cells hu => rw [ht] at hu; cases hu
  | int _ k n hu => rw [ht] at hu; cases hu
  | other _ vs hk => rw [ht] at hk; cases hk
  | str _ l hu => rw [ht] at hu; cases hu
  | bool _ b hu => rw [ht] at hu; cases hu
theorem Shs.cons_inv {t : TypeId} {ts : List TypeId} {as : List AV} (h : Shs P (t :: ts) as) : ∃ cells rest, as = argOf P t cells :: rest ∧ Sh P t cells ∧ Shs P ts rest := by
  cases h with
  | cons _ cells _ rest h1 h2 => exact ⟨cells, rest, rfl, h1, h2⟩
theorem Shs.nil_inv {as : List AV} (h : Shs P [] as) : as = [] := by cases h; rfl


/-- A slice of strings, as it was read. -/
def Names (a : AV) (l : List (List UInt8)) : Prop := (a = .cst (.slice none 0 0) ∧ l = []) ∨ a = .sl false l.length 1 (l.map .str)
theorem singles {e : TypeId} (he : P.underlying e = some .string) (hc : P.cellsOf e = 1) : ∀ (n : Nat) (cells : List AV), cells.length = n → (∀ i, i < n → Sh P e ((cells.drop i).take 1)) → ∃ l : List (List UInt8), cells = l.map .str ∧ ∀ s ∈ l, s.length ≤ maxLen
  | 0, cells, hl, _ => ⟨[], List.eq_nil_of_length_eq_zero hl, fun _ h => nomatch h⟩
  | n + 1, a :: cells, hl, h => by
    obtain ⟨s, h1, h2⟩ := (h 0 (by omega)).str_inv he
    obtain ⟨l, h3, h4⟩ := singles he hc n cells (by simpa using hl) (fun i hi => by simpa using h (i + 1) (by omega))
    simp at h1
    subst h1 h3
    exact ⟨s :: l, rfl, fun x hx => by rcases List.mem_cons.1 hx with rfl | hx; exact h2; exact h4 x hx⟩
theorem Sh.names {t e : TypeId} {as : List AV} (h : Sh P t as) (ht : P.underlying t = some (.slice e)) (he : P.underlying e = some .string) (hc : P.cellsOf e = 1) : ∃ a l, as = [a] ∧ Names a l ∧ l.length ≤ maxLen ∧ ∀ s ∈ l, s.length ≤ maxLen := by
  rcases h.slice_inv ht with rfl | ⟨n, cells, rfl, h1, h2, h3⟩
  · exact ⟨_, [], rfl, .inl ⟨rfl, rfl⟩, Nat.zero_le _, fun _ h => nomatch h⟩
  · rw [hc] at h2 h3 ⊢
    simp only [Nat.mul_one] at h2 h3
    obtain ⟨l, rfl, h4⟩ := singles he hc n cells h2 h3
    simp at h2
    subst h2
    exact ⟨_, l, rfl, .inr rfl, h1, h4⟩
end
theorem Names.closed {a : AV} {l : List (List UInt8)} (h : Names a l) : a.closed = true := by
  rcases h with ⟨rfl, _⟩ | rfl
  · rfl
  · simp only [AV.closed]
    induction l with
    | nil => rfl
    | cons s l ih => simp [closedL, AV.closed, ih]
theorem Names.cell {a : AV} {l : List (List UInt8)} (h : Names a l) : a.isCell = true := by
  rcases h with ⟨rfl, _⟩ | rfl <;> rfl
end Go.Eng
namespace Go.Eng
open Go
section
variable {P : Program}
/-- A slice of bytes, as it was read. -/
def Bytes (a : AV) (l : List UInt8) : Prop := (a = .cst (.slice none 0 0) ∧ l = []) ∨ a = .sl false l.length 1 (bcells l)
theorem singles8 {e : TypeId} (he : P.underlying e = some (.int .u8)) : ∀ (n : Nat) (cells : List AV), cells.length = n → (∀ i, i < n → Sh P e ((cells.drop i).take 1)) → ∃ l : List UInt8, cells = bcells l
  | 0, cells, hl, _ => ⟨[], List.eq_nil_of_length_eq_zero hl⟩
  | n + 1, a :: cells, hl, h => by
    obtain ⟨b, h1, h2, h3⟩ := (h 0 (by omega)).int_inv he
    obtain ⟨l, h4⟩ := singles8 he n cells (by simpa using hl) (fun i hi => by simpa using h (i + 1) (by omega))
    simp at h1
    subst h1 h4
    have hb : 0 ≤ b ∧ b ≤ 255 := ⟨h2, h3⟩
    refine ⟨UInt8.ofNat b.toNat :: l, ?_⟩
    have e : ((UInt8.ofNat b.toNat).toNat : Int) = b := by
      have h : b.toNat < 256 := by omega
      have h2 : (UInt8.ofNat b.toNat).toNat = b.toNat := by
        show b.toNat % 256 = b.toNat
        omega
      rw [h2]
      omega
    exact congrArg (fun x => AV.int .u8 x :: bcells l) e.symm
theorem Sh.bytes {t e : TypeId} {as : List AV} (h : Sh P t as) (ht : P.underlying t = some (.slice e)) (he : P.underlying e = some (.int .u8)) (hc : P.cellsOf e = 1) : ∃ a l, as = [a] ∧ Bytes a l ∧ l.length ≤ maxLen := by
  rcases h.slice_inv ht with rfl | ⟨n, cells, rfl, h1, h2, h3⟩
  · exact ⟨_, [], rfl, .inl ⟨rfl, rfl⟩, Nat.zero_le _⟩
  · rw [hc] at h2 h3 ⊢
    simp only [Nat.mul_one] at h2 h3
    obtain ⟨l, rfl⟩ := singles8 he n cells h2 h3
    rw [bcells_len] at h2
    subst h2
    exact ⟨_, l, rfl, .inr rfl, h1⟩
end
theorem bcells_closed : ∀ l : List UInt8, closedL (bcells l) = true
  | [] => rfl
  | b :: l => by
    have := bcells_closed l
    simp only [bcells] at this
    simp [bcells, closedL, AV.closed, this]
theorem Bytes.closed {a : AV} {l : List UInt8} (h : Bytes a l) : a.closed = true := by
  rcases h with ⟨rfl, _⟩ | rfl
  · rfl
  · simp only [AV.closed]; exact bcells_closed l
theorem Bytes.cell {a : AV} {l : List UInt8} (h : Bytes a l) : a.isCell = true := by
  rcases h with ⟨rfl, _⟩ | rfl <;> rfl
end Go.Eng

namespace Go.Eng
open Go Go.Extern

def pIdx (args : List AV) (H : Heap) : Option (AV × Heap) := match args with
  | [.str s, .int .u8 c] => some (.int .i64 (Lib.indexByte s (UInt8.ofNat c.toNat)), H)
  | _ => none
def pCnt (args : List AV) (H : Heap) : Option (AV × Heap) := match args with
  | [.str s, .int .u8 c] => some (.int .i64 (s.count (UInt8.ofNat c.toNat)), H)
  | _ => none
def pSame (args : List AV) (H : Heap) : Option (AV × Heap) := match args with
  | [.ptr i o g] => some (.ptr i o g, H)
  | _ => none
section
variable {P : Program} {T : Tab} {f : FuncId}
theorem pIdx_ok (he : Ent P f BytealgIndexByte.indexByte) : PrimOK P T f pIdx := by
  intro args H r H' hp c hc hA args' ha
  subst hA
  unfold pIdx at hp
  split at hp
  · rename_i s n
    cases hp
    obtain ⟨y, z, rfl, hy, hz⟩ := args2 ha
    cases hy
    cases hz
    refine he.does (.same hc.wr (y := .int .i64 (Lib.indexByte s (UInt8.ofNat n.toNat))) ?_ (.int _ _))
    rw [run_indexByte_string, Lib.firstIdx_eq]
  · cases hp
theorem pCnt_ok (he : Ent P f BytealgCount.count) : PrimOK P T f pCnt := by
  intro args H r H' hp c hc hA args' ha
  subst hA
  unfold pCnt at hp
  split at hp
  · rename_i s n
    cases hp
    obtain ⟨y, z, rfl, hy, hz⟩ := args2 ha
    cases hy
    cases hz
    refine he.does (.same hc.wr (y := .int .i64 (s.count (UInt8.ofNat n.toNat))) ?_ (.int _ _))
    rw [Lib.run_countString]
    rfl
  · cases hp
theorem pSame_ok (he : Ent P f AbiNoEscape.same) : PrimOK P T f pSame := by
  intro args H r H' hp c hc hA args' ha
  subst hA
  unfold pSame at hp
  split at hp
  · cases hp
    obtain ⟨y, rfl, hy⟩ := args1 ha
    exact he.does (.same hc.wr (y := y) rfl hy)
  · cases hp
end
def pMkn (t : Nat) (args : List AV) (H : Heap) : Option (AV × Heap) := match args with
  | [.int .i64 n] => if 0 ≤ n ∧ n ≤ (LIM : Int) then some (.ms H.length 0 n.toNat 1 0, hnewK H (.typ t) (reps n.toNat [.unk])) else none
  | _ => none
section
variable {P : Program} {T : Tab} {f : FuncId}
theorem pMkn_ok {ps : Array TypeId} {t s : TypeId} (hs : P.underlying s = some (.slice t)) (he : Ent P f (BytealgMakeNoZero.makeNoZero ps #[s])) : PrimOK P T f (pMkn t) := by
  intro args H r H' hp c hc hA args' ha
  subst hA
  unfold pMkn at hp
  split at hp
  · rename_i n
    split at hp
    · rename_i hn
      cases hp
      obtain ⟨y, rfl, hy⟩ := args1 ha
      cases hy
      obtain ⟨m, rfl⟩ : ∃ m : Nat, n = m := ⟨n.toNat, by omega⟩
      obtain ⟨cs, hrun, hle, _⟩ := Lib.run_makeNoZero (P := P) c.w ps s t hs m (by have := hn.2; unfold LIM at this; omega)
      simp only [Int.toNat_natCast]
      have hnew := newT_ok hc.wr hc.fr (kd := .typ t) (cs := reps m [.unk]) (vs := cs) (t := t) (fr := (0, 0)) (w' := c.w.drew.drew.alloc (.cells cs t)) (.inr rfl) rfl rfl rfl (fun k _ => by simp) (Nat.le_refl _) (fun k a hk => by
        have hk' := (List.getElem?_eq_some_iff.1 hk).1
        simp only [reps_len, List.length_singleton, Nat.mul_one] at hk'
        rw [reps_get _ _ _ (by simpa using hk')] at hk
        simp only [List.length_singleton, Nat.mod_one, List.getElem?_cons_zero, Option.some.injEq] at hk
        subst hk
        exact ⟨cs[k], Array.getElem?_eq_getElem (by omega), .unk _⟩)
      refine he.does ⟨_, c.newK (.typ t) (reps m [.unk]) (c.w.drew.drew.alloc (.cells cs t)), hrun, hnew.1, hnew.2, rfl, ?_⟩
      refine .ms _ _ _ _ _ ⟨reps m [.unk], 0, true, .typ t⟩ _ _ (hnewK_new _ _ _) (Nat.le_refl _) hle rfl (fun _ _ => by simp [Cx.at, Cx.newK]) (fun _ _ k hk => ?_)
      have hb : (c.w.drew.drew.alloc (.cells cs t)).heap[c.w.heap.size]? = some (.cells cs t) := by
        show (c.w.heap.push (Obj.cells cs t))[c.w.heap.size]? = _
        simp
      simp only [Cx.at, Cx.newK, if_true, World.cell?, hb, Nat.zero_add, Option.isSome_none, Bool.false_eq_true, if_false]
      rw [Array.getElem?_eq_getElem (by omega)]; rfl
    · cases hp
  · cases hp
end
section
variable {P : Program} {T : Tab} {f : FuncId} {R : RInfo}
theorem pComp_ok (hk : ∀ t b, R.comp t = some b → ∀ w, (ReflectliteType.method (fun t => do Rtype.noPackHeld "Comparable" t; pure (.bool (← typeInfo t).comparable)) #[.agg #[R.hv t]]).run P w = .ok (.bool b) w)
    (he : Ent P f (ReflectliteType.method fun t => do Rtype.noPackHeld "Comparable" t; pure (.bool (← typeInfo t).comparable))) : PrimOK P T f (pComparable R) := by
  intro args H r H' hp c hc hA args' ha
  subst hA
  unfold pComparable at hp
  split at hp
  · rename_i H0 h0
    obtain ⟨y, rfl, hy⟩ := args1 ha
    split at hp
    · rename_i t ht
      obtain rfl := ty_inv ht hy
      split at hp
      · rename_i b hb
        cases hp
        exact he.does (.same hc.wr (y := .bool b) (hk t b hb _) (.bool b))
      · cases hp
    · cases hp
  · cases hp
end
end Go.Eng
