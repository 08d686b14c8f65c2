/- More equations of the abstract interpreter, and loops. No condition. -/
import Derived.Test.YtfpknphncaopkaaDoorEn2
namespace Go.Eng
open Go

theorem X_if {T c a b e H} : X T (.cond c a b) e H = match ev T e c with
    | .bool t => bif t then X T a e H else X T b e H
    | _ => none := by
  cases h : ev T e c with
  | bool t => exact X_cond h
  | _ =>
    apply ext_some; intro r
    rw [X_some]
    constructor
    · rintro ⟨n, hn⟩; unfold exec at hn; rw [h] at hn; cases hn
    · intro hn; cases hn

/-- A body's answer out of its code's. -/
theorem B_eq {T c res args H} : B T c res args H = match X T c (argEnv 0 args) H with
    | some (.normal, e, H') => (mapO (resOf e H') res).map fun vs => (results1 vs, H')
    | some (.ret, e, H') => (mapO (resOf e H') res).map fun vs => (results1 vs, H')
    | _ => none := by
  apply ext_some; intro r
  rw [B_some]
  constructor
  · rintro ⟨n, hn⟩
    unfold runBody at hn
    cases he : exec T (acall T n) n c (argEnv 0 args) H with
    | none => rw [he] at hn; cases hn
    | some p => rw [he] at hn; rw [X_up he]; exact hn
  · intro h
    cases hx : X T c (argEnv 0 args) H with
    | none => rw [hx] at h; cases h
    | some p =>
      rw [hx] at h
      obtain ⟨n, hn⟩ := X_some.1 hx
      refine ⟨n, ?_⟩
      unfold runBody
      rw [hn]
      exact h

/-! ### snapshots of plain values -/
theorem snap_bool (k : Nat) (H : Heap) (b : Bool) : snap (k + 1) H (.bool b) = some (.bool b, H) := rfl
theorem snap_int (k : Nat) (H : Heap) (t : IntKind) (n : Int) : snap (k + 1) H (.int t n) = some (.int t n, H) := rfl
theorem snap_str (k : Nat) (H : Heap) (l : List UInt8) : snap (k + 1) H (.str l) = some (.str l, H) := rfl
theorem snap_cst (k : Nat) (H : Heap) (v : Value) : snap (k + 1) H (.cst v) = some (.cst v, H) := rfl
theorem snap_tup (k : Nat) (H : Heap) (cs : List AV) : snap (k + 1) H (.tup cs) = (match mapS (snap k) H cs with | some (cs', H') => some (.tup cs', H') | none => none) := rfl
theorem snap_agg (k : Nat) (H : Heap) (cs : List AV) : snap (k + 1) H (.agg cs) = (match mapS (snap k) H cs with | some (cs', H') => some (.agg cs', H') | none => none) := rfl
theorem snap_iface (k : Nat) (H : Heap) (t : TypeId) (x : AV) : snap (k + 1) H (.iface t x) = (match snap k H x with | some (x', H') => some (.iface t x', H') | none => none) := rfl
theorem mapS_nil (f : Heap → AV → Option (AV × Heap)) (H : Heap) : mapS f H [] = some ([], H) := rfl
theorem mapS_cons (f : Heap → AV → Option (AV × Heap)) (H : Heap) (a : AV) (as : List AV) : mapS f H (a :: as) = (match f H a with
    | some (a', H') => match mapS f H' as with
      | some (as', H'') => some (a' :: as', H'')
      | none => none
    | none => none) := rfl

/-- A bytewise fact out of one closed look at 256 cases. -/
def isB (r : Option (AV × Heap)) (b : Bool) : Bool := match r with
  | some (.bool c, []) => c == b
  | _ => false
theorem of_isB {r : Option (AV × Heap)} {b : Bool} (h : isB r b = true) : r = some (.bool b, []) := by
  unfold isB at h
  split at h
  · rw [eq_of_beq h]
  · cases h
def isI (r : Option (AV × Heap)) (n : Int) : Bool := match r with
  | some (.int .i64 m, []) => m == n
  | _ => false
theorem of_isI {r : Option (AV × Heap)} {n : Int} (h : isI r n = true) : r = some (.int .i64 n, []) := by
  unfold isI at h
  split at h
  · rw [eq_of_beq h]
  · cases h
def isIB (r : Option (AV × Heap)) (n : Int) (b : Bool) : Bool := match r with
  | some (.tup [.int .i64 m, .bool c], []) => m == n && c == b
  | _ => false
theorem of_isIB {r : Option (AV × Heap)} {n : Int} {b : Bool} (h : isIB r n b = true) : r = some (.tup [.int .i64 n, .bool b], []) := by
  unfold isIB at h
  split at h
  · simp only [Bool.and_eq_true, beq_iff_eq] at h; rw [h.1, h.2]
  · cases h
theorem all256 {p : Nat → Bool} (h : (List.range 256).all p = true) (c : UInt8) : p c.toNat = true := by
  rw [List.all_eq_true] at h
  exact h _ (List.mem_range.2 c.toNat_lt)

/-! ### bytes that are appended one by one -/
def outV (l : List UInt8) : AV := match l with
  | [] => .cst (.slice none 0 0)
  | _ :: _ => .ms 0 0 l.length 1 (l.length - 1)
def outH (l : List UInt8) : Heap := match l with
  | [] => []
  | _ :: _ => [⟨bcells l, l.length - 1, true⟩]
theorem bcells_len (l : List UInt8) : (bcells l).length = l.length := by simp [bcells]
theorem bcells_app (l m : List UInt8) : bcells (l ++ m) = bcells l ++ bcells m := by simp [bcells]
theorem append_out (l : List UInt8) (b : UInt8) (h : (l.length + 1) * 2 ≤ LIM) : aappend (outH l) 1 1 (outV l) 1 [.int .u8 b.toNat] = some (outV (l ++ [b]), outH (l ++ [b])) := by
  cases l with
  | nil =>
    unfold aappend outH outV
    simp [AV.isCell, hnew, bcells, LIM]
  | cons a r =>
    have h' : (r.length + 1 + 1) * 2 ≤ LIM := by simpa using h
    have ht : List.take (r.length + 1) (bcells (a :: r)) = bcells (a :: r) := List.take_of_length_le (by simp [bcells])
    unfold aappend
    simp [outH, outV, AV.isCell, h', bcells_len, ht]
    simp [bcells]
theorem view_out (l : List UInt8) : viewOf (outH l) 1 (outV l) = some (l.length, bcells l) := by
  cases l with
  | nil => simp [viewOf, outV, bcells]
  | cons a r =>
    have ht : List.take (r.length + 1) (bcells (a :: r)) = bcells (a :: r) := List.take_of_length_le (by simp [bcells])
    simp [viewOf, outH, outV, hget, bcells_len, ht]
theorem bytesOf_bcells : ∀ l : List UInt8, bytesOf (bcells l) = some l
  | [] => rfl
  | b :: r => by
    have := bytesOf_bcells r
    simp only [bcells] at this
    simp [bcells, bytesOf, this]

/-! ### one row of bytes that is written in place -/
theorem hget_b (A : List UInt8) (i g : Nat) (h : i < A.length) : hget [⟨bcells A, g, true⟩] 0 i 1 g = some [.int .u8 (A[i].toNat : Nat)] := by
  have : List.take 1 (List.drop i (bcells A)) = [.int .u8 (A[i].toNat : Nat)] := by
    rw [bcells, List.drop_eq_getElem_cons (by simpa using h)]; simp
  simp [hget, bcells_len, this]; omega
theorem hset_b (A : List UInt8) (i g : Nat) (b : UInt8) (h : i < A.length) : hset [⟨bcells A, g, true⟩] 0 i g [.int .u8 (b.toNat : Nat)] = some [⟨bcells (A.set i b), g, true⟩] := by
  have : splice (bcells A) i [.int .u8 (b.toNat : Nat)] = bcells (A.set i b) := by
    rw [List.set_eq_take_append_cons_drop, if_pos h]; simp [splice, bcells]
  simp [hset, bcells_len, this]; omega

/-! ### a pure function's equation holds in every heap -/
def AV.plain : AV → Bool
  | .bool _ | .int _ _ | .str _ | .cst _ => true
  | .sl .. => true
  | _ => false
theorem snap_plain (k : Nat) (H : Heap) (v : AV) (h : v.plain = true) : snap (k + 1) H v = (snap (k + 1) [] v).map fun p => (p.1, H) := by
  cases v <;> first | rfl | (simp [AV.plain] at h; done) | skip
  rename_i full n e cs
  cases h2 : closedL cs <;> simp [snap, h2]
theorem mapS_plain (k : Nat) : ∀ (args : List AV) (H : Heap), args.all AV.plain = true → mapS (snap (k + 1)) H args = (mapS (snap (k + 1)) [] args).map fun p => (p.1, H)
  | [], H, h => rfl
  | a :: as, H, h => by
    simp only [List.all_cons, Bool.and_eq_true] at h
    rw [mapS_cons, mapS_cons, snap_plain k H a h.1]
    cases ha : snap (k + 1) [] a with
    | none => rfl
    | some p =>
      obtain ⟨a', H1⟩ := p
      have h1 : H1 = [] := by
        have := snap_plain k [] a h.1
        rw [ha] at this
        simp at this
        exact this
      subst h1
      simp only [Option.map_some]
      rw [mapS_plain k as H h.2]
      cases mapS (snap (k + 1)) [] as <;> rfl
theorem pure_any {T : Tab} {f : FuncId} {c : ACode} {res : List ResV} (hf : T.fn f = some (.code true c res)) {args : List AV} (ha : args.all AV.plain = true) {r : AV} (h : C T f args [] = some (r, [])) (H : Heap) : C T f args H = some (r, H) := by
  rw [C_pure hf] at h ⊢
  rw [mapS_plain 11 args H ha]
  cases hm : mapS (snap 12) [] args with
  | none => rw [hm] at h; cases h
  | some p =>
    obtain ⟨a', H1⟩ := p
    rw [hm] at h
    simp only [Option.map_some]
    simp only at h
    revert h
    cases B T c res a' [] with
    | none => intro h; cases h
    | some q =>
      obtain ⟨r1, H2⟩ := q
      simp only
      cases snap 12 H2 r1 with
      | none => intro h; cases h
      | some z => intro h; simp at h; simp [h.1]
end Go.Eng
