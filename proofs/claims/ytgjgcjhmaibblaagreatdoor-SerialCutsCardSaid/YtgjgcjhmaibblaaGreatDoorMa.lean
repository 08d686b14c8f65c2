/- Right responses: the code's. The reader of lines, on a heap. The lines that bytes begin with. No condition. -/
import Derived.Test.YtgjgcjhmaibblaaGreatDoorM9
namespace Go.Eng.S
open Go Go.Eng
set_option linter.unusedSectionVars false
variable [Sit]
set_option maxRecDepth 20000
theorem trim_ok (s : List UInt8) (hs : s.length < 1000000000) (H : Heap) : C T 26 [.str s] H = some (.str (trimR (trimL s)), H) := by
  refine anyH fd26 rfl rfl ?_ H
  rw [q26]
  obtain ⟨e1, h1, h2⟩ := trimL_loop s hs
  have hl := trimL_len s
  obtain ⟨e2, h3, h4⟩ := trimR_loop _ (trimL s) rfl (by omega)
  simp [d26, h1, h2, h3, h4]
def fldB (f : Fld) : Bool := isTok f.1 && f.2.all (clsB 5) && (trimR (trimL f.2) == f.2)
def fldsB (l : List Fld) : Bool := l.all fldB
structure Small (l : List Fld) : Prop where
  len : l.length < 100000000
  str : ∀ f ∈ l, f.1.length < 1000000000 ∧ f.2.length < 1000000000
theorem FV.nil {l : List Fld} (h : FV nls l) : l = [] := by
  rcases h with ⟨h, _⟩ | h
  · exact h
  · cases h
theorem right_rnd (row : AObj) (_fs : AV) (l : List Fld) (hl : Small l) (br : Bool) (i : Nat) (hlt : i < l.length) (H : Heap) (_h0 : H[0]? = some row) (lp : Env → Heap → XR) :
    ∃ e', seqK (X T L11_0 [(1, .bool br), (2, .ptr 0 0 0), (10, .sl false l.length 2 (fcells l)), (11, .int .i64 l.length), (12, .int .i64 i)] H) (fun e' H' => lp (Env.keep [1, 2, 10, 11, 12] e') H') =
      (if fldB l[i] = true then lp [(1, .bool br), (2, .ptr 0 0 0), (10, .sl false l.length 2 (fcells l)), (11, .int .i64 l.length), (12, .int .i64 ((i : Int) + 1))] (H ++ [⟨[.str l[i].1, .str l[i].2], 0, true, .no⟩]) else some (.ret, e', H ++ [⟨[.str l[i].1, .str l[i].2], 0, true, .no⟩])) ∧ e'.get 4 = .bool false := by
  have hltI : (i : Int) < (l.length : Int) := by omega
  have hfd := fc_drop l i hlt
  obtain ⟨hal, hbl⟩ := hl.str l[i] (List.getElem_mem hlt)
  have hll := hl.len
  have hix : ix l.length (.int .i64 (i : Int)) = some i := by simp only [ix]; rw [if_pos ⟨by omega, hltI⟩]; simp
  have hw : IntKind.i64.wrap ((i : Int) + 1) = (i : Int) + 1 := wr64 (by omega) (by omega)
  generalize l[i] = f at *
  obtain ⟨a, b⟩ := f
  simp only at hal hbl hfd ⊢
  have hst : hset (H ++ [⟨[.str [], .str []], 0, true, .no⟩]) H.length 0 0 [.str a, .str b] = some (H ++ [⟨[.str a, .str b], 0, true, .no⟩]) := by
    rw [hset_at (cs := [.str [], .str []]) (kd := .no) (by simp)]
    simp [splice]
  have hg : ∀ off, hget (H ++ [⟨[.str a, .str b], 0, true, .no⟩]) H.length off 1 0 = if off + 1 ≤ 2 then some ((([.str a, .str b] : List AV).drop off).take 1) else none := by
    intro off
    rw [hget_at (cs := [.str a, .str b]) (l := true) (kd := .no) (by simp)]
    rfl
  have c1 := istok_ok a hal
  have c2 := all_ok (fun c => field_ok c []) b hbl
  have c3 := trim_ok b hbl
  unfold fldB
  simp only
  cases h1 : isTok a with
  | false =>
    rw [h1] at c1
    simp [L11_0, hltI, hix, hfd, hst, hg, c1, hnew]
  | true =>
    rw [h1] at c1
    cases h2 : b.all (clsB 5) with
    | false =>
      rw [h2] at c2
      simp [L11_0, hltI, hix, hfd, hst, hg, c1, c2, hnew]
    | true =>
      rw [h2] at c2
      by_cases h3 : trimR (trimL b) = b
      · rw [h3] at c3
        simp [L11_0, hltI, hix, hfd, hst, hg, c1, c2, c3, h3, hw, hnew]
        exact ⟨[(4, .bool false)], rfl⟩
      · have h3' : (trimR (trimL b) == b) = false := by simpa using h3
        simp [L11_0, hltI, hix, hfd, hst, hg, c1, c2, c3, h3', hnew]
theorem right_loop (row : AObj) (fs : AV) (l : List Fld) (hl : Small l) (br : Bool) : ∀ (k i : Nat) (H : Heap), i + k = l.length → H[0]? = some row →
    ∃ e' H', XL T [1, 2, 10, 11, 12] L11_0 [(1, .bool br), (2, .ptr 0 0 0), (10, .sl false l.length 2 (fcells l)), (11, .int .i64 l.length), (12, .int .i64 i)] H = some (if fldsB (l.drop i) = true then .exit 0 else .ret, e', H') ∧ H'[0]? = some row ∧ (fldsB (l.drop i) = true → e'.get 1 = .bool br ∧ e'.get 2 = .ptr 0 0 0) ∧ (fldsB (l.drop i) = false → e'.get 4 = .bool false)
  | 0, i, H, hk, h0 => by
    have hd : l.drop i = [] := List.drop_eq_nil_of_le (by omega)
    have hlt : ¬ (i : Int) < (l.length : Int) := by omega
    have hx : ∃ e', XL T [1, 2, 10, 11, 12] L11_0 [(1, .bool br), (2, .ptr 0 0 0), (10, .sl false l.length 2 (fcells l)), (11, .int .i64 l.length), (12, .int .i64 i)] H = some (.exit 0, e', H) ∧ e'.get 1 = .bool br ∧ e'.get 2 = .ptr 0 0 0 := by
      rw [XL_eq]
      simp [L11_0, hlt]
    obtain ⟨e', x1, x2, x3⟩ := hx
    rw [hd]
    exact ⟨e', H, x1, h0, fun _ => ⟨x2, x3⟩, fun h => by cases h⟩
  | k + 1, i, H, hk, h0 => by
    have hlt : i < l.length := by omega
    have hd : l.drop i = l[i] :: l.drop (i + 1) := List.drop_eq_getElem_cons hlt
    obtain ⟨e1, x1, x2⟩ := right_rnd row fs l hl br i hlt H h0 (XL T [1, 2, 10, 11, 12] L11_0)
    have hcons : fldsB (l.drop i) = (fldB l[i] && fldsB (l.drop (i + 1))) := by rw [hd]; rfl
    rw [XL_eq, hcons]
    have hk1 : Env.keep [1, 2, 10, 11, 12] [(1, .bool br), (2, .ptr 0 0 0), (10, .sl false l.length 2 (fcells l)), (11, .int .i64 l.length), (12, .int .i64 i)] = [(1, .bool br), (2, .ptr 0 0 0), (10, .sl false l.length 2 (fcells l)), (11, .int .i64 l.length), (12, .int .i64 i)] := by simp
    rw [hk1, x1]
    cases hf : fldB l[i] with
    | false =>
      exact ⟨e1, _, rfl, app_get h0, fun h => (by simp at h), fun _ => x2⟩
    | true =>
      obtain ⟨e', H', y1, y2, y3, y5⟩ := right_loop row fs l hl br k (i + 1) (H ++ [⟨[.str l[i].1, .str l[i].2], 0, true, .no⟩]) (by omega) (app_get h0)
      push_cast at y1
      exact ⟨e', H', by simpa using y1, y2, by simpa using y3, by simpa using y5⟩
def stB (st : Int) : Bool := decide (100 ≤ st) && decide (st ≤ 999)
def rightB (st : Int) (l : List Fld) (b : Seg) (br : Bool) : Bool := fldsB l && (lenB l && (if br = true then b.isEmpty else lenN l == b.length) && stB st)
theorem bv_view {a : AV} {b : Seg} (h : BV a b) (H : Heap) : viewOf H 1 a = some (b.length, bcells b) := by
  rcases h with ⟨rfl, rfl⟩ | rfl
  · rfl
  · simp [viewOf]
theorem bv_isEmpty (b : Seg) : ((b.length : Int) == 0) = b.isEmpty := by
  cases b with
  | nil => rfl
  | cons a r => simp; omega
theorem fv_view {a : AV} {l : List Fld} (h : FV a l) (H : Heap) : viewOf H 2 a = some (l.length, fcells l) := by
  rcases h with ⟨rfl, rfl⟩ | rfl
  · rfl
  · simp [viewOf]
theorem right_all (row : AObj) (fs : AV) (l : List Fld) (hf : FV fs l) (hl : Small l) (br : Bool) (H : Heap) (h0 : H[0]? = some row) :
    ∃ e' H', XL T [1, 2, 10, 11, 12] L11_0 [(1, .bool br), (2, .ptr 0 0 0), (10, fs), (11, .int .i64 l.length), (12, .int .i64 0)] H = some (if fldsB l = true then .exit 0 else .ret, e', H') ∧ H'[0]? = some row ∧ (fldsB l = true → e'.get 1 = .bool br ∧ e'.get 2 = .ptr 0 0 0) ∧ (fldsB l = false → e'.get 4 = .bool false) := by
  rcases hf with ⟨rfl, rfl⟩ | rfl
  · have hx : ∃ e', XL T [1, 2, 10, 11, 12] L11_0 [(1, .bool br), (2, .ptr 0 0 0), (10, nls), (11, .int .i64 0), (12, .int .i64 0)] H = some (.exit 0, e', H) ∧ e'.get 1 = .bool br ∧ e'.get 2 = .ptr 0 0 0 := by
      rw [XL_eq]
      simp [L11_0]
    obtain ⟨e', x1, x2, x3⟩ := hx
    exact ⟨e', H, x1, h0, fun _ => ⟨x2, x3⟩, fun h => by cases h⟩
  · exact right_loop row (.sl false l.length 2 (fcells l)) l hl br l.length 0 H (by omega) h0
set_option maxHeartbeats 2000000 in
theorem right_ok (st : Int) (fs bd : AV) (l : List Fld) (b : Seg) (hf : FV fs l) (hb : BV bd b) (hl : Small l) (hbl : b.length < 4611686018427387904) (br : Bool) (H : Heap) :
    C T 11 [.agg [.int .i64 st, fs, bd], .bool br] H = some (.bool (rightB st l b br), H) := by
  refine anyH fd11 rfl (by simp [closedL, AV.closed, hf.closed, hb.closed]) ?_ H
  rw [q11]
  obtain ⟨e', H', x1, x2, x3, x4⟩ := right_all (rowR st fs bd) fs l hf hl br [rowR st fs bd] rfl
  have hs1 := hf.snap 62 []
  have hs2 := hb.snap 62 []
  have hv := hf.len
  have hln := length_ok fs l hf hl.len hl.str
  have hbv := hb.len
  have hc1 := hf.cell
  have hc2 := hb.cell
  have hg : ∀ off, hget H' 0 off 1 0 = if off + 1 ≤ 3 then some ((([.int .i64 st, fs, bd] : List AV).drop off).take 1) else none := by
    intro off
    rw [hget_at x2]
    rfl
  have hbe := bv_isEmpty b
  have hg0 : hget [rowR st fs bd] 0 1 1 0 = some [fs] := rfl
  have hnn : IntKind.i64.wrap (b.length : Int) = b.length := wr64 (by omega) (by omega)
  unfold rightB
  cases h1 : fldsB l with
  | false =>
    rw [h1] at x1
    simp only [Bool.false_eq_true, if_false] at x1
    simp [d11, hs1, hs2, hc1, hc2, hv, hg0, x1, x4 h1]
  | true =>
    rw [h1] at x1
    simp only [if_true] at x1
    obtain ⟨g1, g2⟩ := x3 h1
    unfold stB
    cases h2 : lenB l with
    | false =>
      rw [h2] at hln
      cases br <;> simp [d11, hs1, hs2, hc1, hc2, hv, hg0, x1, g1, g2, hg, hln]
    | true =>
      rw [h2] at hln
      cases br with
      | true =>
        cases h3 : b.isEmpty with
        | false =>
          rw [h3] at hbe
          simp [d11, hs1, hs2, hc1, hc2, hv, hg0, x1, g1, g2, hg, hln, hbv, hbe]
        | true =>
          rw [h3] at hbe
          by_cases h4 : 100 ≤ st <;> by_cases h5 : st ≤ 999 <;> simp [d11, hs1, hs2, hc1, hc2, hv, hg0, x1, g1, g2, hg, hln, hbv, hbe, h4, h5]
      | false =>
        cases h3 : lenN l == b.length with
        | false => simp [d11, hs1, hs2, hc1, hc2, hv, hg0, x1, g1, g2, hg, hln, hbv, h3]
        | true => by_cases h4 : 100 ≤ st <;> by_cases h5 : st ≤ 999 <;> simp [d11, hs1, hs2, hc1, hc2, hv, hg0, x1, g1, g2, hg, hln, hbv, h3, h4, h5]
end Go.Eng.S
namespace Go.Eng.S
open Go Go.Eng
set_option linter.unusedSectionVars false
variable [Sit]
set_option maxRecDepth 20000
structure Rd where
  buf : List UInt8
  line : List UInt8
  cr : Bool
  op : Bool
  st : Nat
def Rd.put (most : Nat) (r : Rd) (c : UInt8) : Rd := if r.st = 2 ∨ r.st = 3 then r else
  if r.cr = true ∧ c = 10 then ⟨[], r.buf, false, false, 1⟩
  else if r.cr = true ∨ c = 10 then { r with op := true, st := 2 }
  else if c = 13 then { r with op := true, cr := true, st := 0 }
  else if r.buf.length = most then { r with op := true, st := 3 }
  else { r with op := true, buf := r.buf ++ [c], st := 0 }

def rowOf : AV → Option Nat
  | .ms k _ _ _ _ => some k
  | _ => none
/-- A slice of bytes that is appended to: nil, or all of its row. -/
def Own (H : Heap) (v : AV) (s : List UInt8) : Prop := (s = [] ∧ v = .cst (.slice none 0 0)) ∨ ∃ k g, v = .ms k 0 s.length 1 g ∧ 0 < s.length ∧ H[k]? = some ⟨bcells s, g, true, .no⟩
theorem Own.mono {H H' : Heap} {v : AV} {s : List UInt8} (h : Own H v s) (hf : ∀ k o, rowOf v = some k → H[k]? = some o → H'[k]? = some o) : Own H' v s := by
  rcases h with h | ⟨k, g, rfl, h0, hk⟩
  · exact .inl h
  · exact .inr ⟨k, g, rfl, h0, hf k _ rfl hk⟩
theorem Own.lt {H : Heap} {v : AV} {s : List UInt8} (h : Own H v s) {k : Nat} (hk : rowOf v = some k) : k < H.length := by
  rcases h with ⟨_, rfl⟩ | ⟨k', g, rfl, h0, hr⟩
  · cases hk
  · cases hk
    exact (List.getElem?_eq_some_iff.1 hr).1
theorem Own.cell {H : Heap} {v : AV} {s : List UInt8} (h : Own H v s) : v.isCell = true := by
  rcases h with ⟨_, rfl⟩ | ⟨k', g, rfl, h0, hr⟩ <;> rfl
theorem Own.view {H : Heap} {v : AV} {s : List UInt8} (h : Own H v s) : viewOf H 1 v = some (s.length, bcells s) := by
  rcases h with ⟨rfl, rfl⟩ | ⟨k, g, rfl, h0, hr⟩
  · rfl
  · have ht : List.take s.length (bcells s) = bcells s := List.take_of_length_le (by simp [bcells])
    simp [viewOf, hget, hr, bcells_len, ht]
theorem Own.nstr {H : Heap} {v : AV} {s : List UInt8} (h : Own H v s) (l : List UInt8) : v ≠ .str l := by
  rcases h with ⟨rfl, rfl⟩ | ⟨k, g, rfl, h0, hr⟩ <;> simp
theorem Own.append {H : Heap} {v : AV} {s : List UInt8} (h : Own H v s) (c : UInt8) (hl : s.length < 1000000000) :
    ∃ H' v', aappend .no H 1 1 v 1 [.int .u8 c.toNat] = some (v', H') ∧ Own H' v' (s ++ [c]) ∧ H.length ≤ H'.length ∧ (∀ k o, rowOf v ≠ some k → H[k]? = some o → H'[k]? = some o) ∧ (∀ k, rowOf v' = some k → rowOf v = some k ∨ H.length ≤ k) := by
  rcases h with ⟨rfl, rfl⟩ | ⟨k, g, rfl, h0, hr⟩
  · refine ⟨H ++ [⟨[.int .u8 c.toNat], 0, true, .no⟩], .ms H.length 0 1 1 0, ?_, .inr ⟨_, _, rfl, by simp, by simp [bcells]⟩, by simp, fun k o _ hk => app_get hk, fun k hk => by cases hk; exact .inr (Nat.le_refl _)⟩
    unfold aappend
    simp [LIM, hnew]
  · have hkl := (List.getElem?_eq_some_iff.1 hr).1
    have ht : List.take s.length (bcells s) = bcells s := List.take_of_length_le (by simp [bcells])
    have hlim : (s.length + 1) * 2 ≤ LIM := by unfold LIM; omega
    refine ⟨H.set k ⟨bcells (s ++ [c]), g + 1, true, .no⟩, .ms k 0 (s.length + 1) 1 (g + 1), ?_, .inr ⟨k, g + 1, by simp, by simp, by simp [hkl]⟩, by simp, fun k' o hk' hr' => ?_, fun k' hk' => .inl hk'⟩
    · unfold aappend
      simp [hlim, hr, bcells_len, ht]
      simp [bcells]
    · have : k ≠ k' := fun e => hk' (by rw [e]; rfl)
      rw [List.getElem?_set_ne this, hr']

/-- The cells of a reader. -/
abbrev rdRow (most : Nat) (v : AV) (r : Rd) : AObj := ⟨[.int .i64 most, v, .str r.line, .bool r.cr, .bool r.op, .int .i64 r.st], 0, true, .no⟩
theorem bytesOf_own {H : Heap} {v : AV} {s : List UInt8} (_h : Own H v s) (_l : List UInt8) : bytesOf (bcells s) = some s := bytesOf_bcells s
def nxtP (H : Heap) (j most : Nat) (v : AV) (r r' : Rd) (x : Option (AV × Heap)) : Prop := ∃ H' v', x = some (.int .i64 r'.st, H') ∧ H'[j]? = some (rdRow most v' { r' with st := r.st }) ∧ Own H' v' r'.buf ∧ H.length ≤ H'.length ∧ (∀ k o, k ≠ j → rowOf v ≠ some k → H[k]? = some o → H'[k]? = some o) ∧ (∀ k, rowOf v' = some k → rowOf v = some k ∨ H.length ≤ k)
theorem hget_sa {H : Heap} {j : Nat} {o : AObj} (h : H[j]? = some o) (cs : List AV) (g : Nat) (l : Bool) (off n : Nat) : hget (H.set j ⟨cs, g, l, .no⟩) j off n g = if off + n ≤ cs.length then some ((cs.drop off).take n) else none := hget_at (set_self h) off n
theorem hset_sa {H : Heap} {j : Nat} {o : AObj} (h : H[j]? = some o) (cs : List AV) (g : Nat) (off : Nat) (vs : List AV) : hset (H.set j ⟨cs, g, true, .no⟩) j off g vs = if off + vs.length ≤ cs.length then some (H.set j ⟨splice cs off vs, g, true, .no⟩) else none := by
  rw [hset_at (set_self h), List.set_set]
theorem next_ok (H : Heap) (j most : Nat) (v : AV) (r : Rd) (c : UInt8) (hj : H[j]? = some (rdRow most v r)) (hb : Own H v r.buf) (hvj : rowOf v ≠ some j) (hst : ¬ (r.st = 2 ∨ r.st = 3)) (hop : r.op = true) (hl : r.buf.length < 1000000000) :
    nxtP H j most v r (r.put most c) (C T 85 [.ptr j 0 0, .int .u8 c.toNat] H) := by
  rw [q85]
  have e10 := u8_eqlit c 10 10 rfl
  have e13 := u8_eqlit c 13 13 rfl
  obtain ⟨buf, line, cr, op, st⟩ := r
  simp only at hop hb hst hl
  subst hop
  have hown := hb
  cases cr with
  | true =>
    by_cases h1 : c = 10
    · have e1 : ((c.toNat : Int) == 10) = true := by rw [e10, h1]; rfl
      have hp : Rd.put most ⟨buf, line, true, true, st⟩ c = ⟨[], buf, false, false, 1⟩ := by simp [Rd.put, hst, h1]
      rw [hp]
      refine ⟨H.set j (rdRow most (.cst (.slice none 0 0)) ⟨[], buf, false, false, st⟩), .cst (.slice none 0 0), ?_, by rw [set_self hj], .inl ⟨rfl, rfl⟩, by simp, fun k o hk _ h => set_ne hk h, fun k hk => by cases hk⟩
      rcases hb with ⟨rfl, rfl⟩ | ⟨k, g, rfl, h0, hr⟩
      · simp (disch := omega) [d85, hget_at hj, hset_at hj, hset_sa hj, h1]
      · have ht : List.take buf.length (bcells buf) = bcells buf := List.take_of_length_le (by simp [bcells])
        simp (disch := omega) [d85, hget_at hj, hset_at hj, hset_sa hj, hget_at hr, h1, bytesOf_bcells, bcells_len, ht]
    · have e1 : ((c.toNat : Int) == 10) = false := by rw [e10]; simpa using h1
      have hp : Rd.put most ⟨buf, line, true, true, st⟩ c = ⟨buf, line, true, true, 2⟩ := by simp [Rd.put, hst, h1]
      rw [hp]
      refine ⟨H, v, ?_, hj, hb, Nat.le_refl _, fun k o _ _ h => h, fun k hk => .inl hk⟩
      simp (disch := omega) [d85, hget_at hj, e1]
  | false =>
    by_cases h1 : c = 10
    · have e1 : ((c.toNat : Int) == 10) = true := by rw [e10, h1]; rfl
      have hp : Rd.put most ⟨buf, line, false, true, st⟩ c = ⟨buf, line, false, true, 2⟩ := by simp [Rd.put, hst, h1]
      rw [hp]
      refine ⟨H, v, ?_, hj, hb, Nat.le_refl _, fun k o _ _ h => h, fun k hk => .inl hk⟩
      simp (disch := omega) [d85, hget_at hj, h1]
    · have e1 : ((c.toNat : Int) == 10) = false := by rw [e10]; simpa using h1
      by_cases h2 : c = 13
      · have e2 : ((c.toNat : Int) == 13) = true := by rw [e13, h2]; rfl
        have hp : Rd.put most ⟨buf, line, false, true, st⟩ c = ⟨buf, line, true, true, 0⟩ := by simp [Rd.put, hst, h2]
        rw [hp]
        refine ⟨H.set j (rdRow most v ⟨buf, line, true, true, st⟩), v, ?_, by rw [set_self hj], ?_, by simp, fun k o hk _ h => set_ne hk h, fun k hk => .inl hk⟩
        · simp (disch := omega) [d85, hget_at hj, hset_at hj, h2]
        · exact hb.mono fun k o hk h => set_ne (fun e => hvj (by rw [← e]; exact hk)) h
      · have e2 : ((c.toNat : Int) == 13) = false := by rw [e13]; simpa using h2
        by_cases h3 : buf.length = most
        · have hp : Rd.put most ⟨buf, line, false, true, st⟩ c = ⟨buf, line, false, true, 3⟩ := by simp [Rd.put, hst, h1, h2, h3]
          rw [hp]
          refine ⟨H, v, ?_, hj, hb, Nat.le_refl _, fun k o _ _ h => h, fun k hk => .inl hk⟩
          subst h3
          rcases hb with ⟨rfl, rfl⟩ | ⟨k, g, rfl, h0, hr⟩ <;> simp (disch := omega) [d85, hget_at hj, e1, e2]
        · have hp : Rd.put most ⟨buf, line, false, true, st⟩ c = ⟨buf ++ [c], line, false, true, 0⟩ := by simp [Rd.put, hst, h1, h2, h3]
          rw [hp]
          obtain ⟨H', v', ha, ho, hlen, hfr, hrow⟩ := hb.append c hl
          have hj' := hfr j _ hvj hj
          have hvj' : rowOf v' ≠ some j := fun e => (hrow j e).elim hvj (fun h => by have := (List.getElem?_eq_some_iff.1 hj).1; omega)
          refine ⟨H'.set j (rdRow most v' ⟨buf ++ [c], line, false, true, st⟩), v', ?_, by rw [set_self hj'], ?_, by simpa using hlen, fun k o hk hk' h => set_ne hk (hfr k o hk' h), hrow⟩
          · have h3' : ((buf.length : Int) == most) = false := by rw [beq_eq_false_iff_ne]; omega
            have hc1 := ho.cell
            have hc2 := cells_cell hc1
            rcases hb with ⟨rfl, rfl⟩ | ⟨k, g, rfl, h0, hr⟩ <;> simp at h3' <;> simp (disch := omega) [d85, hget_at hj, e1, e2, ha, hset_at hj', hc1, hc2]
          · exact ho.mono fun k o hk h => set_ne (fun e => hvj' (by rw [← e]; exact hk)) h
def rdP (H : Heap) (j most : Nat) (v : AV) (r' : Rd) (x : Option (AV × Heap)) : Prop := ∃ H' v', x = some (.int .i64 r'.st, H') ∧ H'[j]? = some (rdRow most v' r') ∧ Own H' v' r'.buf ∧ H.length ≤ H'.length ∧ (∀ k o, k ≠ j → rowOf v ≠ some k → H[k]? = some o → H'[k]? = some o) ∧ (∀ k, rowOf v' = some k → rowOf v = some k ∨ H.length ≤ k)
theorem rdput_ok (H : Heap) (j most : Nat) (v : AV) (r : Rd) (c : UInt8) (hj : H[j]? = some (rdRow most v r)) (hb : Own H v r.buf) (hvj : rowOf v ≠ some j) (hl : r.buf.length < 1000000000) :
    rdP H j most v (r.put most c) (C T 69 [.ptr j 0 0, .int .u8 c.toNat] H) := by
  rw [q69]
  by_cases hst : r.st = 2 ∨ r.st = 3
  · have hp : r.put most c = r := if_pos hst
    rw [hp]
    refine ⟨H, v, ?_, hj, hb, Nat.le_refl _, fun k o _ _ h => h, fun k hk => .inl hk⟩
    rcases hst with h | h <;> simp [d69, hget_at hj, h, aeq]
  · have hj1 : (H.set j (rdRow most v { r with op := true }))[j]? = some (rdRow most v { r with op := true }) := set_self hj
    have hb1 : Own (H.set j (rdRow most v { r with op := true })) v r.buf := hb.mono fun k o hk h => set_ne (fun e => hvj (by rw [← e]; exact hk)) h
    have hpo : Rd.put most { r with op := true } c = r.put most c := by
      obtain ⟨buf, line, cr, op, st⟩ := r
      simp only at hst
      unfold Rd.put
      rw [if_neg hst, if_neg hst]
    obtain ⟨H', v', h1, h2, h3, h4, h5, h6⟩ := next_ok _ j most v { r with op := true } c hj1 hb1 hvj hst rfl hl
    rw [hpo] at h1 h2 h3
    have hlen : H.length ≤ H'.length := by simpa using h4
    have hvj' : rowOf v' ≠ some j := fun e => (h6 j e).elim hvj (fun h => by have := (List.getElem?_eq_some_iff.1 hj).1; simp at h; omega)
    refine ⟨H'.set j (rdRow most v' (r.put most c)), v', ?_, set_self h2, ?_, by simpa using hlen, fun k o hk hk' h => set_ne hk (h5 k o hk hk' (set_ne hk h)), fun k hk => by simpa using h6 k hk⟩
    · have s2 : ((r.st : Int) == 2) = false := by rw [beq_eq_false_iff_ne]; omega
      have s3 : ((r.st : Int) == 3) = false := by rw [beq_eq_false_iff_ne]; omega
      generalize r.put most c = r' at *
      simp at s2 s3
      simp [d69, hget_at hj, hset_at hj, s2, s3, aeq, h1, hset_at h2, hget_sa h2]
    · exact h3.mono fun k o hk h => set_ne (fun e => hvj' (by rw [← e]; exact hk)) h

theorem rline_ok {H : Heap} {j most : Nat} {v : AV} {r : Rd} (hj : H[j]? = some (rdRow most v r)) : C T 70 [.ptr j 0 0] H = some (.str r.line, H) := by
  rw [q70]
  simp [d70, hget_at hj, aeq]
theorem mx0 (a : Int) : (if a < 0 then 0 else a) = max a 0 := by split <;> omega
def rd0 : Rd := ⟨[], [], false, false, 0⟩
theorem lnew_ok (n : Nat) (H : Heap) : C T 68 [.int .i64 n] H = some (.ptr H.length 0 0, H ++ [rdRow n nls rd0]) := by
  rw [q68]
  have : ¬ ((n : Int) < 0) := by omega
  simp [d68, rd0, this]
end Go.Eng.S
namespace Go.Eng.S
open Go Go.Eng
set_option linter.unusedSectionVars false
variable [Sit]
set_option maxRecDepth 20000
def begS (most : Nat) : Rd → List Seg → Nat → List UInt8 → Option (List Seg × Nat)
  | _, _, _, [] => none
  | r, out, i, c :: s => if (r.put most c).st = 2 ∨ (r.put most c).st = 3 then none else if (r.put most c).st = 1 then (if (r.put most c).line = [] then some (out, i + 1) else begS most (r.put most c) (out ++ [(r.put most c).line]) (i + 1) s) else begS most (r.put most c) out (i + 1) s
def begL (b : Seg) : Option (List Seg × Nat) := begS b.length rd0 [] 0 b
theorem put_buf {most : Nat} {r : Rd} {c : UInt8} : (r.put most c).buf.length ≤ r.buf.length + 1 := by
  unfold Rd.put
  repeat' split
  all_goals simp
def begP (_b : Seg) (o : Option (List Seg × Nat)) (x : XR) : Prop := match o with
  | none => ∃ e' H', (x = some (.exit 0, e', H')) ∨ (x = some (.ret, e', H') ∧ e'.get 2 = nls ∧ e'.get 3 = .int .i64 0 ∧ e'.get 4 = .bool false)
  | some (l, n) => ∃ e' H' v', x = some (.ret, e', H') ∧ e'.get 2 = v' ∧ e'.get 3 = .int .i64 n ∧ e'.get 4 = .bool true ∧ Acc H' v' 1 l.length (scells l)
theorem bc_at (b : Seg) (i : Nat) (h : i < b.length) : (bcells b).drop i = .int .u8 (b[i].toNat : Nat) :: (bcells b).drop (i + 1) := by
  have hl : i < (bcells b).length := by rw [bcells_len]; exact h
  rw [List.drop_eq_getElem_cons hl]
  simp [bcells]
theorem rowNO (v : AV) : rowN v = rowOf v := by cases v <;> rfl
set_option maxHeartbeats 1000000 in
theorem beg_loop (most : Nat) (b : Seg) (hb : b.length < 100000000) : ∀ (k i : Nat) (r : Rd) (out : List Seg) (vb vo : AV) (H : Heap), i + k = b.length → out.length ≤ i → r.buf.length ≤ i → H[0]? = some (rdRow most vb r) → Own H vb r.buf → rowOf vb ≠ some 0 → Acc H vo 1 out.length (scells out) → rowN vo ≠ some 0 → (∀ j, rowN vo = some j → rowOf vb ≠ some j) → ¬ (r.st = 2 ∨ r.st = 3) →
    begP b (begS most r out i (b.drop i)) (XL T [5, 6, 12, 13, 14] L52_0 [(5, .ptr 0 0 0), (6, vo), (12, .sl false b.length 1 (bcells b)), (13, .int .i64 b.length), (14, .int .i64 i)] H)
  | 0, i, r, out, vb, vo, H, hk, ho, hrb, h0, hO, hv0, hA, hvo, hne, hst => by
    have hd : b.drop i = [] := List.drop_eq_nil_of_le (by omega)
    have hlt : ¬ (i : Int) < (b.length : Int) := by omega
    rw [hd, XL_eq]
    unfold begS begP
    simp [L52_0, hlt]
  | k + 1, i, r, out, vb, vo, H, hk, ho, hrb, h0, hO, hv0, hA, hvo, hne, hst => by
    have hlt : i < b.length := by omega
    have hltI : (i : Int) < (b.length : Int) := by omega
    have hd : b.drop i = b[i] :: b.drop (i + 1) := List.drop_eq_getElem_cons hlt
    have hfd := bc_at b i hlt
    have hix : ix b.length (.int .i64 (i : Int)) = some i := by simp only [ix]; rw [if_pos ⟨by omega, hltI⟩]; simp
    have hw : IntKind.i64.wrap ((i : Int) + 1) = (i : Int) + 1 := wr64 (by omega) (by omega)
    rw [hd, XL_eq]
    generalize b[i] = c at *
    obtain ⟨H1, v1, p1, p2, p3, p4, p5, p6⟩ := rdput_ok H 0 most vb r c h0 hO hv0 (by omega)
    have hbl := put_buf (most := most) (r := r) (c := c)
    have ih := beg_loop most b hb k (i + 1) (r.put most c)
    push_cast at ih
    unfold begS
    generalize XL T [5, 6, 12, 13, 14] L52_0 = lp at *
    have hA1 : Acc H1 vo 1 out.length (scells out) := hA.mono fun j o hj h => p5 j o (fun e => hvo (by rw [← e]; exact hj)) (hne j hj) h
    have hv1 : rowOf v1 ≠ some 0 := fun e => (p6 0 e).elim hv0 (fun h => by
      have := (List.getElem?_eq_some_iff.1 h0).1
      omega)
    have hne1 : ∀ j, rowN vo = some j → rowOf v1 ≠ some j := fun j hj e => (p6 j e).elim (hne j hj) (fun h => by have := hA.lt hj; omega)
    have hln := rline_ok p2
    generalize r.put most c = r1 at *
    by_cases h2 : r1.st = 2
    · rw [if_pos (.inl h2)]
      rw [h2] at p1
      unfold begP
      simp [L52_0, hltI, hix, hfd, p1]
    by_cases h3 : r1.st = 3
    · rw [if_pos (.inr h3)]
      rw [h3] at p1
      unfold begP
      simp [L52_0, hltI, hix, hfd, p1]
    rw [if_neg (by omega)]
    have e2 : ((r1.st : Int) == 2) = false := by rw [beq_eq_false_iff_ne]; omega
    have e3 : ((r1.st : Int) == 3) = false := by rw [beq_eq_false_iff_ne]; omega
    have e2' : ¬ (r1.st : Int) = 2 := by omega
    have e3' : ¬ (r1.st : Int) = 3 := by omega
    by_cases h1 : r1.st = 1
    · rw [if_pos h1]
      rw [h1] at p1
      by_cases hl : r1.line = []
      · rw [if_pos hl]
        rw [hl] at hln
        unfold begP
        simp [L52_0, hltI, hix, hfd, p1, hln, hw]
        exact ⟨_, _, ⟨rfl, rfl⟩, rfl, rfl, hA1⟩
      · rw [if_neg hl]
        have hlb : (r1.line == []) = false := by simpa using hl
        obtain ⟨H2, v2, a1, a2, a3, a4, a5, a6⟩ := hA1.append 16 1 [.str r1.line] (by omega) rfl rfl (by unfold LIM; omega)
        have e1 : scells out ++ [.str r1.line] = scells (out ++ [r1.line]) := by simp [scells]
        rw [e1] at a2
        have q0 := a5 0 _ hvo p2
        have qO : Own H2 v1 r1.buf := p3.mono fun j o hj h => a5 j o (fun e => hne1 j e hj) h
        have q3 : rowN v2 ≠ some 0 := fun e => (a6 0 e).elim hvo (fun h => by
          have := (List.getElem?_eq_some_iff.1 p2).1
          omega)
        have q4 : ∀ j, rowN v2 = some j → rowOf v1 ≠ some j := fun j hj e => (a6 j hj).elim (fun h => hne1 j h e) (fun h => by have := p3.lt e; omega)
        have ih := ih (out ++ [r1.line]) v1 v2 H2 (by omega) (by simp; omega) (by omega) q0 qO hv1 (by simpa using a2) q3 q4 (by omega)
        simp [L52_0, hltI, hix, hfd, p1, hln, hw, hlb, viewOf, fillP, splice, a1]
        exact ih
    · rw [if_neg h1]
      have e1 : ((r1.st : Int) == 1) = false := by rw [beq_eq_false_iff_ne]; omega
      have e1' : ¬ (r1.st : Int) = 1 := by omega
      have ih := ih out v1 vo H1 (by omega) (by omega) (by omega) p2 p3 hv1 hA1 hvo hne1 (by omega)
      simp [L52_0, hltI, hix, hfd, p1, hw, e1, e2, e3]
      exact ih
def begV (o : Option (List Seg × Nat)) : List AV := match o with
  | some (l, n) => [strsV l, .int .i64 n, .bool true]
  | none => [nls, .int .i64 0, .bool false]
theorem beg_ok (a : AV) (b : Seg) (ha : BV a b) (hb : b.length < 100000000) (H : Heap) : C T 52 [a] H = some (.tup (begV (begL b)), H) := by
  refine anyH fd52 rfl (by simp [closedL, ha.closed]) ?_ H
  rw [q52]
  have hs := ha.snap 63 []
  have hlen := ha.len
  have hnew := lnew_ok b.length []
  rcases ha with ⟨rfl, rfl⟩ | rfl
  · have hx : ∃ e', XL T [5, 6, 12, 13, 14] L52_0 [(5, .ptr 0 0 0), (6, nls), (12, nls), (13, .int .i64 0), (14, .int .i64 0)] [rdRow 0 nls rd0] = some (.exit 0, e', [rdRow 0 nls rd0]) := by
      rw [XL_eq]
      simp [L52_0]
    obtain ⟨e', x1⟩ := hx
    simp only [List.length_nil, Int.natCast_zero] at hnew
    simp [d52, hnew, x1, begV, begL, begS]
  · have hlp := beg_loop b.length b hb b.length 0 rd0 [] nls nls [rdRow b.length nls rd0] (by omega) (by simp) (by simp [rd0]) rfl (.inl ⟨rfl, rfl⟩) (by simp [rowOf]) (.inl ⟨rfl, rfl, rfl⟩) (by simp [rowN]) (fun j h => by simp [rowN] at h) (by decide)
    simp only [List.drop_zero, Int.natCast_zero] at hlp
    unfold begL
    cases hq : begS b.length rd0 [] 0 b with
    | none =>
      rw [hq] at hlp
      obtain ⟨e', H', x1 | ⟨x1, x2, x3, x4⟩⟩ := hlp
      · simp [d52, hs, hnew, x1, begV]
      · simp [d52, hs, hnew, x1, x2, x3, x4, begV]
    | some p =>
      obtain ⟨l, n⟩ := p
      rw [hq] at hlp
      obtain ⟨e', H', v', x1, x2, x3, x4, x5⟩ := hlp
      obtain ⟨H2, x6⟩ := x5.snap 62 (scells_snap 61 l)
      simp [d52, hs, hnew, x1, x2, x3, x4, x6, begV, strsV]
end Go.Eng.S
