/- The reference's numbers and reasons. The reference's bytes of responses. The reference: Join, values, lengths. No condition. -/
import Derived.Test.YtgjgcjhmaibblaaGreatDoorMc
namespace Go.Eng.S
open Go Go.Eng
set_option linter.unusedSectionVars false
variable [Sit]
set_option maxRecDepth 20000
set_option maxRecDepth 20000
abbrev tenD : List UInt8 := [48, 49, 50, 51, 52, 53, 54, 55, 56, 57]
theorem tenD_at (k : Nat) (h : k < 10) : (tenD.take (k + 1)).drop k = [UInt8.ofNat (48 + k)] := by
  have : ∀ k < 10, (tenD.take (k + 1)).drop k = [UInt8.ofNat (48 + k)] := by decide
  exact this k h
/-- The reference's text of a number that is not negative. -/
theorem rdec_ok : ∀ (k n : Nat), n < 10 ^ k → 0 < k → n < 9223372036854775808 → ∀ H, k ≤ 20 → C T 21 [.int .i64 n] H = some (.str (decT k n), H)
  | 0, _, _, h, _, _, _ => absurd h (Nat.lt_irrefl 0)
  | k + 1, n, hn, _, hb, H, hk => by
    refine anyH fd21 rfl rfl ?_ H
    rw [q21]
    have hm : (n : Int).tmod 10 = ((n % 10 : Nat) : Int) := rfl
    have hd : (n : Int).tdiv 10 = ((n / 10 : Nat) : Int) := rfl
    have hlt : n % 10 < 10 := Nat.mod_lt _ (by decide)
    unfold decT
    by_cases h10 : n < 10
    · have hg := tenD_at n h10
      have hs : dgt n = UInt8.ofNat (48 + n) := by unfold dgt; rw [Nat.mod_eq_of_lt h10]
      rw [if_pos h10, hs]
      simp at hg
      simp (disch := omega) [d21, hg]
    · have hg := tenD_at (n % 10) hlt
      have hs : dgt n = UInt8.ofNat (48 + n % 10) := rfl
      have hk0 : 0 < k := by
        cases k with
        | zero => simp at hn; omega
        | succ k => omega
      have ih := fun H => rdec_ok k (n / 10) (by rw [Nat.pow_succ] at hn; omega) hk0 (by omega) H (by omega)
      have hlen := decT_len k (n / 10)
      push_cast at ih
      have e1 : ((n : Int) % 10).toNat = n % 10 := by omega
      have e2 : ((n : Int) % 10 + 1).toNat = n % 10 + 1 := by omega
      have hLIM : (decT k (n / 10)).length + 1 ≤ LIM := by unfold LIM; omega
      rw [if_neg h10, hs]
      simp at hg
      simp (disch := omega) [d21, hm, hd, ih, e1, e2, hg, hLIM]
theorem rdecN : ∀ (k n : Nat), 0 < n → n < 10 ^ k → n ≤ 9223372036854775808 → k ≤ 20 → ∀ H, C T 21 [.int .i64 (-(n : Int))] H = some (.str (45 :: decT k n), H)
  | 0, n, h0, h, _, _, _ => by simp at h; omega
  | k + 1, n, h0, hn, hb, hk, H => by
    refine anyH fd21 rfl rfl ?_ H
    rw [q21]
    by_cases h10 : n < 10
    · have hr := fun H => rdec_ok 1 n h10 (by decide) (by omega) H (by decide)
      have e : decT (k + 1) n = decT 1 n := by unfold decT; rw [if_pos h10, if_pos h10]
      have hL : 1 + (decT 1 n).length ≤ LIM := by have := decT_len 1 n; unfold LIM; omega
      rw [e]
      simp (disch := omega) [d21, hr, hL]
    · obtain ⟨q, hq⟩ : ∃ q, n / 10 = q := ⟨_, rfl⟩
      obtain ⟨r, hr⟩ : ∃ r, n % 10 = r := ⟨_, rfl⟩
      have iq : (-(n : Int)).tdiv 10 = -(q : Int) := by rw [Int.neg_tdiv, ← hq]; rfl
      have ir : (-(n : Int)).tmod 10 = -(r : Int) := by rw [Int.neg_tmod, ← hr]; rfl
      have iq2 : (n : Int).tdiv 10 = (q : Int) := by rw [← hq]; rfl
      have ir2 : (n : Int).tmod 10 = (r : Int) := by rw [← hr]; rfl
      have lr : r < 10 := by omega
      have ih := rdecN k q (by omega) (by rw [Nat.pow_succ] at hn; omega) (by omega) (by omega)
      have hd := fun H => rdec_ok 1 r lr (by decide) (by omega) H (by decide)
      have e1 : decT 1 r = [dgt n] := by unfold decT; rw [if_pos lr, dgt_c (m := r) (n := n) (by omega)]
      have e : decT (k + 1) n = decT k q ++ [dgt n] := by rw [decT, if_neg h10, hq]
      rw [e1] at hd
      have hL : (decT k q).length + 1 + 1 ≤ LIM := by have := decT_len k q; unfold LIM; omega
      rw [e]
      simp (disch := omega) [d21, iq, ir, ih, hd, hL]
theorem rdec_all (x : Int) (h1 : -9223372036854775808 ≤ x) (h2 : x < 9223372036854775808) (H : Heap) : C T 21 [.int .i64 x] H = some (.str (itoT x), H) := by
  by_cases h : 0 ≤ x
  · obtain ⟨n, rfl⟩ := Int.eq_ofNat_of_zero_le h
    have := rdec_ok 20 n (by omega) (by decide) (by omega) H (by decide)
    unfold itoT
    rw [if_pos h]
    exact this
  · obtain ⟨n, hn⟩ : ∃ n : Nat, x = -(n : Int) := ⟨(-x).toNat, by omega⟩
    have := rdecN 20 n (by omega) (by omega) (by omega) (by decide) H
    unfold itoT
    rw [if_neg h, hn, show (-(-(n : Int))).toNat = n by omega]
    exact this

theorem rtext_ok (x : Int) (h1 : -9223372036854775808 ≤ x) (h2 : x < 9223372036854775808) (H : Heap) : C T 48 [.int .i64 x] H = some (.str (itoT x), H) := by
  refine anyH fd48 rfl rfl ?_ H
  rw [q48]
  simp [d48, rdec_all x h1 h2]
def N11 : List Int := [200, 301, 400, 401, 404, 405, 413, 414, 431, 501, 505]
def T11 : List Seg := N11.map rsn
theorem rsn_at (s : Int) (h : s ∉ N11) : rsn s = [] := by
  simp [N11] at h
  unfold rsn finB
  simp [h, S5]
theorem rr_loop (s : Int) : ∀ (k i : Nat), i + k = 11 →
    ∃ e', XL T [0, 3, 4, 5] L22_0 [(0, .int .i64 s), (3, .sl true 11 1 (N11.map (.int .i64))), (4, .sl true 11 1 (T11.map .str)), (5, .int .i64 i)] [] = some (if s ∈ N11.drop i then .ret else .exit 0, e', []) ∧ (s ∈ N11.drop i → e'.get 2 = .str (rsn s))
  | 0, i, hk => by
    have : i = 11 := by omega
    subst this
    rw [XL_eq]
    simp [L22_0, N11]
  | k + 1, i, hk => by
    have hlt : i < N11.length := by show i < 11; omega
    have hltI : (i : Int) < 11 := by omega
    have hd : N11.drop i = N11[i] :: N11.drop (i + 1) := List.drop_eq_getElem_cons hlt
    have hdc : (N11.map (AV.int .i64)).drop i = .int .i64 N11[i] :: (N11.map (AV.int .i64)).drop (i + 1) := by
      rw [List.drop_eq_getElem_cons (by simpa using hlt)]; simp
    have hdt : (T11.map AV.str).drop i = .str (rsn N11[i]) :: (T11.map AV.str).drop (i + 1) := by
      rw [List.drop_eq_getElem_cons (by simpa [T11] using hlt)]; simp [T11]
    have ih := rr_loop s k (i + 1) (by omega)
    push_cast at ih
    rw [XL_eq, hd]
    simp only [List.mem_cons]
    generalize XL T [0, 3, 4, 5] L22_0 = lp at *
    generalize N11.map (AV.int .i64) = cs at *
    generalize T11.map AV.str = ts at *
    generalize hx : N11[i] = x at *
    by_cases hc : s = x
    · subst hc
      simp (disch := omega) [L22_0, hltI, hdc, hdt]
    · have hb : (x == s) = false := by rw [beq_eq_false_iff_ne]; exact fun e => hc e.symm
      have hb' : ¬ x = s := fun e => hc e.symm
      simp (disch := omega) [L22_0, hltI, hdc, hb, hc]
      exact ih
theorem rreason_ok (s : Int) (H : Heap) : C T 22 [.int .i64 s] H = some (.str (rsn s), H) := by
  refine anyH fd22 rfl rfl ?_ H
  rw [q22]
  obtain ⟨e', x1, x2⟩ := rr_loop s 11 0 rfl
  simp only [List.drop_zero, Int.natCast_zero] at x1 x2
  have hn : N11.map (AV.int .i64) = [.int .i64 200, .int .i64 301, .int .i64 400, .int .i64 401, .int .i64 404, .int .i64 405, .int .i64 413, .int .i64 414, .int .i64 431, .int .i64 501, .int .i64 505] := rfl
  have ht : T11.map AV.str = [.str [79, 75], .str [77, 111, 118, 101, 100, 32, 80, 101, 114, 109, 97, 110, 101, 110, 116, 108, 121], .str [66, 97, 100, 32, 82, 101, 113, 117, 101, 115, 116], .str [85, 110, 97, 117, 116, 104, 111, 114, 105, 122, 101, 100], .str [78, 111, 116, 32, 70, 111, 117, 110, 100], .str [77, 101, 116, 104, 111, 100, 32, 78, 111, 116, 32, 65, 108, 108, 111, 119, 101, 100], .str [67, 111, 110, 116, 101, 110, 116, 32, 84, 111, 111, 32, 76, 97, 114, 103, 101], .str [85, 82, 73, 32, 84, 111, 111, 32, 76, 111, 110, 103], .str [82, 101, 113, 117, 101, 115, 116, 32, 72, 101, 97, 100, 101, 114, 32, 70, 105, 101, 108, 100, 115, 32, 84, 111, 111, 32, 76, 97, 114, 103, 101], .str [78, 111, 116, 32, 73, 109, 112, 108, 101, 109, 101, 110, 116, 101, 100], .str [72, 84, 84, 80, 32, 86, 101, 114, 115, 105, 111, 110, 32, 78, 111, 116, 32, 83, 117, 112, 112, 111, 114, 116, 101, 100]] := rfl
  rw [hn, ht] at x1
  by_cases hm : s ∈ N11
  · rw [if_pos hm] at x1
    simp [d22, fillP, reps, splice, x1, x2 hm]
  · rw [if_neg hm] at x1
    rw [rsn_at s hm]
    simp [d22, fillP, reps, splice, x1]

end Go.Eng.S
namespace Go.Eng.S
open Go Go.Eng
set_option linter.unusedSectionVars false
variable [Sit]
set_option maxRecDepth 20000
theorem Acc.appendB {H : Heap} {v : AV} {out : Seg} (h : Acc H v 1 out.length (bcells out)) (s : Seg) (hl : out.length + s.length < 2000000000) :
    ∃ H' v', aappend .no H 1 1 v s.length (bcells s) = some (v', H') ∧ Acc H' v' 1 (out ++ s).length (bcells (out ++ s)) ∧ v'.isCell = true ∧ H.length ≤ H'.length ∧ (∀ (j : Nat) (o : AObj), rowN v ≠ some j → H[j]? = some o → H'[j]? = some o) ∧ (∀ j, rowN v' = some j → rowN v = some j ∨ H.length ≤ j) := by
  by_cases h0 : s = []
  · subst h0
    refine ⟨H, v, ?_, by simpa using h, h.cell, Nat.le_refl _, fun _ _ _ h => h, fun _ h => .inl h⟩
    unfold aappend
    rcases h with ⟨_, _, rfl⟩ | ⟨k, g, rfl, _⟩ <;> rfl
  · have hn : s.length ≠ 0 := by simpa using h0
    obtain ⟨H2, bv, a1, a2, a3, a4, a5, a6⟩ := h.append 1 s.length (bcells s) hn (by simp [bcells]) (by simp [bcells]) (by unfold LIM; omega)
    exact ⟨H2, bv, a1, by rw [List.length_append, bcells_app]; exact a2, a3, a4, a5, a6⟩
def apK (k : Kd) (s b : Nat) (H : Heap) (x y : AV) : Option (AV × Heap) := match viewOf H s y with
  | some (m, ys) => aappend k H s b x m ys
  | none => none
@[simp ↓ high] theorem aop_ap {T : Tab} {cf : CF} {k : Kd} {s b : Nat} {x y : Opd} {e : Env} {H : Heap} : aop T cf (.append k s b x y) e H = apK k s b H (ev T e x) (ev T e y) := rfl
@[simp] theorem apK_sl {k : Kd} {s b : Nat} {H : Heap} {x : AV} {f : Bool} {n : Nat} {cs : List AV} : apK k s b H x (.sl f n s cs) = aappend k H s b x n cs := by simp [apK, viewOf]
theorem BV.ap {a : AV} {b : Seg} (h : BV a b) (H : Heap) (x : AV) : apK .no 1 1 H x a = aappend .no H 1 1 x b.length (bcells b) := by
  unfold apK
  rw [bv_view h H]
theorem rbytes_loop (st : Int) (fs bd : AV) (l : List Fld) (hf : FV fs l) (hl : l.length < 100000000) : ∀ (k i : Nat) (s : Seg), i + k = l.length → s.length + (ftx (l.drop i)).length < 1900000000 →
    ∃ e', XL T [1, 3, 4] L10_0 [(1, .ptr 0 0 0), (3, .str s), (4, .int .i64 i)] [rowR st fs bd] = some (.exit 0, e', [rowR st fs bd]) ∧ e'.get 1 = .ptr 0 0 0 ∧ e'.get 3 = .str (s ++ ftx (l.drop i))
  | 0, i, s, hk, hs => by
    have hd : l.drop i = [] := List.drop_eq_nil_of_le (by omega)
    have hlt : ¬ (i : Int) < (l.length : Int) := by omega
    have hg : hget [rowR st fs bd] 0 1 1 0 = some [fs] := rfl
    have hlen := hf.len
    rw [hd, XL_eq]
    simp [L10_0, hlt, hg, hlen, ftx]
  | k + 1, i, s, hk, hs => by
    have hlt : i < l.length := by omega
    have hltI : (i : Int) < (l.length : Int) := by omega
    have hd : l.drop i = l[i] :: l.drop (i + 1) := List.drop_eq_getElem_cons hlt
    have hg : hget [rowR st fs bd] 0 1 1 0 = some [fs] := rfl
    have hlen := hf.len
    have hia := fun H => hf.ia H hlt
    have hw : IntKind.i64.wrap ((i : Int) + 1) = (i : Int) + 1 := wr64 (by omega) (by omega)
    rw [hd, ftx_cons] at hs ⊢
    have ih := rbytes_loop st fs bd l hf hl k (i + 1)
    push_cast at ih
    rw [XL_eq]
    generalize XL T [1, 3, 4] L10_0 = lp at *
    generalize l[i] = f at *
    obtain ⟨n, v⟩ := f
    simp only [List.length_append, fldT, List.length_cons, List.length_nil] at hs
    have b1 : s.length + n.length ≤ LIM := by unfold LIM; omega
    have b2 : s.length + n.length + 2 ≤ LIM := by unfold LIM; omega
    have b3 : s.length + n.length + 2 + v.length ≤ LIM := by unfold LIM; omega
    have b4 : s.length + n.length + 2 + v.length + 2 ≤ LIM := by unfold LIM; omega
    have b2' : s.length + (n.length + 2) ≤ LIM := by unfold LIM; omega
    have b3' : s.length + (n.length + (2 + v.length)) ≤ LIM := by unfold LIM; omega
    have b3'' : s.length + (n.length + (v.length + 1 + 1)) ≤ LIM := by unfold LIM; omega
    have b4' : s.length + (n.length + (v.length + (2 + 2))) ≤ LIM := by unfold LIM; omega
    have b4'' : s.length + (n.length + (v.length + 2 + 1 + 1)) ≤ LIM := by unfold LIM; omega
    obtain ⟨e', x1, x2, x3⟩ := ih (s ++ (n ++ 58 :: 32 :: (v ++ cr))) (by omega) (by simp; omega)
    refine ⟨e', ?_, x2, by rw [x3]; simp [fldT]⟩
    simp only [cr] at x1
    simp (disch := omega) [L10_0, hltI, hg, hlen, hia, hw, b1, b2]
    exact x1
theorem rbytes_ok (st : Int) (fs bd : AV) (l : List Fld) (b : Seg) (hf : FV fs l) (hb : BV bd b) (hfit : Fits st l b) (H : Heap) : C T 10 [.agg [.int .i64 st, fs, bd]] H = some (bytV (outB st l ++ b), H) := by
  refine anyH fd10 rfl (by simp [closedL, AV.closed, hf.closed, hb.closed]) ?_ H
  rw [q10]
  have hs1 := hf.snap 62 []
  have hs2 := hb.snap 62 []
  have hc1 := hf.cell
  have hc2 := hb.cell
  have hgs : hget [rowR st fs bd] 0 0 1 0 = some [.int .i64 st] := rfl
  have hgb : hget ([rowR st fs bd] ++ [⟨bcells (outB st l), 0, true, .no⟩]) 0 2 1 0 = some [bd] := rfl
  have hd := rdec_all st hfit.lo hfit.hi [rowR st fs bd]
  have hr := rreason_ok st [rowR st fs bd]
  have hout := hfit.out
  have hl1 := itoT_len st
  have hl2 := rsn_len st
  have hob : outB st l = (ht9 ++ (itoT st ++ 32 :: (rsn st ++ cr))) ++ ftx l ++ cr := by unfold outB fstL; simp
  obtain ⟨e', x1, x2, x3⟩ := rbytes_loop st fs bd l hf hfit.len l.length 0 (ht9 ++ (itoT st ++ 32 :: (rsn st ++ cr))) (by omega) (by rw [hob] at hout; simp at hout ⊢; omega)
  simp only [List.drop_zero, Int.natCast_zero] at x1 x3
  have hA : Acc ([rowR st fs bd] ++ [⟨bcells (outB st l), 0, true, .no⟩]) (.ms 1 0 (outB st l).length 1 0) 1 (outB st l).length (bcells (outB st l)) := .inr ⟨1, 0, rfl, List.length_pos_iff.2 (outB_ne st l), by simp [bcells], rfl⟩
  obtain ⟨H2, v2, a1, a2, _⟩ := hA.appendB b (by omega)
  obtain ⟨H3, s3⟩ := a2.snap 63 (bcells_snap 62 _)
  have hvb := hb.ap
  have hL : (outB st l).length ≤ LIM := by unfold LIM; omega
  have x3' : (ht9 ++ (itoT st ++ 32 :: (rsn st ++ cr)) ++ ftx l) ++ [13, 10] = outB st l := by rw [hob]
  simp only [ht9, cr] at x1 x3 x3'
  generalize hpre : ([72, 84, 84, 80, 47, 49, 46, 49, 32] : Seg) ++ (itoT st ++ 32 :: (rsn st ++ [13, 10])) ++ ftx l = pre at *
  have hL2 : pre.length + 2 ≤ LIM := by rw [← x3'] at hL; simpa using hL
  generalize outB st l = ob at *
  subst x3'
  generalize itoT st = it at *
  generalize rsn st = rs at *
  have b1 : 9 + it.length ≤ LIM := by unfold LIM; omega
  have b2 : 9 + it.length + 1 ≤ LIM := by unfold LIM; omega
  have b3 : 9 + it.length + 1 + rs.length ≤ LIM := by unfold LIM; omega
  have b4 : 9 + it.length + 1 + rs.length + 2 ≤ LIM := by unfold LIM; omega
  have b1' : it.length + 9 ≤ LIM := by unfold LIM; omega
  have b2' : it.length + 9 + 1 ≤ LIM := by unfold LIM; omega
  have b2'' : it.length + (1 + 9) ≤ LIM := by unfold LIM; omega
  have b3' : it.length + (1 + rs.length) + 9 ≤ LIM := by unfold LIM; omega
  have b3'' : it.length + (rs.length + 1) + 9 ≤ LIM := by unfold LIM; omega
  have b4' : it.length + (rs.length + 2 + 1) + 9 ≤ LIM := by unfold LIM; omega
  simp only [List.cons_append, List.nil_append] at x1 hgb a1
  have e2 : (pre ++ [13, 10]).length = pre.length + 2 := by simp
  rw [e2] at a1
  have s3' : bytV (pre ++ [13, 10] ++ b) = bytV (pre ++ 13 :: 10 :: b) := by simp
  have s3'' : snap (63 + 1) H2 v2 = some (bytV (pre ++ 13 :: 10 :: b), H3) := by rw [← s3', s3]; rfl
  simp (disch := omega) [d10, hs1, hs2, hc1, hc2, hgs, hd, hr, b1, b2', x1, x2, x3, hL2, hnew, hgb, hvb, a1, s3'']
end Go.Eng.S
namespace Go.Eng.S
open Go Go.Eng
set_option linter.unusedSectionVars false
variable [Sit]
set_option maxRecDepth 20000
theorem rjoin_loop (a : AV) (L : List Rsp) (hL : LV a L) (hf : ∀ r ∈ L, Fits r.1 r.2.1 r.2.2) (hll : L.length < 1000000000) : ∀ (k i : Nat) (out : Seg) (v : AV) (H : Heap), i + k = L.length → out.length + (joinL (L.drop i)).length < 1000000000 → Acc H v 1 out.length (bcells out) →
    ∃ e' H' v', XL T [0, 3, 4] L14_0 [(0, a), (3, v), (4, .int .i64 i)] H = some (.exit 0, e', H') ∧ e'.get 3 = v' ∧ Acc H' v' 1 (out ++ joinL (L.drop i)).length (bcells (out ++ joinL (L.drop i)))
  | 0, i, out, v, H, hk, ho, hA => by
    have hd : L.drop i = [] := List.drop_eq_nil_of_le (by omega)
    have hlt : ¬ (i : Int) < (L.length : Int) := by omega
    have hlen := hL.len
    have hx : ∃ e', XL T [0, 3, 4] L14_0 [(0, a), (3, v), (4, .int .i64 i)] H = some (.exit 0, e', H) ∧ e'.get 3 = v := by
      rw [XL_eq]
      simp [L14_0, hlt, hlen]
    obtain ⟨e', x1, x2⟩ := hx
    rw [hd]
    exact ⟨e', H, v, x1, x2, by simpa [joinL] using hA⟩
  | k + 1, i, out, v, H, hk, ho, hA => by
    have hlt : i < L.length := by omega
    have hltI : (i : Int) < (L.length : Int) := by omega
    have hlen := hL.len
    have hd : L.drop i = L[i] :: L.drop (i + 1) := List.drop_eq_getElem_cons hlt
    have hw : IntKind.i64.wrap ((i : Int) + 1) = (i : Int) + 1 := wr64 (by omega) (by omega)
    obtain ⟨fs, bd, cs', e1, e2, e3⟩ := hL.ia H hlt
    have hfi := hf L[i] (List.getElem_mem hlt)
    rw [hd, joinL_cons] at ho ⊢
    simp only [List.length_append] at ho
    have ih := rjoin_loop a L hL hf hll k (i + 1)
    push_cast at ih
    rw [XL_eq]
    generalize XL T [0, 3, 4] L14_0 = lp at *
    generalize L[i] = r at *
    have c10 := rbytes_ok r.1 fs bd r.2.1 r.2.2 e2 e3 hfi
    rw [show outB r.1 r.2.1 ++ r.2.2 = bytesR r from rfl] at c10
    obtain ⟨H2, v2, a1, a2, a3, a4, a5, a6⟩ := hA.appendB (bytesR r) (by omega)
    have hvb := (bytV_ok (bytesR r)).ap
    obtain ⟨e', H', v', x1, x2, x3⟩ := ih (out ++ bytesR r) v2 H2 (by omega) (by simp only [List.length_append]; omega) a2
    refine ⟨e', H', v', ?_, x2, by rw [← List.append_assoc]; exact x3⟩
    generalize bytesR r = br at *
    simp [L14_0, hltI, hlen, e1, c10, hvb, a1, hw]
    exact x1
theorem rjoin_ok (a : AV) (L : List Rsp) (hL : LV a L) (hf : ∀ r ∈ L, Fits r.1 r.2.1 r.2.2) (hll : L.length < 1000000000) (hj : (joinL L).length < 1000000000) (H : Heap) :
    C T 14 [a] H = some (bytV (joinL L), H) := by
  refine anyH fd14 rfl (by simp [closedL, hL.closed]) ?_ H
  rw [q14]
  have hs := hL.snap 63 []
  obtain ⟨e', H', v', x1, x2, x3⟩ := rjoin_loop a L hL hf hll L.length 0 [] nls [] (by omega) (by simpa using hj) (.inl ⟨rfl, rfl, rfl⟩)
  simp only [List.drop_zero, List.nil_append, Int.natCast_zero] at x1 x3
  obtain ⟨H2, x4⟩ := x3.snap 63 (bcells_snap 62 _)
  simp [d14, hs, x1, x2, x4, bytV]
theorem rvals_loop (nm : Seg) (hn : nm.length < 1000000000) (a : AV) (l : List Fld) (hf : FV a l) (hl : Small l) : ∀ (k i : Nat) (out : List Seg) (v : AV) (H : Heap), i + k = l.length → out.length ≤ i → Acc H v 1 out.length (scells out) →
    ∃ e' H' v', XL T [0, 1, 5, 6] L46_0 [(0, a), (1, .str nm), (5, v), (6, .int .i64 i)] H = some (.exit 0, e', H') ∧ e'.get 5 = v' ∧ Acc H' v' 1 (out ++ valsL (l.drop i) nm).length (scells (out ++ valsL (l.drop i) nm))
  | 0, i, out, v, H, hk, ho, hA => by
    have hd : l.drop i = [] := List.drop_eq_nil_of_le (by omega)
    have hlt : ¬ (i : Int) < (l.length : Int) := by omega
    have hlen := hf.len
    have hx : ∃ e', XL T [0, 1, 5, 6] L46_0 [(0, a), (1, .str nm), (5, v), (6, .int .i64 i)] H = some (.exit 0, e', H) ∧ e'.get 5 = v := by
      rw [XL_eq]
      simp [L46_0, hlt, hlen]
    obtain ⟨e', x1, x2⟩ := hx
    rw [hd]
    exact ⟨e', H, v, x1, x2, by simpa [valsL] using hA⟩
  | k + 1, i, out, v, H, hk, ho, hA => by
    have hlt : i < l.length := by omega
    have hltI : (i : Int) < (l.length : Int) := by omega
    have hll := hl.len
    have hlen := hf.len
    have hia := fun H => hf.ia H hlt
    have hal := hl.str l[i] (List.getElem_mem hlt)
    have hd : l.drop i = l[i] :: l.drop (i + 1) := List.drop_eq_getElem_cons hlt
    rw [hd, valsL_cons, XL_eq]
    have hw : IntKind.i64.wrap ((i : Int) + 1) = (i : Int) + 1 := wr64 (by omega) (by omega)
    have ih := rvals_loop nm hn a l hf hl k (i + 1)
    push_cast at ih
    generalize XL T [0, 1, 5, 6] L46_0 = lp at *
    generalize l[i] = f at *
    obtain ⟨x, y⟩ := f
    simp only at hal hia ⊢
    have hl1 := rlower_ok x hal.1
    have hl2 := rlower_ok nm hn
    by_cases hc : x.map low = nm.map low
    · obtain ⟨H', v', p1, p2, p3, p4, p5, p6⟩ := hA.append 16 1 [.str y] (by omega) rfl rfl (by unfold LIM; omega)
      have e1 : scells out ++ [.str y] = scells (out ++ [y]) := by simp [scells]
      rw [e1] at p2
      obtain ⟨e', H2, v2, x1, x2, x3⟩ := ih (out ++ [y]) v' H' (by omega) (by simp; omega) (by simpa using p2)
      refine ⟨e', H2, v2, ?_, x2, by rw [if_pos hc]; simpa using x3⟩
      simp [L46_0, hltI, hlen, hia, hl1, hl2, hc, p1, hw, fillP, splice, reps]
      exact x1
    · have hcb : (x.map low == nm.map low) = false := by simpa using hc
      obtain ⟨e', H2, v2, x1, x2, x3⟩ := ih out v H (by omega) (by omega) hA
      refine ⟨e', H2, v2, ?_, x2, by rw [if_neg hc]; exact x3⟩
      simp [L46_0, hltI, hlen, hia, hl1, hl2, hcb, hw]
      exact x1
theorem rvalues_ok (nm : Seg) (hn : nm.length < 1000000000) (a : AV) (l : List Fld) (hf : FV a l) (hl : Small l) (H : Heap) :
    C T 46 [a, .str nm] H = some (strsV (valsL l nm), H) := by
  refine anyH fd46 rfl (by simp [closedL, hf.closed, AV.closed]) ?_ H
  rw [q46]
  have hs := hf.snap 63 []
  obtain ⟨e', H', v', x1, x2, x3⟩ := rvals_loop nm hn a l hf hl l.length 0 [] nls [] (by omega) (by simp) (.inl ⟨rfl, rfl, rfl⟩)
  simp only [List.drop_zero, List.nil_append, Int.natCast_zero] at x1 x3
  obtain ⟨H2, x4⟩ := x3.snap 63 (scells_snap 62 _)
  simp [d46, hs, x1, x2, x4, strsV]
def rdR (m : Int) (s : Seg) : List AV := rnumR 10 m (fun c => isDg c.toNat) dgI s
theorem rdR_some {m : Int} {s : Seg} {n : Int} (h : decO m s = some n) : rdR m s = [.int .i64 n, .int .i64 0, .int .i64 0] := by
  unfold decO at h
  unfold rdR rnumR
  by_cases hs : s = []
  · rw [if_pos hs] at h; cases h
  · rw [if_neg hs] at h ⊢
    cases hf : firstBad (fun c => isDg c.toNat) s 0 with
    | some j => rw [hf] at h; cases h
    | none =>
      rw [hf] at h
      simp only at h ⊢
      rw [h]
theorem rdR_none {m : Int} {s : Seg} (h : decO m s = none) : ∃ a c : Int, a ≠ 0 ∧ rdR m s = [.int .i64 0, .int .i64 a, .int .i64 c] := by
  unfold decO at h
  unfold rdR rnumR
  by_cases hs : s = []
  · rw [if_pos hs]; exact ⟨400, 0, by decide, rfl⟩
  · rw [if_neg hs] at h ⊢
    cases hf : firstBad (fun c => isDg c.toNat) s 0 with
    | some j => exact ⟨400, j, by decide, rfl⟩
    | none =>
      rw [hf] at h
      simp only at h ⊢
      rw [h]
      exact ⟨413, 0, by decide, rfl⟩
def rlen (l : List Fld) : Int := if lenB l = true then lenN l else -1
theorem itoT_nat (n : Nat) : itoT n = decT 20 n := by
  unfold itoT
  rw [if_pos (by omega)]
  rfl
theorem rlength_ok (a : AV) (l : List Fld) (hf : FV a l) (hl : Small l) (H : Heap) : C T 28 [a] H = some (.int .i64 (rlen l), H) := by
  refine anyH fd28 rfl (by simp [closedL, hf.closed]) ?_ H
  rw [q28]
  have hs := hf.snap 63 []
  have hll := hl.len
  have hv := rvalues_ok cl14 (by decide) a l hf hl []
  have hle := valsL_len l cl14
  have hvl : ∀ v ∈ valsL l cl14, v.length < 1000000000 := by
    intro v hv
    unfold valsL at hv
    obtain ⟨f, hf1, rfl⟩ := List.mem_map.1 hv
    exact (hl.str f (List.mem_filter.1 hf1).1).2
  unfold rlen lenN lenB lenS
  match hm : valsL l cl14 with
  | [] =>
    rw [hm] at hv
    simp [d28, hs, hv, strsV, accV]
  | v :: w :: r =>
    rw [hm] at hv hle
    simp only [List.length_cons] at hle
    simp (disch := omega) [d28, hs, hv, strsV, accV]
  | [v] =>
    rw [hm] at hv
    have hvv := hvl v (by rw [hm]; simp)
    have hp := rparse_ok (m := 1073741824) rdec (by decide) (by decide) v hvv []
    have hp : C T 47 [.str v, .int .i64 10, .int .i64 1073741824] [] = some (.tup (rdR 1073741824 v), []) := hp
    simp only
    cases hd : decO most30 v with
    | none =>
      obtain ⟨a1, c1, h0, hd1⟩ := rdR_none hd
      rw [hd1] at hp
      simp [d28, hs, hv, strsV, accV, hp, h0]
    | some n =>
      obtain ⟨n0, n1⟩ := decO_rng (by decide) hd
      have n1 : n ≤ 1073741824 := n1
      rw [rdR_some hd] at hp
      obtain ⟨k, rfl⟩ := Int.eq_ofNat_of_zero_le n0
      have ht := rtext_ok k (by omega) (by omega) []
      rw [itoT_nat] at ht
      by_cases hq : decT 20 k = v
      · simp [d28, hs, hv, strsV, accV, hp, ht, hq]
      · have hq' : (decT 20 k == v) = false := by simpa using hq
        simp [d28, hs, hv, strsV, accV, hp, ht, hq']
end Go.Eng.S
