/- Texts of numbers: strconv.Itoa and the reference's Decimal. The first line of a response, the line of a field. The lines that a response begins with. No condition. -/
import Derived.Test.YtgjgcjhmaibblaaGreatDoorM2
namespace Go.Eng.S
open Go Go.Eng
set_option linter.unusedSectionVars false
variable [Sit]
set_option maxRecDepth 20000
def sm10 : List UInt8 := [48, 49, 50, 51, 52, 53, 54, 55, 56, 57, 97, 98, 99, 100, 101, 102, 103, 104, 105, 106, 107, 108, 109, 110, 111, 112, 113, 114, 115, 116, 117, 118, 119, 120, 121, 122]
theorem small_all : (List.range 100).all (fun v => if v < 10 then (sm10.take (v + 1)).drop v == decT 20 v else (smT.take (v * 2 + 2)).drop (v * 2) == decT 20 v) = true := by kernel_rfl
theorem small_at (v : Nat) (h : v < 100) : if v < 10 then (sm10.take (v + 1)).drop v = decT 20 v else (smT.take (v * 2 + 2)).drop (v * 2) = decT 20 v := by
  have := List.all_eq_true.1 small_all v (List.mem_range.2 h)
  split at this
  · rename_i h; rw [if_pos h]; simpa only [beq_iff_eq] using this
  · rename_i h; rw [if_neg h]; simpa only [beq_iff_eq] using this
theorem small_ok (v : Nat) (h : v < 100) (H : Heap) : C T 96 [.int .i64 v] H = some (.str (decT 20 v), H) := by
  refine anyH fd96 rfl rfl ?_ H
  have hs := small_at v h
  rw [q96]
  have ta : ((v : Int) * 2).toNat = v * 2 := by omega
  have ta1 : ((v : Int) * 2 + 2).toNat = v * 2 + 2 := by omega
  by_cases h10 : v < 10
  · rw [if_pos h10] at hs
    simp only [sm10] at hs
    simp (disch := omega) [d96]
    exact hs
  · rw [if_neg h10] at hs
    simp only [smT] at hs
    simp (disch := omega) [d96, ta, ta1]
    exact hs
/-- The text of a number. -/
def itoT (x : Int) : List UInt8 := if 0 ≤ x then decT 20 x.toNat else 45 :: decT 20 (-x).toNat
abbrev z24 : List AV := [.int .u8 0, .int .u8 0, .int .u8 0, .int .u8 0, .int .u8 0, .int .u8 0, .int .u8 0, .int .u8 0, .int .u8 0, .int .u8 0, .int .u8 0, .int .u8 0, .int .u8 0, .int .u8 0, .int .u8 0, .int .u8 0, .int .u8 0, .int .u8 0, .int .u8 0, .int .u8 0, .int .u8 0, .int .u8 0, .int .u8 0, .int .u8 0]
theorem z24_eq (n : Nat) (h : n ≤ 20) : z24 = bcells (0 :: (List.replicate n 0 ++ List.replicate (23 - n) 0)) := by
  rw [List.replicate_append_replicate, show n + (23 - n) = 23 by omega]
  rfl
theorem hget_p (P Q R : List UInt8) (off n : Nat) (ho : off = P.length) (hn : n = Q.length) : hget [⟨bcells (P ++ (Q ++ R)), 0, true, .no⟩] 0 off n 0 = some (bcells Q) := by
  have e : (bcells (P ++ (Q ++ R))).drop off = bcells (Q ++ R) := by rw [bcells_app, ho, ← bcells_len P]; exact List.drop_left
  have e2 : (bcells (Q ++ R)).take n = bcells Q := by rw [bcells_app, hn, ← bcells_len Q]; exact List.take_left
  have e3 : (bcells (P ++ (Q ++ R))).length = P.length + (Q.length + R.length) := by simp [bcells_len]
  show (if 0 = 0 ∧ off + n ≤ (bcells (P ++ (Q ++ R))).length then some (((bcells (P ++ (Q ++ R))).drop off).take n) else none) = _
  rw [e, e2, e3, if_pos ⟨rfl, by omega⟩]
set_option maxHeartbeats 1000000 in
theorem fmt_ok (x : Int) (h1 : -9223372036854775808 ≤ x) (h2 : x < 9223372036854775808) (H : Heap) : C T 93 [.int .i64 x, .int .i64 10] H = some (.str (itoT x), H) := by
  refine anyH fd93 rfl rfl ?_ H
  rw [q93]
  by_cases hs : 0 ≤ x ∧ x < 100
  · obtain ⟨v, rfl⟩ := Int.eq_ofNat_of_zero_le hs.1
    have hv : v < 100 := by omega
    have hc := small_ok v hv
    have e : itoT v = decT 20 v := by unfold itoT; rw [if_pos (by omega)]; rfl
    simp (disch := omega) [d93, hc, e]
  · have hz : hget [⟨z24, 0, true, .no⟩] 0 0 24 0 = some z24 := rfl
    obtain ⟨u, hux, hu0, hu1⟩ : ∃ u : Nat, (u = x ∨ x = -(u : Int)) ∧ 0 < u ∧ u < 18446744073709551616 := ⟨x.natAbs, by omega, by omega, by omega⟩
    obtain ⟨k, g1, g2, g3, g4⟩ := nd_ok u hu1 hu0
    have hf := fb10_ok (k + 1) g3 0 (List.replicate (k + 1) 0) (List.replicate (23 - (k + 1)) 0) (by simp) u g1
    rw [← z24_eq (k + 1) g3] at hf
    have hd := decT_dk k 20 u g1 g2 g3
    have hD := dk_len (k + 1) u
    have hS : (List.replicate (23 - (k + 1)) (0 : UInt8)).length = 23 - (k + 1) := by simp
    generalize dk (k + 1) u = D at *
    generalize List.replicate (23 - (k + 1)) (0 : UInt8) = S at *
    have ga := fun c : UInt8 => hget_p [] (c :: (D ++ S)) [] 0 24 rfl (by simp; omega)
    have gb := fun c : UInt8 => hget_p [] (c :: D) S 0 (k + 2) rfl (by simp; omega)
    have gc := hget_p [0] D S 1 (k + 1) rfl (by omega)
    have gd := hset_b (0 :: (D ++ S)) 0 0 45 (by simp)
    have hb1 := bytesOf_bcells D
    have hb2 := bytesOf_bcells (45 :: D)
    simp only [List.nil_append, List.append_nil, List.cons_append, List.set_cons_zero] at ga gb gc gd
    have t1 : (1 + ((k : Int) + 1)).toNat = k + 2 := by omega
    push_cast at g4
    have gd' : hset [⟨bcells (0 :: (D ++ S)), 0, true, .no⟩] 0 0 0 [.int .u8 45] = some [⟨bcells (45 :: (D ++ S)), 0, true, .no⟩] := gd
    by_cases hn : x < 0
    · have e : itoT x = 45 :: D := by unfold itoT; rw [if_neg (by omega), show (-x).toNat = u by omega, hd]
      have w1 : IntKind.u64.wrap x = x + 18446744073709551616 := by rw [IntKind.wrap_u64]; omega
      have w2 : IntKind.u64.wrap (-(x + 18446744073709551616)) = (u : Int) := by rw [IntKind.wrap_u64]; omega
      simp (disch := omega) [d93, w1, w2, g4, hf, e, hz, t1, ga, gb, gd', hb2]
      done
    · obtain rfl : (u : Int) = x := by omega
      have e : itoT u = D := by unfold itoT; rw [if_pos (by omega)]; exact hd
      simp (disch := omega) [d93, wrU64, g4, hf, e, hz, t1, ga, gc, hb1]
      done
theorem itoa_ok (x : Int) (h1 : -9223372036854775808 ≤ x) (h2 : x < 9223372036854775808) (H : Heap) : C T 73 [.int .i64 x] H = some (.str (itoT x), H) := by
  have hi : ∀ H, C T 88 [.int .i64 x] H = some (.str (itoT x), H) := by
    intro H
    refine anyH fd88 rfl rfl ?_ H
    rw [q88]
    simp [d88, fmt_ok x h1 h2]
  refine anyH fd73 rfl rfl ?_ H
  rw [q73]
  simp [d73, hi]
end Go.Eng.S
namespace Go.Eng.S
open Go Go.Eng
set_option linter.unusedSectionVars false
variable [Sit]
set_option maxRecDepth 20000
abbrev Seg := List UInt8
theorem c_TypeOf (a : List AV) (H : Heap) : C T 35 a H = pTypeOf R a H := C_prim (by kernel_rfl) a H
theorem c_Comp (a : List AV) (H : Heap) : C T 127 a H = pComparable R a H := C_prim (by kernel_rfl) a H
theorem m_Comp : T.meth 92 "Comparable" = some (127, none) := by kernel_rfl
theorem eq_S : T.eqt 25 = some .int := by kernel_rfl
theorem im_S1 : T.impl 94 25 = some false := by kernel_rfl
theorem im_S2 : T.impl 97 25 = some false := by kernel_rfl
theorem im_S3 : T.impl 99 25 = some false := by kernel_rfl
abbrev sts (a : Int) : AV := .iface 25 (.int .i64 a)
theorem is1_ok (a b : Int) (H : Heap) : C T 36 [sts a, sts b, .bool true] H = some (.bool (a == b), H) := by
  refine anyH fd36 rfl rfl ?_ H
  have hx : ∃ e' x, XL T [0, 1, 2] L36_1 [(0, sts a), (1, sts b), (2, .bool true)] [] = some (.ret, e', []) ∧ e'.get 6 = .bool x ∧ x = (a == b) := by
    rw [XL_eq]
    generalize XL T [0, 1, 2] L36_1 = lp at *
    by_cases hab : a = b
    · subst hab
      simp [L36_1, aeq, eq_S]
    · have hb : (a == b) = false := by simpa using hab
      simp [L36_1, aeq, eq_S, hb, im_S1, im_S2, im_S3]
  obtain ⟨e', x, h1, h2, rfl⟩ := hx
  rw [q36]
  simp [d36, h1, h2]
theorem Is1_ok (a b : Int) (H : Heap) : C T 18 [sts a, sts b] H = some (.bool (a == b), H) := by
  have hi := is1_ok a b
  refine anyH fd18 rfl rfl ?_ H
  rw [q18]
  simp [d18, hi, c_TypeOf, pTypeOf, RInfo.ty, R, invokeM, m_Comp, c_Comp, pComparable, compT, kindT, RInfo.unh, RInfo.h, aeq]
/-- The reasons. -/
def finB (s : Int) : Bool := s == 400 || s == 413 || s == 414 || s == 431 || s == 501 || s == 505
def finR (s : Int) : Seg := if s = 400 then [66, 97, 100, 32, 82, 101, 113, 117, 101, 115, 116] else if s = 413 then [67, 111, 110, 116, 101, 110, 116, 32, 84, 111, 111, 32, 76, 97, 114, 103, 101] else if s = 414 then [85, 82, 73, 32, 84, 111, 111, 32, 76, 111, 110, 103] else if s = 431 then [82, 101, 113, 117, 101, 115, 116, 32, 72, 101, 97, 100, 101, 114, 32, 70, 105, 101, 108, 100, 115, 32, 84, 111, 111, 32, 76, 97, 114, 103, 101] else if s = 501 then [78, 111, 116, 32, 73, 109, 112, 108, 101, 109, 101, 110, 116, 101, 100] else [72, 84, 84, 80, 32, 86, 101, 114, 115, 105, 111, 110, 32, 78, 111, 116, 32, 83, 117, 112, 112, 111, 114, 116, 101, 100]
def plaR (s : Int) : Seg := if s = 200 then [79, 75] else if s = 301 then [77, 111, 118, 101, 100, 32, 80, 101, 114, 109, 97, 110, 101, 110, 116, 108, 121] else if s = 401 then [85, 110, 97, 117, 116, 104, 111, 114, 105, 122, 101, 100] else if s = 404 then [78, 111, 116, 32, 70, 111, 117, 110, 100] else [77, 101, 116, 104, 111, 100, 32, 78, 111, 116, 32, 65, 108, 108, 111, 119, 101, 100]
def S5 : List Int := [200, 301, 401, 404, 405]
def rsn (s : Int) : Seg := if finB s = true then finR s else if s ∈ S5 then plaR s else []
theorem final_ok (s : Int) (H : Heap) : C T 74 [.int .i64 s] H = some (.bool (finB s), H) := by
  refine anyH fd74 rfl rfl ?_ H
  rw [q74]
  unfold finB
  cases h1 : s == 400 <;> cases h2 : s == 413 <;> cases h3 : s == 414 <;> cases h4 : s == 431 <;> cases h5 : s == 501 <;> cases h6 : s == 505 <;> simp [d74, h1, h2, h3, h4, h5, h6]
theorem finR_ok (s : Int) (H : Heap) : C T 75 [.int .i64 s] H = some (.str (finR s), H) := by
  refine anyH fd75 rfl rfl ?_ H
  rw [q75]
  unfold finR
  by_cases h1 : s = 400
  · simp [d75, h1]
  by_cases h2 : s = 413
  · simp [d75, h2]
  by_cases h3 : s = 414
  · simp [d75, h3]
  by_cases h4 : s = 431
  · simp [d75, h4]
  by_cases h5 : s = 501
  · simp [d75, h5]
  simp [d75, h1, h2, h3, h4, h5]
theorem plaR_ok (s : Int) (H : Heap) : C T 76 [.int .i64 s] H = some (.str (plaR s), H) := by
  refine anyH fd76 rfl rfl ?_ H
  rw [q76]
  unfold plaR
  by_cases h1 : s = 200
  · simp [d76, h1]
  by_cases h2 : s = 301
  · simp [d76, h2]
  by_cases h3 : s = 401
  · simp [d76, h3]
  by_cases h4 : s = 404
  · simp [d76, h4]
  simp [d76, h1, h2, h3, h4]
abbrev c5 : List AV := S5.map (.int .i64)
theorem rs_loop (s : Int) : ∀ (k i : Nat), i + k = 5 →
    ∃ e', XL T [0, 9, 10, 11] L59_0 [(0, .int .i64 s), (9, .sl true 5 1 c5), (10, .int .i64 5), (11, .int .i64 i)] [] = some (if s ∈ S5.drop i then .ret else .exit 0, e', []) ∧ (s ∈ S5.drop i → e'.get 2 = .str (plaR s))
  | 0, i, hk => by
    have : i = 5 := by omega
    subst this
    rw [XL_eq]
    simp [L59_0, S5]
  | k + 1, i, hk => by
    have hlt : i < S5.length := by show i < 5; omega
    have hlt5 : (i : Int) < 5 := by omega
    have hd : S5.drop i = S5[i] :: S5.drop (i + 1) := List.drop_eq_getElem_cons hlt
    have hdc : c5.drop i = .int .i64 S5[i] :: c5.drop (i + 1) := by
      rw [List.drop_eq_getElem_cons (by simpa [c5] using hlt)]; simp [c5]
    have ih := rs_loop s k (i + 1) (by omega)
    push_cast at ih
    have hp := plaR_ok S5[i]
    have hi := Is1_ok s S5[i]
    rw [XL_eq, hd]
    simp only [List.mem_cons]
    generalize XL T [0, 9, 10, 11] L59_0 = lp at *
    generalize c5 = cs at *
    generalize hx : S5[i] = x at *
    by_cases hc : s = x
    · subst hc
      simp (disch := omega) [L59_0, hlt5, hdc, hi, hp]
    · have hb : (s == x) = false := by simpa using hc
      rw [hb] at hi
      simp (disch := omega) [L59_0, hlt5, hdc, hi, hc]
      exact ih
theorem reason_ok (s : Int) (H : Heap) : C T 59 [.int .i64 s] H = some (.str (rsn s), H) := by
  refine anyH fd59 rfl rfl ?_ H
  rw [q59]
  have hf := final_ok s
  unfold rsn
  cases h : finB s with
  | true =>
    rw [h] at hf
    simp [d59, hf, finR_ok]
  | false =>
    rw [h] at hf
    obtain ⟨e', x1, x2⟩ := rs_loop s 5 0 rfl
    simp only [List.drop_zero, Int.natCast_zero, c5, S5, List.map_cons, List.map_nil] at x1 x2
    by_cases hm : s ∈ S5
    · have hm' : s ∈ [200, 301, 401, 404, 405] := hm
      rw [if_pos hm'] at x1
      rw [if_pos hm]
      simp [d59, hf, x1, x2 hm']
    · have hm' : ¬ s ∈ [200, 301, 401, 404, 405] := hm
      rw [if_neg hm'] at x1
      rw [if_neg hm]
      simp [d59, hf, x1]
end Go.Eng.S
namespace Go.Eng.S
open Go Go.Eng
set_option linter.unusedSectionVars false
variable [Sit]
set_option maxRecDepth 20000
abbrev stx : Seg := [115, 116, 97, 116, 117, 115, 32]
theorem itoT_len (x : Int) : (itoT x).length ≤ 21 := by
  have hl : ∀ k n, (decT k n).length ≤ k := by
    intro k
    induction k with
    | zero => intro n; simp [decT]
    | succ k ih =>
      intro n
      unfold decT
      split
      · simp
      · have := ih (n / 10); simp; omega
  unfold itoT
  split
  · have := hl 20 x.toNat; omega
  · have := hl 20 (-x).toNat; simp; omega
theorem serr_ok (s : Int) (h1 : -9223372036854775808 ≤ s) (h2 : s < 9223372036854775808) (H : Heap) : C T 58 [.int .i64 s] H = some (.str (stx ++ itoT s), H) := by
  refine anyH fd58 rfl rfl ?_ H
  rw [q58]
  have hL : 7 + (itoT s).length ≤ LIM := by have := itoT_len s; unfold LIM; omega
  simp (disch := omega) [d58, itoa_ok s h1 h2, hL]
theorem hpS_ok (t : Seg) (H : Heap) : C T 87 [.str (stx ++ t), .str stx] H = some (.bool true, H) := by
  refine anyH fd87 rfl rfl ?_ H
  rw [q87]
  simp (disch := omega) [d87]
theorem tpS_ok (t : Seg) (H : Heap) : C T 57 [.str (stx ++ t), .str stx] H = some (.str t, H) := by
  have h0 : ∀ H, C T 72 [.str (stx ++ t), .str stx] H = some (.str t, H) := by
    intro H
    refine anyH fd72 rfl rfl ?_ H
    rw [q72]
    have h := hpS_ok t
    simp only [List.cons_append, List.nil_append] at h
    simp (disch := omega) [d72, h]
  refine anyH fd57 rfl rfl ?_ H
  rw [q57]
  simp only [List.cons_append, List.nil_append] at h0
  simp [d57, h0]
abbrev ht9 : Seg := [72, 84, 84, 80, 47, 49, 46, 49, 32]
def fstL (s : Int) : Seg := ht9 ++ (itoT s ++ 32 :: rsn s)
theorem rsn_len (s : Int) : (rsn s).length ≤ 31 := by
  unfold rsn finR plaR
  repeat' split
  all_goals simp
theorem first_ok (s : Int) (h1 : -9223372036854775808 ≤ s) (h2 : s < 9223372036854775808) (H : Heap) : C T 38 [.int .i64 s] H = some (.str (fstL s), H) := by
  refine anyH fd38 rfl rfl ?_ H
  rw [q38]
  have g1 := serr_ok s h1 h2
  have g2 := tpS_ok (itoT s)
  have g3 := reason_ok s
  have l1 := itoT_len s
  have l2 := rsn_len s
  unfold fstL
  generalize itoT s = t at *
  generalize rsn s = r at *
  simp only [List.cons_append, List.nil_append] at g1 g2
  have b1 : 9 + t.length ≤ LIM := by unfold LIM; omega
  have b2 : 9 + t.length + 1 ≤ LIM := by unfold LIM; omega
  have b3 : 9 + t.length + 1 + r.length ≤ LIM := by unfold LIM; omega
  have b1' : t.length + 9 ≤ LIM := by omega
  have b2' : t.length + 9 + 1 ≤ LIM := by omega
  have b3' : t.length + 9 + 1 + r.length ≤ LIM := by omega
  have b4 : t.length + (1 + 9) ≤ LIM := by omega
  simp (disch := omega) [d38, g1, g2, g3, b1, b2', b3']
abbrev Fld := Seg × Seg
def fldT (f : Fld) : Seg := f.1 ++ 58 :: 32 :: f.2
theorem ftext_ok (f : Fld) (hl : f.1.length + f.2.length + 2 ≤ LIM) (H : Heap) : C T 39 [.agg [.str f.1, .str f.2]] H = some (.str (fldT f), H) := by
  refine anyH fd39 rfl rfl ?_ H
  rw [q39]
  obtain ⟨n, v⟩ := f
  simp only at hl
  have b1 : n.length + 2 ≤ LIM := by omega
  have b2 : n.length + 2 + v.length ≤ LIM := by omega
  simp (disch := omega) [d39, hget, b1, b2, fldT]
/-- The cells of fields. -/
def fcells (l : List Fld) : List AV := l.flatMap fun f => [.str f.1, .str f.2]
theorem fcells_cons (f : Fld) (l : List Fld) : fcells (f :: l) = .str f.1 :: .str f.2 :: fcells l := rfl
theorem fcells_len : ∀ l : List Fld, (fcells l).length = 2 * l.length
  | [] => rfl
  | f :: l => by have := fcells_len l; rw [fcells_cons]; simp; omega
theorem fc_drop : ∀ (l : List Fld) (i : Nat) (h : i < l.length), (fcells l).drop (i * 2) = .str l[i].1 :: .str l[i].2 :: fcells (l.drop (i + 1))
  | f :: l, 0, _ => rfl
  | f :: l, i + 1, h => by
    have := fc_drop l i (by simpa using h)
    have e : (i + 1) * 2 = i * 2 + 1 + 1 := by omega
    rw [fcells_cons, e, List.drop_succ_cons, List.drop_succ_cons, this]
    simp
end Go.Eng.S
