/- The reference: right responses. The reference: few fields, same responses. No condition. -/
import Derived.Test.YtgjgcjhmaibblaaGreatDoorMd
namespace Go.Eng.S
open Go Go.Eng
set_option linter.unusedSectionVars false
variable [Sit]
set_option maxRecDepth 20000
set_option maxHeartbeats 1000000 in
theorem rright_rnd (st : Int) (fs bd : AV) (l : List Fld) (hf : FV fs l) (hl : Small l) (i : Nat) (hlt : i < l.length) (H : Heap) (h0 : H[0]? = some (rowR st fs bd)) (lp : Env → Heap → XR) :
    ∃ e', seqK (X T L29_0 [(1, .ptr 0 0 0), (3, .int .i64 i)] H) (fun e' H' => lp (Env.keep [1, 3] e') H') =
      (if fldB l[i] = true then lp [(1, .ptr 0 0 0), (3, .int .i64 ((i : Int) + 1))] (H ++ [⟨[.str l[i].1, .str l[i].2], 0, true, .no⟩]) else some (.ret, e', H ++ [⟨[.str l[i].1, .str l[i].2], 0, true, .no⟩])) ∧ e'.get 2 = .bool false := by
  have hltI : (i : Int) < (l.length : Int) := by omega
  have hlen := hf.len
  have hia := fun H => hf.ia H hlt
  obtain ⟨hal, hbl⟩ := hl.str l[i] (List.getElem_mem hlt)
  have hll := hl.len
  have hw : IntKind.i64.wrap ((i : Int) + 1) = (i : Int) + 1 := wr64 (by omega) (by omega)
  generalize l[i] = f at *
  obtain ⟨a, b⟩ := f
  simp only at hal hbl hia ⊢
  have hgf : hget H 0 1 1 0 = some [fs] := by rw [hget_at h0]; simp
  have hst : hset (H ++ [⟨[.str [], .str []], 0, true, .no⟩]) H.length 0 0 [.str a, .str b] = some (H ++ [⟨[.str a, .str b], 0, true, .no⟩]) := by
    rw [hset_at (cs := [.str [], .str []]) (kd := .no) (by simp)]
    simp [splice]
  have hg : ∀ off, hget (H ++ [⟨[.str a, .str b], 0, true, .no⟩]) H.length off 1 0 = if off + 1 ≤ 2 then some ((([.str a, .str b] : List AV).drop off).take 1) else none := by
    intro off
    rw [hget_at (cs := [.str a, .str b]) (l := true) (kd := .no) (by simp)]
    rfl
  have c1 := ristok_ok a hal
  have c2 := rall_ok 5 (by decide) b hbl
  have c3 := rtrim_ok b hbl
  push_cast at c2
  unfold fldB
  simp only
  cases h1 : isTok a with
  | false =>
    rw [h1] at c1
    simp [L29_0, hltI, hgf, hlen, hia, hst, hg, c1, hnew]
  | true =>
    rw [h1] at c1
    cases h2 : b.all (clsB 5) with
    | false =>
      rw [h2] at c2
      simp [L29_0, hltI, hgf, hlen, hia, hst, hg, c1, c2, hnew]
    | true =>
      rw [h2] at c2
      by_cases h3 : trimR (trimL b) = b
      · rw [h3] at c3
        simp [L29_0, hltI, hgf, hlen, hia, hst, hg, c1, c2, c3, h3, hw, hnew]
        exact ⟨[(2, .bool false)], rfl⟩
      · have h3' : (trimR (trimL b) == b) = false := by simpa using h3
        simp [L29_0, hltI, hgf, hlen, hia, hst, hg, c1, c2, c3, h3', hnew]
theorem rright_loop (st : Int) (fs bd : AV) (l : List Fld) (hf : FV fs l) (hl : Small l) : ∀ (k i : Nat) (H : Heap), i + k = l.length → H[0]? = some (rowR st fs bd) →
    ∃ e' H', XL T [1, 3] L29_0 [(1, .ptr 0 0 0), (3, .int .i64 i)] H = some (if fldsB (l.drop i) = true then .exit 0 else .ret, e', H') ∧ (fldsB (l.drop i) = false → e'.get 2 = .bool false)
  | 0, i, H, hk, h0 => by
    have hd : l.drop i = [] := List.drop_eq_nil_of_le (by omega)
    have hlt : ¬ (i : Int) < (l.length : Int) := by omega
    have hlen := hf.len
    have hgf : hget H 0 1 1 0 = some [fs] := by rw [hget_at h0]; simp
    have hx : ∃ e', XL T [1, 3] L29_0 [(1, .ptr 0 0 0), (3, .int .i64 i)] H = some (.exit 0, e', H) := by
      rw [XL_eq]
      simp [L29_0, hlt, hgf, hlen]
    obtain ⟨e', x1⟩ := hx
    rw [hd]
    exact ⟨e', H, x1, fun h => by cases h⟩
  | k + 1, i, H, hk, h0 => by
    have hlt : i < l.length := by omega
    have hd : l.drop i = l[i] :: l.drop (i + 1) := List.drop_eq_getElem_cons hlt
    obtain ⟨e1, x1, x2⟩ := rright_rnd st fs bd l hf hl i hlt H h0 (XL T [1, 3] L29_0)
    have hcons : fldsB (l.drop i) = (fldB l[i] && fldsB (l.drop (i + 1))) := by rw [hd]; rfl
    rw [XL_eq, hcons]
    have hk1 : Env.keep [1, 3] [(1, .ptr 0 0 0), (3, .int .i64 i)] = [(1, .ptr 0 0 0), (3, .int .i64 i)] := by simp
    rw [hk1, x1]
    cases hf2 : fldB l[i] with
    | false => exact ⟨e1, _, rfl, fun _ => x2⟩
    | true =>
      obtain ⟨e', H', y1, y2⟩ := rright_loop st fs bd l hf hl k (i + 1) (H ++ [⟨[.str l[i].1, .str l[i].2], 0, true, .no⟩]) (by omega) (app_get h0)
      push_cast at y1
      exact ⟨e', H', by simpa using y1, by simpa using y2⟩
theorem rright25_ok (st : Int) (fs bd : AV) (l : List Fld) (b : Seg) (hf : FV fs l) (hb : BV bd b) (hl : Small l) (H : Heap) :
    C T 29 [.agg [.int .i64 st, fs, bd]] H = some (.bool (fldsB l && stB st), H) := by
  refine anyH fd29 rfl (by simp [closedL, AV.closed, hf.closed, hb.closed]) ?_ H
  rw [q29]
  have hs1 := hf.snap 62 []
  have hs2 := hb.snap 62 []
  have hc1 := hf.cell
  have hc2 := hb.cell
  have hg : hget [rowR st fs bd] 0 0 1 0 = some [.int .i64 st] := rfl
  obtain ⟨e', H', x1, x2⟩ := rright_loop st fs bd l hf hl l.length 0 [rowR st fs bd] (by omega) rfl
  simp only [List.drop_zero, Int.natCast_zero] at x1 x2
  unfold stB
  by_cases h4 : 100 ≤ st
  · by_cases h5 : st ≤ 999
    · cases h1 : fldsB l with
      | false =>
        rw [h1] at x1
        simp only [Bool.false_eq_true, if_false] at x1
        simp (disch := omega) [d29, hs1, hs2, hc1, hc2, hg, x1, x2 h1]
      | true =>
        rw [h1] at x1
        simp only [if_true] at x1
        simp (disch := omega) [d29, hs1, hs2, hc1, hc2, hg, x1, h4, h5]
    · simp (disch := omega) [d29, hs1, hs2, hc1, hc2, hg, h5]
  · simp (disch := omega) [d29, hs1, hs2, hc1, hc2, hg, h4]
theorem rightB_alt (st : Int) (l : List Fld) (b : Seg) (br : Bool) : rightB st l b br = (decide (0 ≤ rlen l) && (fldsB l && stB st) && (if br = true then b.isEmpty else rlen l == b.length)) := by
  have hr := lenN_rng l
  unfold rightB rlen
  cases lenB l with
  | false => simp
  | true =>
    have h1 := hr.1
    cases br <;> cases fldsB l <;> cases stB st <;> simp [h1]
set_option maxHeartbeats 1000000 in
theorem rright_ok (st : Int) (fs bd : AV) (l : List Fld) (b : Seg) (hf : FV fs l) (hb : BV bd b) (hl : Small l) (hbl : b.length < 4611686018427387904) (br : Bool) (H : Heap) :
    C T 12 [.agg [.int .i64 st, fs, bd], .bool br] H = some (.bool (rightB st l b br), H) := by
  refine anyH fd12 rfl (by simp [closedL, AV.closed, hf.closed, hb.closed]) ?_ H
  rw [q12, rightB_alt]
  have hs1 := hf.snap 62 []
  have hs2 := hb.snap 62 []
  have hc1 := hf.cell
  have hc2 := hb.cell
  have hg : ∀ off, hget [rowR st fs bd] 0 off 1 0 = if off + 1 ≤ 3 then some ((([.int .i64 st, fs, bd] : List AV).drop off).take 1) else none := fun off => by
    rw [hget_at (cs := [.int .i64 st, fs, bd]) (l := true) (kd := .no) rfl]
    rfl
  have hg3 : hget [rowR st fs bd] 0 0 3 0 = some [.int .i64 st, fs, bd] := rfl
  have c28 := rlength_ok fs l hf hl
  have c29 := rright25_ok st fs bd l b hf hb hl
  have hbv := hb.len
  have hbe := bv_isEmpty b
  generalize rlen l = n at *
  generalize (fldsB l && stB st) = q at *
  by_cases hn : 0 ≤ n
  · cases q with
    | false => simp (disch := omega) [d12, hs1, hs2, hc1, hc2, hg, hg3, c28, c29, hn]
    | true =>
      cases br with
      | true =>
        cases h3 : b.isEmpty with
        | false =>
          rw [h3] at hbe
          simp (disch := omega) [d12, hs1, hs2, hc1, hc2, hg, hg3, c28, c29, hn, hbv, hbe]
        | true =>
          rw [h3] at hbe
          simp (disch := omega) [d12, hs1, hs2, hc1, hc2, hg, hg3, c28, c29, hn, hbv, hbe]
      | false => cases h3 : n == (b.length : Int) <;> simp (disch := omega) [d12, hs1, hs2, hc1, hc2, hg, hg3, c28, c29, hn, hbv, h3]
  · simp (disch := omega) [d12, hs1, hs2, hc1, hc2, hg, c28, hn]
end Go.Eng.S
namespace Go.Eng.S
open Go Go.Eng
set_option linter.unusedSectionVars false
variable [Sit]
set_option maxRecDepth 20000
def fewF (f : Fld) : Bool := decide (f.1.length ≤ 100) && decide (f.2.length ≤ 300)
def few11 (l : List Fld) : Bool := l.all fewF && decide (l.length ≤ 40)
structure Huge (l : List Fld) : Prop where
  len : l.length < 9223372036854775808
  str : ∀ f ∈ l, f.1.length < 9223372036854775808 ∧ f.2.length < 9223372036854775808
theorem few_loop (a : AV) (l : List Fld) (hf : FV a l) (hl : Huge l) : ∀ (k i : Nat), i + k = l.length →
    ∃ e', XL T [0, 3] L19_0 [(0, a), (3, .int .i64 i)] [] = some (if (l.drop i).all fewF = true then .exit 0 else .ret, e', []) ∧ ((l.drop i).all fewF = true → e'.get 0 = a) ∧ ((l.drop i).all fewF = false → e'.get 2 = .bool false)
  | 0, i, hk => by
    have hd : l.drop i = [] := List.drop_eq_nil_of_le (by omega)
    have hlt : ¬ (i : Int) < (l.length : Int) := by omega
    have hlen := hf.len
    rw [XL_eq, hd]
    simp [L19_0, hlen, hlt]
  | k + 1, i, hk => by
    have hlt : i < l.length := by omega
    have hltI : (i : Int) < (l.length : Int) := by omega
    have hm := hl.len
    have hlen := hf.len
    have hia := fun H => hf.ia H hlt
    have hd : l.drop i = l[i] :: l.drop (i + 1) := List.drop_eq_getElem_cons hlt
    have ih := few_loop a l hf hl k (i + 1) (by omega)
    push_cast at ih
    have hp := hl.str l[i] (List.getElem_mem hlt)
    have hw : IntKind.i64.wrap ((i : Int) + 1) = (i : Int) + 1 := wr64 (by omega) (by omega)
    rw [hd, XL_eq, List.all_cons]
    generalize XL T [0, 3] L19_0 = lp at *
    generalize (l.drop (i + 1)).all fewF = R at *
    generalize l[i] = f at *
    obtain ⟨x, y⟩ := f
    unfold fewF
    simp only at hp hia ⊢
    by_cases hc : x.length ≤ 100
    · by_cases hc2 : y.length ≤ 300
      · simp (disch := omega) [L19_0, hlen, hltI, hia, hc, hc2, hw]
        exact ih
      · simp (disch := omega) [L19_0, hlen, hltI, hia, hc, hc2]
    · simp (disch := omega) [L19_0, hlen, hltI, hia, hc]
theorem few11_ok (a : AV) (l : List Fld) (hf : FV a l) (hl : Huge l) (H : Heap) : C T 19 [a] H = some (.bool (few11 l), H) := by
  refine anyH fd19 rfl (by simp [closedL, hf.closed]) ?_ H
  rw [q19]
  have hs := hf.snap 63 []
  have hlen := hf.len
  have hm := hl.len
  obtain ⟨e', x1, x2, x3⟩ := few_loop a l hf hl l.length 0 (by omega)
  simp only [List.drop_zero, Int.natCast_zero] at x1 x2 x3
  unfold few11
  cases h1 : l.all fewF with
  | false =>
    rw [h1] at x1
    simp only [Bool.false_eq_true, if_false] at x1
    simp [d19, hs, x1, x3 h1]
  | true =>
    rw [h1] at x1
    simp only [if_true] at x1
    by_cases h40 : l.length ≤ 40
    · have : (l.length : Int) ≤ 40 := by omega
      simp [d19, hs, x1, x2 h1, hlen, h40, this]
    · have : ¬ (l.length : Int) ≤ 40 := by omega
      simp [d19, hs, x1, x2 h1, hlen, h40, this]
def few25 (l : List Fld) (b : Seg) : Bool := few11 l && decide (b.length ≤ 2000)
theorem few25_ok (st : Int) (fs bd : AV) (l : List Fld) (b : Seg) (hf : FV fs l) (hb : BV bd b) (hl : Huge l) (hbl : b.length < 9223372036854775808) (H : Heap) :
    C T 8 [.agg [.int .i64 st, fs, bd]] H = some (.bool (few25 l b), H) := by
  refine anyH fd8 rfl (by simp [closedL, AV.closed, hf.closed, hb.closed]) ?_ H
  rw [q8]
  have hs1 := hf.snap 62 []
  have hs2 := hb.snap 62 []
  have hc1 := hf.cell
  have hc2 := hb.cell
  have hg : ∀ off, hget [rowR st fs bd] 0 off 1 0 = if off + 1 ≤ 3 then some ((([.int .i64 st, fs, bd] : List AV).drop off).take 1) else none := fun off => by
    rw [hget_at (cs := [.int .i64 st, fs, bd]) (l := true) (kd := .no) rfl]
    rfl
  have c19 := few11_ok fs l hf hl
  have hbv := hb.len
  unfold few25
  cases h1 : few11 l with
  | false =>
    rw [h1] at c19
    simp [d8, hs1, hs2, hc1, hc2, hg, c19]
  | true =>
    rw [h1] at c19
    by_cases h2 : b.length ≤ 2000
    · have : (b.length : Int) ≤ 2000 := by omega
      simp [d8, hs1, hs2, hc1, hc2, hg, c19, hbv, h2, this]
    · have : ¬ (b.length : Int) ≤ 2000 := by omega
      simp [d8, hs1, hs2, hc1, hc2, hg, c19, hbv, h2, this]
theorem aeq_fld (a b c d : Seg) : aeq T 9 (.struct [(0, .str), (1, .str)]) false (.agg [.str a, .str b]) (.agg [.str c, .str d]) = some (a == c && b == d) := by
  have e1 : aeq T 8 .str true (.str a) (.str c) = some (a == c) := rfl
  have e2 : aeq T 8 .str true (.str b) (.str d) = some (b == d) := rfl
  show (match aeq T 8 .str true (.str a) (.str c) with
    | some true => (match aeq T 8 .str true (.str b) (.str d) with
      | some true => some true
      | some false => some false
      | none => none)
    | some false => some false
    | none => none) = _
  rw [e1, e2]
  cases a == c <;> cases b == d <;> rfl
theorem same_loop (a m : AV) (l k2 : List Fld) (hf : FV a l) (hg : FV m k2) (hll : l.length < 1000000000) (he : l.length = k2.length) : ∀ (k i : Nat), i + k = l.length →
    ∃ e', XL T [0, 1, 5] L55_0 [(0, a), (1, m), (5, .int .i64 i)] [] = some (if l.drop i = k2.drop i then .exit 0 else .ret, e', []) ∧ (¬ l.drop i = k2.drop i → e'.get 4 = .bool false)
  | 0, i, hk => by
    have hd : l.drop i = [] := List.drop_eq_nil_of_le (by omega)
    have hd2 : k2.drop i = [] := List.drop_eq_nil_of_le (by omega)
    have hlt : ¬ (i : Int) < (l.length : Int) := by omega
    have hlen := hf.len
    rw [XL_eq, hd, hd2]
    simp [L55_0, hlen, hlt]
  | k + 1, i, hk => by
    have hlt : i < l.length := by omega
    have hlt2 : i < k2.length := by omega
    have hltI : (i : Int) < (l.length : Int) := by omega
    have hlen := hf.len
    have hia := fun H => hf.ia H hlt
    have hib := fun H => hg.ia H hlt2
    have hd : l.drop i = l[i] :: l.drop (i + 1) := List.drop_eq_getElem_cons hlt
    have hd2 : k2.drop i = k2[i] :: k2.drop (i + 1) := List.drop_eq_getElem_cons hlt2
    have ih := same_loop a m l k2 hf hg hll he k (i + 1) (by omega)
    push_cast at ih
    have hw : IntKind.i64.wrap ((i : Int) + 1) = (i : Int) + 1 := wr64 (by omega) (by omega)
    rw [hd, hd2, XL_eq]
    generalize XL T [0, 1, 5] L55_0 = lp at *
    generalize l[i] = f at *
    generalize k2[i] = g at *
    obtain ⟨x, y⟩ := f
    obtain ⟨z, w⟩ := g
    simp only at hia hib ⊢
    have hq := aeq_fld x y z w
    by_cases hc : x = z ∧ y = w
    · obtain ⟨rfl, rfl⟩ := hc
      simp only [beq_self_eq_true, Bool.and_self] at hq
      simp (disch := omega) [L55_0, hlen, hltI, hia, hib, hq, hw]
      exact ih
    · have hqb : (x == z && y == w) = false := by
        rw [Bool.and_eq_false_iff, beq_eq_false_iff_ne, beq_eq_false_iff_ne]
        by_cases h : x = z
        · exact .inr fun h2 => hc ⟨h, h2⟩
        · exact .inl h
      have hqc : ¬ ((x, y) :: l.drop (i + 1) = (z, w) :: k2.drop (i + 1)) := fun h => by
        have := (List.cons.inj h).1
        exact hc ⟨congrArg Prod.fst this, congrArg Prod.snd this⟩
      rw [hqb] at hq
      rw [if_neg hqc]
      simp only [hqc, not_false_eq_true, true_implies]
      simp (disch := omega) [L55_0, hlen, hltI, hia, hib, hq]
theorem same11_ok (a m : AV) (l k2 : List Fld) (hf : FV a l) (hg : FV m k2) (hll : l.length < 1000000000) (_hl2 : k2.length < 1000000000) (H : Heap) : C T 55 [a, m] H = some (.bool (decide (l = k2)), H) := by
  refine anyH fd55 rfl (by simp [closedL, hf.closed, hg.closed]) ?_ H
  rw [q55]
  have hs := hf.snap 63 []
  have hs2 := hg.snap 63 []
  have hlen := hf.len
  have hlen2 := hg.len
  by_cases he : l.length = k2.length
  · obtain ⟨e', x1, x2⟩ := same_loop a m l k2 hf hg hll he l.length 0 (by omega)
    simp only [List.drop_zero, Int.natCast_zero] at x1 x2
    have heI : (l.length : Int) = k2.length := by omega
    by_cases hq : l = k2
    · rw [if_pos hq] at x1
      simp (disch := omega) [d55, hs, hs2, hlen, hlen2, x1, hq]
    · rw [if_neg hq] at x1
      simp (disch := omega) [d55, hs, hs2, hlen, hlen2, heI, x1, x2 hq, hq]
  · have heI : ¬ (l.length : Int) = k2.length := by omega
    have hq : ¬ l = k2 := fun h => he (by rw [h])
    simp (disch := omega) [d55, hs, hs2, hlen, hlen2, hq]
theorem same25_ok (r s : Rsp) (f1 b1 f2 b2 : AV) (hf : FV f1 r.2.1) (hb : BV b1 r.2.2) (hg : FV f2 s.2.1) (hc : BV b2 s.2.2) (hll : r.2.1.length < 1000000000) (hl2 : s.2.1.length < 1000000000) (H : Heap) :
    C T 33 [.agg [.int .i64 r.1, f1, b1], .agg [.int .i64 s.1, f2, b2]] H = some (.bool (decide (r = s)), H) := by
  refine anyH fd33 rfl (by simp [closedL, AV.closed, hf.closed, hb.closed, hg.closed, hc.closed]) ?_ H
  rw [q33]
  have hs1 := hf.snap 62 []
  have hs2 := hb.snap 62 []
  have hs3 := hg.snap 62 []
  have hs4 := hc.snap 62 []
  have hc1 := hf.cell
  have hc2 := hb.cell
  have hc3 := hg.cell
  have hc4 := hc.cell
  have hg1 : ∀ off, hget [rowR r.1 f1 b1, rowR s.1 f2 b2] 0 off 1 0 = if off + 1 ≤ 3 then some ((([.int .i64 r.1, f1, b1] : List AV).drop off).take 1) else none := fun off => by
    rw [hget_at (cs := [.int .i64 r.1, f1, b1]) (l := true) (kd := .no) rfl]
    rfl
  have hg2 : ∀ off, hget [rowR r.1 f1 b1, rowR s.1 f2 b2] 1 off 1 0 = if off + 1 ≤ 3 then some ((([.int .i64 s.1, f2, b2] : List AV).drop off).take 1) else none := fun off => by
    rw [hget_at (cs := [.int .i64 s.1, f2, b2]) (l := true) (kd := .no) rfl]
    rfl
  have c55 := same11_ok f1 f2 r.2.1 s.2.1 hf hg hll hl2
  have ho1 := hb.ob
  have ho2 := hc.ob
  obtain ⟨st, l, b⟩ := r
  obtain ⟨su, m, c⟩ := s
  simp only at *
  by_cases h1 : st = su
  · subst h1
    by_cases h2 : l = m
    · subst h2
      simp only [decide_true] at c55
      by_cases h3 : b = c
      · subst h3
        simp [d33, hs1, hs2, hs3, hs4, hc1, hc2, hc3, hc4, hg1, hg2, c55, ho1, ho2]
      · have h3' : (b == c) = false := by simpa using h3
        simp [d33, hs1, hs2, hs3, hs4, hc1, hc2, hc3, hc4, hg1, hg2, c55, ho1, ho2, h3, h3']
    · have h2' : decide (l = m) = false := by simpa using h2
      rw [h2'] at c55
      simp [d33, hs1, hs2, hs3, hs4, hc1, hc2, hc3, hc4, hg1, hg2, c55, h2]
  · have h1' : (st == su) = false := by simpa using h1
    simp [d33, hs1, hs2, hs3, hs4, hc1, hc2, hc3, hc4, hg1, hg2, h1, h1']
theorem sames_loop (a m : AV) (L M : List Rsp) (hf : LV a L) (hg : LV m M) (hll : L.length < 1000000000) (he : L.length = M.length) (h1 : ∀ r ∈ L, r.2.1.length < 1000000000) (h2 : ∀ r ∈ M, r.2.1.length < 1000000000) : ∀ (k i : Nat), i + k = L.length →
    ∃ e', XL T [0, 1, 5] L16_0 [(0, a), (1, m), (5, .int .i64 i)] [] = some (if L.drop i = M.drop i then .exit 0 else .ret, e', []) ∧ (¬ L.drop i = M.drop i → e'.get 4 = .bool false)
  | 0, i, hk => by
    have hd : L.drop i = [] := List.drop_eq_nil_of_le (by omega)
    have hd2 : M.drop i = [] := List.drop_eq_nil_of_le (by omega)
    have hlt : ¬ (i : Int) < (L.length : Int) := by omega
    have hlen := hf.len
    rw [XL_eq, hd, hd2]
    simp [L16_0, hlen, hlt]
  | k + 1, i, hk => by
    have hlt : i < L.length := by omega
    have hlt2 : i < M.length := by omega
    have hltI : (i : Int) < (L.length : Int) := by omega
    have hlen := hf.len
    obtain ⟨fs, bd, cs', e1, e2, e3⟩ := hf.ia [] hlt
    obtain ⟨gs, cd, ds', e4, e5, e6⟩ := hg.ia [] hlt2
    have hd : L.drop i = L[i] :: L.drop (i + 1) := List.drop_eq_getElem_cons hlt
    have hd2 : M.drop i = M[i] :: M.drop (i + 1) := List.drop_eq_getElem_cons hlt2
    have ih := sames_loop a m L M hf hg hll he h1 h2 k (i + 1) (by omega)
    push_cast at ih
    have hw : IntKind.i64.wrap ((i : Int) + 1) = (i : Int) + 1 := wr64 (by omega) (by omega)
    have c33 := same25_ok L[i] M[i] fs bd gs cd e2 e3 e5 e6 (h1 _ (List.getElem_mem hlt)) (h2 _ (List.getElem_mem hlt2)) []
    rw [hd, hd2, XL_eq]
    generalize XL T [0, 1, 5] L16_0 = lp at *
    generalize L[i] = r at *
    generalize M[i] = s at *
    by_cases hc : r = s
    · subst hc
      simp only [decide_true] at c33
      simp (disch := omega) [L16_0, hlen, hltI, e1, e4, c33, hw]
      exact ih
    · have hc' : decide (r = s) = false := by simpa using hc
      rw [hc'] at c33
      simp (disch := omega) [L16_0, hlen, hltI, e1, e4, c33, hc]
theorem same26_ok (a m : AV) (L M : List Rsp) (hf : LV a L) (hg : LV m M) (hll : L.length < 1000000000) (_hl2 : M.length < 1000000000) (h1 : ∀ r ∈ L, r.2.1.length < 1000000000) (h2 : ∀ r ∈ M, r.2.1.length < 1000000000) (H : Heap) : C T 16 [a, m] H = some (.bool (decide (L = M)), H) := by
  refine anyH fd16 rfl (by simp [closedL, hf.closed, hg.closed]) ?_ H
  rw [q16]
  have hs := hf.snap 63 []
  have hs2 := hg.snap 63 []
  have hlen := hf.len
  have hlen2 := hg.len
  by_cases he : L.length = M.length
  · obtain ⟨e', x1, x2⟩ := sames_loop a m L M hf hg hll he h1 h2 L.length 0 (by omega)
    simp only [List.drop_zero, Int.natCast_zero] at x1 x2
    have heI : (L.length : Int) = M.length := by omega
    by_cases hq : L = M
    · rw [if_pos hq] at x1
      simp (disch := omega) [d16, hs, hs2, hlen, hlen2, x1, hq]
    · rw [if_neg hq] at x1
      simp (disch := omega) [d16, hs, hs2, hlen, hlen2, heI, x1, x2 hq, hq]
  · have heI : ¬ (L.length : Int) = M.length := by omega
    have hq : ¬ L = M := fun h => he (by rw [h])
    simp (disch := omega) [d16, hs, hs2, hlen, hlen2, hq]
end Go.Eng.S
