/- strings.Join with slashes. No condition. -/
import Derived.Test.YtdffpjbjpfolfaaGreatDoorGk
namespace Go.Eng.S
open Go Go.Eng
theorem c_Mkn (a : List AV) (H : Heap) : C T 73 a H = pMkn 5 a H := C_prim (by kernel_rfl) a H
theorem ip_Mkn : isPure T 73 = false := by kernel_rfl
abbrev bRow0 : AObj := ⟨[.cst (.pointer none), nls], 0, true, .typ 79⟩
theorem repsU_len (n : Nat) : (reps n [AV.unk]).length = n := by
  induction n with
  | zero => rfl
  | succ n ih => simp [reps, ih]
theorem grow_ok (n : Nat) (h0 : 0 < n) (hn : n < 1000000000) : ∃ H', C T 44 [.ptr 0 0 0, .int .i64 n] [bRow0] = some (.tup [], H') ∧ Bld H' 0 [] (.ptr 0 0 0) (.ms 1 0 0 1 0) := by
  have hB : Bld [bRow0] 0 [] (.cst (.pointer none)) nls := ⟨rfl, .inl rfl, .inl ⟨rfl, rfl⟩⟩
  obtain ⟨H1, h1, h2, h3⟩ := chk_ok hB
  have hH : H1 = [⟨[.ptr 0 0 0, nls], 0, true, .typ 79⟩] := by
    match H1, h3, h2.row with
    | [a], _, h => simp at h; rw [h]
  subst hH
  have hlim : (n : Int) ≤ (LIM : Int) := by unfold LIM; omega
  have hlen := repsU_len n
  have hgr : C T 58 [.ptr 0 0 0, .int .i64 n] [⟨[.ptr 0 0 0, nls], 0, true, .typ 79⟩] = some (.tup [], [⟨[.ptr 0 0 0, .ms 1 0 0 1 0], 0, true, .typ 79⟩, ⟨reps n [.unk], 0, true, .typ 5⟩]) := by
    rw [q58]
    simp (disch := omega) [d58, c_Mkn, ip_Mkn, pMkn, hget, hset, hlim, hnewK, hlen, -reps, aveq, vsame]
  refine ⟨[⟨[.ptr 0 0 0, .ms 1 0 0 1 0], 0, true, .typ 79⟩, ⟨reps n [.unk], 0, true, .typ 5⟩], ?_, ⟨rfl, .inr rfl, .inr ⟨1, 0, reps n [.unk], rfl, by decide, rfl, by rfl, by simp⟩⟩⟩
  rw [q44]
  simp (disch := omega) [d44, h1, hgr, hget]
/-- Joined with slashes. -/
def joinS : List Seg → Seg
  | [] => []
  | x :: r => x ++ r.flatMap fun y => 47 :: y
def lens (l : List Seg) : Nat := (l.map List.length).sum
theorem lens_cons (x : Seg) (l : List Seg) : lens (x :: l) = x.length + lens l := by simp [lens]
theorem flat_len : ∀ r : List Seg, (r.flatMap fun y => (47 : UInt8) :: y).length = lens r + r.length
  | [] => rfl
  | x :: r => by
    have := flat_len r
    simp only [List.flatMap_cons, List.length_append, List.length_cons, lens_cons, this]
    omega
theorem jlen_loop (l : List Seg) (b : Bool) (hl : l.length < 100000000) : ∀ (k i : Nat) (n : Nat), i + k = l.length → n + lens (l.drop i) < 1000000000 →
    ∃ e', XL T [0, 1, 5, 39, 40, 41] L24_1 [(0, .sl b l.length 1 (scells l)), (1, .str [47]), (5, .int .i64 n), (39, .sl b l.length 1 (scells l)), (40, .int .i64 l.length), (41, .int .i64 i)] [] = some (.exit 1, e', []) ∧
      e'.get 0 = .sl b l.length 1 (scells l) ∧ e'.get 1 = .str [47] ∧ e'.get 5 = .int .i64 (n + lens (l.drop i) : Nat)
  | 0, i, n, hk, _ => by
    have hd : l.drop i = [] := List.drop_eq_nil_of_le (by omega)
    rw [hd, XL_eq]
    simp (disch := omega) [L24_1, lens]
  | k + 1, i, n, hk, hn => by
    have hlt : i < l.length := by omega
    have hd : l.drop i = l[i] :: l.drop (i + 1) := List.drop_eq_getElem_cons hlt
    rw [hd, lens_cons] at hn
    have ih := jlen_loop l b hl k (i + 1) (n + l[i].length) (by omega) (by omega)
    push_cast at ih
    have hsd := sc_drop l i hlt
    rw [hd, lens_cons, XL_eq]
    generalize XL T [0, 1, 5, 39, 40, 41] L24_1 = lp at *
    have g : ¬ ((9223372036854775807 : Int) - (n : Int) < (l[i].length : Int)) := by omega
    obtain ⟨e', x1, x2, x3, x4⟩ := ih
    simp (disch := omega) [L24_1, hsd]
    refine ⟨e', by simpa using x1, x2, x3, ?_⟩
    rw [x4]
    congr 1
    omega
theorem jwr_loop (r : List Seg) (b : Bool) (hl : r.length < 100000000) : ∀ (k i : Nat) (out : Seg) (H : Heap) (bv : AV), i + k = r.length → out.length + lens (r.drop i) + k < 800000000 → Bld H 0 out (.ptr 0 0 0) bv →
    ∃ e' H' bv', XL T [1, 8, 63, 64, 65] L24_0 [(1, .str [47]), (8, .ptr 0 0 0), (63, .sl b r.length 1 (scells r)), (64, .int .i64 r.length), (65, .int .i64 i)] H = some (.exit 3, e', H') ∧
      e'.get 8 = .ptr 0 0 0 ∧ Bld H' 0 (out ++ (r.drop i).flatMap fun y => 47 :: y) (.ptr 0 0 0) bv'
  | 0, i, out, H, bv, hk, _, hB => by
    have hd : r.drop i = [] := List.drop_eq_nil_of_le (by omega)
    rw [hd, XL_eq]
    have hx : ∃ e', seqK (X T L24_0 (Env.keep [1, 8, 63, 64, 65] [(1, .str [47]), (8, .ptr 0 0 0), (63, .sl b r.length 1 (scells r)), (64, .int .i64 r.length), (65, .int .i64 i)]) H) (fun e' H' => XL T [1, 8, 63, 64, 65] L24_0 (Env.keep [1, 8, 63, 64, 65] e') H') = some (.exit 3, e', H) ∧ e'.get 8 = .ptr 0 0 0 := by
      simp (disch := omega) [L24_0]
    obtain ⟨e', x1, x2⟩ := hx
    exact ⟨e', H, bv, x1, x2, by simpa using hB⟩
  | k + 1, i, out, H, bv, hk, hn, hB => by
    have hlt : i < r.length := by omega
    have hd : r.drop i = r[i] :: r.drop (i + 1) := List.drop_eq_getElem_cons hlt
    rw [hd, lens_cons] at hn
    have hsd := sc_drop r i hlt
    obtain ⟨H1, b1, w1, w2⟩ := wstr_ok hB [47] (by simp; omega)
    obtain ⟨H2, b2, w3, w4⟩ := wstr_ok w2 r[i] (by simp; omega)
    have ih := jwr_loop r b hl k (i + 1) (out ++ [47] ++ r[i]) H2 b2 (by omega) (by simp; omega) w4
    push_cast at ih
    rw [hd, List.flatMap_cons, XL_eq]
    generalize XL T [1, 8, 63, 64, 65] L24_0 = lp at *
    simp only [List.length_singleton] at w1
    simp (disch := omega) [L24_0, hsd, w1, w3]
    simpa using ih
theorem join_ok (l : List Seg) (b : Bool) (hl : l.length < 1000000) (hn : lens l + l.length < 10000000) (H : Heap) : C T 24 [.sl b l.length 1 (scells l), .str [47]] H = some (.str (joinS l), H) := by
  refine anyH fd24 rfl (by simp [closedL, AV.closed, sc_closed]) ?_ H
  rw [q24]
  have hsn := fun k H => snap_slS k H b l l.length
  cases l with
  | nil =>
    have hsc : scells [] = [] := rfl
    simp only [List.length_nil, hsc] at hsn
    simp [d24, joinS, hsn, hsc]
  | cons x t =>
    have hsc : scells (x :: t) = .str x :: scells t := rfl
    by_cases ht : t = []
    · subst ht
      have hsc0 : scells [] = [] := rfl
      simp only [List.length_singleton, hsc, hsc0] at hsn
      simp (disch := omega) [d24, joinS, hsn, hsc, hsc0]
    · have htl : 0 < t.length := List.length_pos_iff.2 ht
      simp only [List.length_cons] at hl hn
      obtain ⟨q, hq⟩ : ∃ q : Int, (9223372036854775807 : Int).tdiv (t.length : Int) = q := ⟨_, rfl⟩
      have hq2 : 1 < q ∧ q ≤ 9223372036854775807 := by
        rw [← hq, Int.tdiv_eq_ediv_of_nonneg (by omega)]
        constructor
        · have : (2 : Int) ≤ 9223372036854775807 / (t.length : Int) := (Int.le_ediv_iff_mul_le (by omega)).2 (by omega)
          omega
        · exact Int.ediv_le_self _ (by omega)
      have hne0 : ¬ (t.length : Int) = 0 := by omega
      obtain ⟨e1, x1, x2, x3, x4⟩ := jlen_loop (x :: t) false (by simp; omega) (x :: t).length 0 t.length (by omega) (by simp [lens_cons] at hn ⊢; omega)
      simp only [List.drop_zero, Int.natCast_zero, hsc, List.length_cons] at x1 x2 x4
      obtain ⟨H1, g1, g2⟩ := grow_ok (t.length + lens (x :: t)) (by omega) (by omega)
      obtain ⟨H2, b2, w1, w2⟩ := wstr_ok g2 x (by simp [lens_cons] at hn ⊢; omega)
      obtain ⟨e3, H3, b3, y1, y2, y3⟩ := jwr_loop t false (by omega) t.length 0 ([] ++ x) H2 b2 (by omega) (by simp [lens_cons] at hn ⊢; omega) w2
      simp only [List.drop_zero, Int.natCast_zero, List.nil_append] at y1 y3
      have hfl := flat_len t
      obtain ⟨H4, z1⟩ := bstr_ok y3 (by
        intro h
        cases t with
        | nil => exact absurd rfl ht
        | cons a r => simp at h) (by rw [List.length_append, hfl]; simp only [lens_cons] at hn; omega)
      simp only [hsc, List.length_cons] at hsn
      have htk := sc_take t
      push_cast at x1 x4 g1
      have e5 : ((t.length : Int) + 1 - 1) = t.length := by omega
      have hjo : joinS (x :: t) = x ++ t.flatMap fun y => 47 :: y := rfl
      simp (disch := omega) [d24, hsn, hsc, e5, hq, ht, x1, x2, x3, x4, hnewK, g1, w1, htk, y1, y2, z1, hjo]
end Go.Eng.S
