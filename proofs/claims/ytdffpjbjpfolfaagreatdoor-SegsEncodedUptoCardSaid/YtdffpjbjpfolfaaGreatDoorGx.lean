/- The reference's encoding and text of a path. No condition. -/
import Derived.Test.YtdffpjbjpfolfaaGreatDoorGw
import Derived.Test.YtdffpjbjpfolfaaGreatDoorGz
namespace Go.Eng.S
open Go Go.Eng
theorem hexU_sub (n : Nat) (h : n < 16) : (hexU.take (n + 1)).drop n = [dgU n] := by
  have : (List.range 16).all (fun n => decide ((hexU.take (n + 1)).drop n = [dgU n])) = true := by decide +kernel
  exact of_decide_eq_true (List.all_eq_true.1 this n (List.mem_range.2 h))
theorem renc_loop (s D : Seg) (hD : D.length = 16) (hS : ∀ n, n < 16 → (D.take (n + 1)).drop n = [dgU n]) (hs : s.length < 100000000) : ∀ (n i : Nat) (acc : Seg), i + n = s.length → acc.length ≤ 3 * i →
    ∃ e', XL T [0, 3, 4, 5] L35_0 [(0, .str s), (3, .str D), (4, .str acc), (5, .int .i64 i)] [] = some (.exit 0, e', []) ∧ e'.get 4 = .str (acc ++ enc (s.drop i))
  | 0, i, acc, hn, ha => by
    have hd : s.drop i = [] := List.drop_eq_nil_of_le (by omega)
    rw [hd, XL_eq]
    simp (disch := omega) [L35_0, enc]
  | n + 1, i, acc, hn, ha => by
    have hlt : i < s.length := by omega
    have hd : s.drop i = s[i] :: s.drop (i + 1) := List.drop_eq_getElem_cons hlt
    have hu := class_ok s[i] 3 (by omega)
    have hc := s[i].toNat_lt
    rw [hd, XL_eq, enc_cons, ← List.append_assoc]
    have ht1 : (s.take (i + 1)).drop i = [s[i]] := by
      rw [List.drop_take, hd, Nat.add_sub_cancel_left]; rfl
    unfold encB
    have ih := renc_loop s D hD hS hs n (i + 1)
    push_cast at ih hu
    generalize XL T [0, 3, 4, 5] L35_0 = lp at *
    cases hb : clsB 3 s[i] with
    | true =>
      rw [hb] at hu
      rw [if_pos rfl]
      have ih := ih (acc ++ [s[i]]) (by omega) (by simp; omega)
      have h1 : acc.length + 1 ≤ LIM := by unfold LIM; omega
      simp (disch := omega) [L35_0, hu, h1, ht1]
      simpa using ih
    | false =>
      rw [hb] at hu
      rw [if_neg (by simp)]
      have d1 := hS (s[i].toNat / 16) (by omega)
      have d2 := hS (s[i].toNat % 16) (by omega)
      have ih := ih (acc ++ [37, dgU (s[i].toNat / 16), dgU (s[i].toNat % 16)]) (by omega) (by simp; omega)
      have h1 : acc.length + 1 ≤ LIM := by unfold LIM; omega
      have h2 : acc.length + 1 + 1 ≤ LIM := by unfold LIM; omega
      have h3 : acc.length + 1 + 1 + 1 ≤ LIM := by unfold LIM; omega
      have e1 : ((s[i].toNat : Int).tdiv 16) = ((s[i].toNat / 16 : Nat) : Int) := by rw [Int.tdiv_eq_ediv_of_nonneg (by omega)]; omega
      have e2 : ((s[i].toNat : Int).tmod 16) = ((s[i].toNat % 16 : Nat) : Int) := by rw [Int.tmod_eq_emod_of_nonneg (by omega)]; omega
      have b1 : s[i].toNat / 16 < 16 := by omega
      have b2 : s[i].toNat % 16 < 16 := by omega
      generalize dgU (s[i].toNat / 16) = D1 at *
      generalize dgU (s[i].toNat % 16) = D2 at *
      generalize s[i].toNat / 16 = q1 at *
      generalize s[i].toNat % 16 = q2 at *
      simp (disch := omega) [L35_0, hu, e1, e2, d1, d2, h1, h2, h3, hD]
      simpa using ih
theorem rencode_ok (s : Seg) (hs : s.length < 100000000) (H : Heap) : C T 35 [.str s] H = some (.str (enc s), H) := by
  refine anyH fd35 rfl rfl ?_ H
  rw [q35]
  obtain ⟨e', x1, x2⟩ := renc_loop s hexU rfl hexU_sub hs s.length 0 [] (by omega) (by simp)
  simp only [List.drop_zero, Int.natCast_zero, List.nil_append] at x1 x2
  simp [d35, x1, x2]
theorem rtext_loop (l : List Seg) (b : Bool) (hl : l.length < 1000000) (hx : lens l < 10000000) : ∀ (n i : Nat) (acc : Seg), i + n = l.length → acc.length + 3 * lens (l.drop i) + n < 50000000 →
    ∃ e', XL T [1, 3, 4] L16_0 [(1, .ptr 0 0 0), (3, .str acc), (4, .int .i64 i)] [⟨[slS l, .bool b], 0, true, .no⟩] = some (.exit 0, e', [⟨[slS l, .bool b], 0, true, .no⟩]) ∧ e'.get 1 = .ptr 0 0 0 ∧ e'.get 3 = .str (acc ++ segT (l.drop i))
  | 0, i, acc, hn, ha => by
    have hd : l.drop i = [] := List.drop_eq_nil_of_le (by omega)
    rw [hd, XL_eq]
    simp (disch := omega) [L16_0, segT, hget]
  | n + 1, i, acc, hn, ha => by
    have hlt : i < l.length := by omega
    have hd : l.drop i = l[i] :: l.drop (i + 1) := List.drop_eq_getElem_cons hlt
    rw [hd, lens_cons] at ha
    have hsd := sc_drop l i hlt
    have he := rencode_ok l[i] (by omega)
    have hel := enc_len l[i]
    rw [hd, segT_cons, XL_eq]
    have ih := rtext_loop l b hl hx n (i + 1) (acc ++ 47 :: enc l[i]) (by omega) (by simp; omega)
    push_cast at ih
    generalize XL T [1, 3, 4] L16_0 = lp at *
    generalize enc l[i] = E at *
    have h1 : acc.length + 1 ≤ LIM := by unfold LIM; omega
    have h2 : acc.length + 1 + E.length ≤ LIM := by unfold LIM; omega
    simp (disch := omega) [L16_0, hsd, he, h1, h2, hget]
    simpa using ih
theorem rtext_ok {a : AV} {l : List Seg} (ha : Names a l) (d : Bool) (hl : l.length < 1000000) (hx : lens l < 10000000) (H : Heap) : C T 16 [.agg [a, .bool d]] H = some (.str (txt l d), H) := by
  refine anyH fd16 rfl (by simp [closedL, AV.closed, ha.closed]) ?_ H
  rw [q16]
  have hsa := fun k H => snap_names ha k H
  have hac := ha.cell
  rcases names_two ha with ⟨rfl, rfl⟩ | rfl
  · have hx : ∃ e', XL T [1, 3, 4] L16_0 [(1, .ptr 0 0 0), (3, .str []), (4, .int .i64 0)] [⟨[nls, .bool d], 0, true, .no⟩] = some (.exit 0, e', [⟨[nls, .bool d], 0, true, .no⟩]) ∧ e'.get 1 = .ptr 0 0 0 ∧ e'.get 3 = .str [] := by
      rw [XL_eq]
      simp [L16_0, hget]
    obtain ⟨e', x1, x2, x3⟩ := hx
    have ht : txt [] d = [47] := by unfold txt; simp [segT]
    have hlim : 1 ≤ LIM := by decide
    rw [ht]
    cases d <;> simp [d16, hget, x1, x2, x3, hlim]
  · obtain ⟨e', x1, x2, x3⟩ := rtext_loop l d hl hx l.length 0 [] (by omega) (by simp; omega)
    simp only [List.drop_zero, Int.natCast_zero, List.nil_append] at x1 x3
    have hlen := segT_len l
    have hlim : (segT l).length + 1 ≤ LIM := by unfold LIM; omega
    have hemp : ((l.length : Int) == 0) = l.isEmpty := by
      cases l with
      | nil => rfl
      | cons x r => simp; omega
    unfold txt
    cases d with
    | true => simp [d16, hsa, hget, x1, x2, x3, hlim]
    | false =>
      cases he : l.isEmpty with
      | true =>
        rw [he] at hemp
        simp [d16, hsa, hget, x1, x2, x3, hlim, hemp]
      | false =>
        rw [he] at hemp
        simp [d16, hsa, hget, x1, x2, x3, hemp]
end Go.Eng.S
