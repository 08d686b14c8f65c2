/- SegsEncoded, the plain law, for texts of a bounded length. No condition. -/
import Derived.Test.YtdffpjbjpfolfaaGreatDoorIb
import Derived.Test.YtdffpjbjpfolfaaGreatDoorGv
import Derived.Test.YtdffpjbjpfolfaaGreatDoorId
namespace Go.Eng.S
open Go Go.Eng
theorem per_loop (s : Seg) (hs : s.length < 100000000) (a : Nat) (ha : a < s.length) (H : Heap) : ∀ (n i : Nat), i + n = a →
    ∃ e', XL T [0, 5, 7, 8] L5_0 [(0, .str s), (5, .ptr 0 0 0), (7, .int .i64 a), (8, .int .i64 i)] H = some (if (37 : UInt8) ∈ (s.take a).drop i then .ret else .exit 0, e', H) ∧
      ((37 : UInt8) ∉ (s.take a).drop i → e'.get 0 = .str s ∧ e'.get 5 = .ptr 0 0 0 ∧ e'.get 7 = .int .i64 a) ∧ ((37 : UInt8) ∈ (s.take a).drop i → e'.get 4 = .bool true)
  | 0, i, hn => by
    have hd : (s.take a).drop i = [] := List.drop_eq_nil_of_le (by rw [List.length_take]; omega)
    rw [XL_eq, hd]
    simp (disch := omega) [L5_0]
  | n + 1, i, hn => by
    have hlt : i < s.length := by omega
    have hd : (s.take a).drop i = s[i] :: (s.take a).drop (i + 1) := by
      rw [List.drop_eq_getElem_cons (by rw [List.length_take]; omega), List.getElem_take]
    have ih := per_loop s hs a ha H n (i + 1) (by omega)
    push_cast at ih
    have h37 := u8_eqlit s[i] 37 37 rfl
    rw [hd, XL_eq]
    simp only [List.mem_cons]
    generalize XL T [0, 5, 7, 8] L5_0 = lp at *
    generalize (s.take a).drop (i + 1) = R at *
    by_cases hc : s[i] = 37
    · simp (disch := omega) [L5_0, h37, hc]
    · have hc' : ¬ (37 : UInt8) = s[i] := fun e => hc e.symm
      simp only [hc', false_or]
      simp (disch := omega) [L5_0, h37, hc]
      exact ih
def dgL (n : Nat) : UInt8 := if n < 10 then UInt8.ofNat (48 + n) else UInt8.ofNat (87 + n)
theorem dgL_hex (n : Nat) (h : n < 16) : hexI (dgL n).toNat = n := by
  have : (List.range 16).all (fun n => decide (hexI (dgL n).toNat = n)) = true := by decide +kernel
  exact of_decide_eq_true (List.all_eq_true.1 this n (List.mem_range.2 h))
theorem hexL_sub (n : Nat) (h : n < 16) : List.drop n (48 :: List.take n [49, 50, 51, 52, 53, 54, 55, 56, 57, 97, 98, 99, 100, 101, 102]) = [dgL n] := by
  have : (List.range 16).all (fun n => decide (List.drop n (48 :: List.take n [49, 50, 51, 52, 53, 54, 55, 56, 57, 97, 98, 99, 100, 101, 102]) = [dgL n])) = true := by decide +kernel
  exact of_decide_eq_true (List.all_eq_true.1 this n (List.mem_range.2 h))
theorem triL (c : UInt8) : tri [dgL (c.toNat / 16), dgL (c.toNat % 16)] = some c := by
  have hc := c.toNat_lt
  have h1 := dgL_hex (c.toNat / 16) (by omega)
  have h2 := dgL_hex (c.toNat % 16) (by omega)
  rw [tri_cons, h1, h2, if_pos ⟨by omega, by omega⟩]
  have : (((c.toNat / 16 : Nat) : Int) * 16 + ((c.toNat % 16 : Nat) : Int)).toNat = c.toNat := by omega
  rw [this, UInt8.ofNat_toNat]
theorem segsEncoded (s : Seg) (hs : s.length < 2000000) (m : Nat) (hm : m < 65536) : C T 5 [.str s, .int .u16 m] [] = some (.bool true, []) := by
  rw [q5]
  obtain ⟨z, hz, hw⟩ := rparse_big s hs
  rw [rpar_eq] at hw
  cases hr : parS s with
  | error i =>
    rw [hr] at hw
    obtain rfl := hw
    by_cases hl : 1000 < s.length <;> simp (disch := omega) [d5, awake_ok, hz, hset, hget, hl]
  | ok pr =>
    obtain ⟨st, d⟩ := pr
    rw [hr] at hw
    obtain ⟨b, rfl, hb⟩ := hw
    have hbc := hb.cell
    by_cases hl : 1000 < s.length
    · simp (disch := omega) [d5, awake_ok, hz, hset, hget, hbc, hl]
    · have hl' : ¬ (1000 : Int) < (s.length : Int) := by omega
      obtain ⟨_, _, f3, f4⟩ := par_facts hr
      have hpos : 0 < s.length := by
        cases s with
        | nil => cases f4
        | cons c r => simp
      have hat : m % s.length < s.length := Nat.mod_lt _ hpos
      have hrem : ((m : Int).tmod (s.length : Int)) = ((m % s.length : Nat) : Int) := by rw [Int.tmod_eq_emod_of_nonneg (by omega)]; rfl
      have hne0 : ¬ s.length = 0 := by omega
      have hcl := class_ok (s[m % s.length]'hat) 3 (by omega)
      push_cast at hcl
      have hloop := per_loop s (by omega) (m % s.length) hat [⟨[b, .bool d], 0, true, .no⟩] (m % s.length - (m % s.length - 2)) (m % s.length - 2) (by omega)
      generalize ha : m % s.length = a at *
      have hmax : (if (a : Int) - 2 < 0 then (0 : Int) else (a : Int) - 2) = ((a - 2 : Nat) : Int) := by split <;> omega
      have hmax2 : max ((a : Int) - 2) 0 = ((a - 2 : Nat) : Int) := by omega
      obtain ⟨e', x1, x2, x3⟩ := hloop
      cases hc : clsB 3 (s[a]'hat) with
      | false =>
        rw [hc] at hcl
        simp (disch := omega) [d5, awake_ok, hz, hset, hget, hbc, hl', hrem, hne0, hcl]
      | true =>
        rw [hc] at hcl
        by_cases hmem : (37 : UInt8) ∈ (s.take a).drop (a - 2)
        · rw [if_pos hmem] at x1
          have x3 := x3 hmem
          simp (disch := omega) [d5, awake_ok, hz, hset, hget, hbc, hl', hrem, hne0, hcl, hmax, hmax2, x1, x3]
        · rw [if_neg hmem] at x1
          obtain ⟨g0, g5, g7⟩ := x2 hmem
          have hc8 := (s[a]'hat).toNat_lt
          obtain ⟨c37, c47, _⟩ := u3_facts _ hc
          have hsplit : s = s.take a ++ s[a]'hat :: s.drop (a + 1) := by rw [← List.drop_eq_getElem_cons hat, List.take_append_drop]
          have hfree : free (s.take a) := by
            intro j hj he
            rw [List.length_take] at hj
            refine hmem (List.mem_of_getElem? (i := j - (a - 2)) ?_)
            rw [List.getElem?_drop, ← he]
            congr 1
            omega
          have q1 : (s[a]'hat).toNat / 16 < 16 := by omega
          have q2 : (s[a]'hat).toNat % 16 < 16 := by omega
          have hx1 := dgL_hex _ q1
          have hx2 := dgL_hex _ q2
          have d1 := hexL_sub _ q1
          have d2 := hexL_sub _ q2
          have al1 := hex_alw (c := dgL ((s[a]'hat).toNat / 16)) (by omega)
          have al2 := hex_alw (c := dgL ((s[a]'hat).toNat % 16)) (by omega)
          have ht := triL (s[a]'hat)
          have hp2 : parS (s.take a ++ 37 :: dgL ((s[a]'hat).toNat / 16) :: dgL ((s[a]'hat).toNat % 16) :: s.drop (a + 1)) = .ok (st, d) :=
            par_one c37 c47 al1.2.2 al2.2.2 al1.1 al2.1 ht hfree (by rw [← hsplit]; exact hr)
          have hlt : (s.take a ++ 37 :: dgL ((s[a]'hat).toNat / 16) :: dgL ((s[a]'hat).toNat % 16) :: s.drop (a + 1)).length < 1000000 := by simp; omega
          obtain ⟨y, hy, hv⟩ := parse_ok _ hlt
          rw [hp2] at hv
          obtain ⟨b2, rfl, hb2⟩ := hv
          have hbc2 := hb2.cell
          have hsm := same_ok (x := d) (y := d) hb2 hb (by rw [maxLen_val]; omega) (by rw [maxLen_val]; omega)
          simp only [decide_true, beq_self_eq_true, Bool.and_self] at hsm
          have e1 : (((s[a]'hat).toNat : Int).tdiv 16) = (((s[a]'hat).toNat / 16 : Nat) : Int) := by rw [Int.tdiv_eq_ediv_of_nonneg (by omega)]; omega
          have e2 : (((s[a]'hat).toNat : Int).tmod 16) = (((s[a]'hat).toNat % 16 : Nat) : Int) := by rw [Int.tmod_eq_emod_of_nonneg (by omega)]; omega
          have l1 : a + 1 ≤ LIM := by unfold LIM; omega
          have l2 : a + 1 + 1 ≤ LIM := by unfold LIM; omega
          have l3 : a + 1 + 1 + 1 ≤ LIM := by unfold LIM; omega
          have l4 : a + 1 + 1 + 1 + (s.length - (a + 1)) ≤ LIM := by unfold LIM; omega
          have hmin : min a s.length = a := by omega
          clear hx1 hx2 al1 al2 ht hp2 hlt hsplit hfree
          generalize dgL ((s[a]'hat).toNat / 16) = P1 at *
          generalize dgL ((s[a]'hat).toNat % 16) = P2 at *
          generalize (s[a]'hat).toNat / 16 = k1 at *
          generalize (s[a]'hat).toNat % 16 = k2 at *
          simp (disch := omega) [d5, awake_ok, hz, hset, hget, hbc, hbc2, hl', hrem, hne0, hcl, hmax, hmax2, x1, g0, g5, g7, e1, e2, d1, d2, l1, l2, l3, l4, hmin, hy, hsm]
end Go.Eng.S
