/- HostInverse and HostCase, the plain laws. No condition. -/
import Derived.Test.YtfpknphncaopkaaDoorHl
import Derived.Test.YtfpknphncaopkaaDoorHj
namespace Go.Eng.S
open Go Go.Eng
def textH (n : List UInt8) (p : Int) : List UInt8 := if p < 0 then n else n ++ 58 :: decT 20 p.toNat
theorem htext_ok (n : List UInt8) (hn : n.length < 1000000000) (p : Int) (hp : p < 9223372036854775808) (H : Heap) : C T 12 [.agg [.str n, .int .i64 p]] H = some (.str (textH n p), H) := by
  refine anyH fd12 rfl rfl ?_ H
  rw [q12]
  unfold textH
  by_cases h0 : p < 0
  · simp (disch := omega) [d12, hget, h0]
  · obtain ⟨k, rfl⟩ : ∃ k : Nat, p = k := ⟨p.toNat, by omega⟩
    have h := dtext_ok k (by omega)
    have hlen := decT_len 20 k
    have l1 : n.length + 1 ≤ LIM := by unfold LIM; omega
    have l2 : n.length + ((decT 20 k).length + 1) ≤ LIM := by unfold LIM; omega
    simp (disch := omega) [d12, hget, h, l1, l2, Nat.add_assoc, Nat.add_comm 1]
theorem rhtext_ok (n : List UInt8) (hn : n.length < 1000000000) (p : Int) (hp : p < 9223372036854775808) (H : Heap) : C T 13 [.agg [.str n, .int .i64 p]] H = some (.str (textH n p), H) := by
  refine anyH fd13 rfl rfl ?_ H
  rw [q13]
  unfold textH
  by_cases h0 : p < 0
  · simp (disch := omega) [d13, hget, h0]
  · obtain ⟨k, rfl⟩ : ∃ k : Nat, p = k := ⟨p.toNat, by omega⟩
    have h := rdtext_ok k (by omega)
    have hlen := decT_len 20 k
    have l1 : n.length + 1 ≤ LIM := by unfold LIM; omega
    have l2 : n.length + ((decT 20 k).length + 1) ≤ LIM := by unfold LIM; omega
    simp (disch := omega) [d13, hget, h, l1, l2, Nat.add_assoc, Nat.add_comm 1]

/-! ### what is parsed again -/
theorem host_bare {n : List UInt8} (h : rName n = true) : hostP n = .host (n.map low) (-1) := by rw [same_host, refP, if_pos h]
theorem host_tail {n r : List UInt8} (h : rName n = true) : hostP (n ++ 58 :: r) = fin (n ++ 58 :: r) n.length := by
  have ht : (n ++ 58 :: r).take n.length = n := List.take_left
  have hi : (n ++ 58 :: r)[n.length]? = some 58 := by simp
  have := (rName_take (n ++ 58 :: r) n.length (by simp) (.inr hi)).1 (by rw [ht]; exact h)
  rw [hostP_eq, ← this.2, if_pos (by simp [fits, this.1])]
theorem host_colon {n : List UInt8} (h : rName n = true) : hostP (n ++ [58]) = .host (n.map low) (-1) := by
  rw [host_tail h]
  unfold fin
  rw [if_pos (List.drop_eq_nil_of_le (by simp)), List.take_left]
theorem host_port {n D : List UInt8} {p : Int} (h : rName n = true) (hD : D ≠ []) (hl : D.length ≤ 5) (hp : decO 65535 D = some p) : hostP (n ++ 58 :: D) = .host (n.map low) p := by
  rw [host_tail h]
  unfold fin
  have hd : (n ++ 58 :: D).drop (n.length + 1) = D := by rw [← List.drop_drop]; simp
  rw [hd, if_neg hD, if_neg (by omega), hp, List.take_left]
theorem host_text {n : List UInt8} {p : Int} (h : rName n = true) (h1 : -1 ≤ p) (h2 : p ≤ 65535) : hostP (textH n p) = .host (n.map low) p := by
  unfold textH
  split
  · rw [host_bare h]; congr 1; omega
  · obtain ⟨k, rfl⟩ : ∃ k : Nat, p = k := ⟨p.toNat, by omega⟩
    have hk : k < 10 ^ 20 := by omega
    exact host_port h (decT_ne 20 k (by decide)) (decT_small 20 5 k (by omega) (by decide)) (decO_decT 20 k hk (by decide) h2)
theorem host_zero {n : List UInt8} {k : Nat} (h : rName n = true) (h2 : k ≤ 9999) : hostP (n ++ 58 :: 48 :: decT 20 k) = .host (n.map low) k := by
  have := decT_small 20 4 k (by omega) (by decide)
  exact host_port h (by simp) (by simp; omega) (decO_zero 20 k (by omega) (by decide) (by omega))
theorem low_low (c : UInt8) : low (low c) = low c := by
  have := all256 (p := fun n => decide (low (low (UInt8.ofNat n)) = low (UInt8.ofNat n))) (by decide +kernel) c
  simpa using this
theorem map_low_low (l : List UInt8) : (l.map low).map low = l.map low := by rw [List.map_map]; exact List.map_congr_left fun c _ => low_low c
theorem len_text (n : List UInt8) (p : Int) : (textH n p).length ≤ n.length + 21 := by
  unfold textH
  split
  · omega
  · have := decT_len 20 p.toNat
    simp; omega

theorem hostInverse (n : List UInt8) (p : Int) : C T 4 [.str n, .int .i64 p] [] = some (.bool true, []) := by
  rw [q4]
  by_cases hn : 200 < n.length
  · simp (disch := omega) [d4, awake_ok]
  by_cases hp1 : p < -1
  · simp (disch := omega) [d4, awake_ok]
  by_cases hp2 : 4611686018427387904 < p
  · simp (disch := omega) [d4, awake_ok]
  have ht := htext_ok n (by omega) p (by omega)
  have hr := rhtext_ok n (by omega) p (by omega)
  have hnm := rname_ok n (by omega)
  have hlow := rlower_ok n (by omega)
  have hlt := len_text n p
  have hpa := hparse_ok (textH n p) (by omega)
  cases hN : rName n with
  | false =>
    rw [hN] at hnm
    simp (disch := omega) [d4, awake_ok, hget, hset, ht, hr, hnm]
  | true =>
    rw [hN] at hnm
    by_cases hp3 : 65535 < p
    · simp (disch := omega) [d4, awake_ok, hget, hset, ht, hr, hnm]
    rw [host_text hN (by omega) (by omega)] at hpa
    simp only [HR.v] at hpa
    by_cases hp4 : p < 0
    · simp (disch := omega) [d4, awake_ok, hget, hset, ht, hr, hnm, hpa, hlow]
    by_cases hp5 : 9999 < p
    · simp (disch := omega) [d4, awake_ok, hget, hset, ht, hr, hnm, hpa, hlow]
    obtain ⟨k, rfl⟩ : ∃ k : Nat, p = k := ⟨p.toNat, by omega⟩
    have hlen := decT_len 20 k
    have hz := hparse_ok (n ++ 58 :: 48 :: decT 20 k) (by simp; omega)
    rw [host_zero hN (by omega)] at hz
    simp only [HR.v] at hz
    have htx : textH n k = n ++ 58 :: decT 20 k := by unfold textH; rw [if_neg (by omega)]; rfl
    rw [htx] at ht hr hpa
    have hd : (n ++ 58 :: decT 20 k).drop (n.length + 1) = decT 20 k := by rw [← List.drop_drop]; simp
    have htk : (n ++ 58 :: decT 20 k).take (n.length + ((decT 20 k).length + 1)) = n ++ 58 :: decT 20 k := List.take_of_length_le (by simp)
    have l1 : n.length + 2 ≤ LIM := by unfold LIM; omega
    have l2 : n.length + (2 + (decT 20 k).length) ≤ LIM := by unfold LIM; omega
    simp (disch := omega) [d4, awake_ok, hget, hset, ht, hr, hnm, hpa, hlow, hz, hd, htk, l1, l2, aeq_struct2, Nat.add_assoc]

/-! ### Choose -/
abbrev tgt (k : Int) (h : List UInt8) : AV := .agg [.int .i64 k, .str h, nilS, .bool false, .str [], .bool false]
theorem snap_tgt (k : Int) (h : List UInt8) (d : Nat) (H : Heap) : snap (d + 2) H (tgt k h) = some (tgt k h, H) := rfl
theorem choose_ok (a : AV) (hs : List (List (List UInt8))) (ha : Hosts a hs) (hsh : Short hs) (k : Int) (h f n : List UInt8) (p : Int) (hl : (if k = 2 then h else f).length < 1000000) (hp : hostP (if k = 2 then h else f) = .host n p) (hn : n.length < 1000000) (H : Heap) :
    C T 19 [a, tgt k h, .str f, .bool true] H = some (.tup [.int .i64 (findH hs (n.map low)), .cst .nilIface], H) := by
  refine anyH fd19 rfl (by simp [closedL, ha.closed, AV.closed]) ?_ H
  rw [q19]
  have hsn := snap_hosts ha
  have hpa := hparse_ok _ hl
  rw [hp] at hpa
  simp only [HR.v] at hpa
  have hf := find_ok a hs ha hsh n (by omega)
  by_cases hk : k = 2
  · subst hk
    simp only [if_true] at hpa
    simp (disch := omega) [d19, hsn, hget, hset, hpa, hf]
  · rw [if_neg hk] at hpa
    simp (disch := omega) [d19, hsn, hget, hset, hpa, hf]
theorem nam_low (c : UInt8) : nam (low c) = nam c := by
  have := all256 (p := fun n => nam (low (UInt8.ofNat n)) == nam (UInt8.ofNat n)) (by decide +kernel) c
  simpa using this
theorem six_low (c : UInt8) : six (low c) = six c := by
  have := all256 (p := fun n => six (low (UInt8.ofNat n)) == six (UInt8.ofNat n)) (by decide +kernel) c
  simpa using this
theorem low_91 (c : UInt8) : low c = 91 ↔ c = 91 := by
  have := all256 (p := fun n => decide (low (UInt8.ofNat n) = 91 ↔ UInt8.ofNat n = 91)) (by decide +kernel) c
  simpa using this
theorem low_93 (c : UInt8) : low c = 93 ↔ c = 93 := by
  have := all256 (p := fun n => decide (low (UInt8.ofNat n) = 93 ↔ UInt8.ofNat n = 93)) (by decide +kernel) c
  simpa using this
theorem all_low {p : UInt8 → Bool} (h : ∀ c, p (low c) = p c) (l : List UInt8) : (l.map low).all p = l.all p := by
  rw [List.all_map]; congr 1; funext c; exact h c
theorem rName_low (s : List UInt8) : rName (s.map low) = rName s := by
  unfold rName
  have e1 : (s.map low = []) ↔ s = [] := List.map_eq_nil_iff
  have e2 : ((s.map low)[0]? = some 91) ↔ s[0]? = some 91 := by
    rw [List.getElem?_map]
    cases s[0]? with
    | none => simp
    | some c => simp [low_91]
  have e3 : ((s.map low)[s.length - 1]? == some 93) = (s[s.length - 1]? == some 93) := by
    rw [List.getElem?_map]
    cases s[s.length - 1]? with
    | none => rfl
    | some c =>
      rw [Bool.eq_iff_iff]
      simp [low_93]
  simp only [e1, e2, List.length_map, e3]
  rw [← List.map_take, ← List.map_drop, all_low six_low, all_low nam_low]
theorem textH_len (n : List UInt8) (p : Int) (h : 0 ≤ p) : rName n = true → p ≤ 65535 → hostP (textH n p) = .host (n.map low) p := fun hn h2 => host_text hn (by omega) h2
set_option maxRecDepth 100000 in
set_option maxHeartbeats 4000000 in
theorem hostCase (a : AV) (hs : List (List (List UInt8))) (ha : Hosts a hs) (hw : Wide hs) (s : List UInt8) (p : Int) (hp0 : 0 ≤ p) (hp1 : p ≤ 65535) : C T 6 [a, .str s, .int .u16 p] [] = some (.bool true, []) := by
  rw [q6]
  have hsn := snap_hosts ha
  have hfew := few_ok a hs ha hw
  have hac := ha.closed
  cases hf : few hs with
  | false =>
    rw [hf] at hfew
    simp [d6, hsn, awake_ok, hfew]
  | true =>
    rw [hf] at hfew
    have hsh := few_short hf
    by_cases hl : 100 < s.length
    · simp (disch := omega) [d6, hsn, awake_ok, hfew]
    have hnm := rname_ok s (by omega)
    cases hN : rName s with
    | false =>
      rw [hN] at hnm
      simp (disch := omega) [d6, hsn, awake_ok, hfew, hnm]
    | true =>
      rw [hN] at hnm
      have hlow := rlower_ok s (by omega)
      have htx := htext_ok s (by omega) p (by omega)
      have hlt := len_text s p
      have c1 := choose_ok a hs ha hsh 1 [] s (s.map low) (-1) (by rw [if_neg (by decide)]; omega) (by rw [if_neg (by decide)]; exact host_bare hN) (by simp; omega)
      have c2 := choose_ok a hs ha hsh 1 [] (s.map low) ((s.map low).map low) (-1) (by rw [if_neg (by decide)]; simp; omega) (by rw [if_neg (by decide)]; exact host_bare (by rw [rName_low]; exact hN)) (by simp; omega)
      have c3 := choose_ok a hs ha hsh 1 [] (textH s p) (s.map low) p (by rw [if_neg (by decide)]; omega) (by rw [if_neg (by decide)]; exact host_text hN (by omega) hp1) (by simp; omega)
      have c4 := choose_ok a hs ha hsh 2 (s ++ [58]) [111, 116, 104, 101, 114] (s.map low) (-1) (by rw [if_pos rfl]; simp; omega) (by rw [if_pos rfl]; exact host_colon hN) (by simp; omega)
      have hr := rfind_ok s (by omega) a hs ha hsh
      rw [map_low_low] at c1 c3 c4
      rw [map_low_low, map_low_low] at c2
      have l1 : s.length + 1 ≤ LIM := by unfold LIM; omega
      unfold tgt at c1 c2 c3 c4
      simp (disch := omega) [d6, hsn, awake_ok, hfew, hnm, hlow, htx, hget, hset, hac, l1, c1, c2, c3, c4, hr]
end Go.Eng.S
