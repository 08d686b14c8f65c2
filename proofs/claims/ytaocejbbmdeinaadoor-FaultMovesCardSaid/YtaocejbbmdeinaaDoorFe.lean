/- Texts of numbers: strconv.Itoa and the reference's Decimal. No condition. -/
import Derived.Test.YtaocejbbmdeinaaDoorFd
namespace Go.Eng.S
open Go Go.Eng
set_option maxRecDepth 20000
def sm10 : List UInt8 := [48, 49, 50, 51, 52, 53, 54, 55, 56, 57, 97, 98, 99, 100, 101, 102, 103, 104, 105, 106, 107, 108, 109, 110, 111, 112, 113, 114, 115, 116, 117, 118, 119, 120, 121, 122]
theorem small_all : (List.range 100).all (fun v => if v < 10 then (sm10.take (v + 1)).drop v == decT 20 v else (smT.take (v * 2 + 2)).drop (v * 2) == decT 20 v) = true := by kernel_rfl
theorem small_at (v : Nat) (h : v < 100) : if v < 10 then (sm10.take (v + 1)).drop v = decT 20 v else (smT.take (v * 2 + 2)).drop (v * 2) = decT 20 v := by
  have := List.all_eq_true.1 small_all v (List.mem_range.2 h)
  split at this
  · rename_i h; rw [if_pos h]; simpa only [beq_iff_eq] using this
  · rename_i h; rw [if_neg h]; simpa only [beq_iff_eq] using this
theorem small_ok (v : Nat) (h : v < 100) (H : Heap) : C T 40 [.int .i64 v] H = some (.str (decT 20 v), H) := by
  refine anyH fd40 rfl rfl ?_ H
  have hs := small_at v h
  rw [q40]
  have ta : ((v : Int) * 2).toNat = v * 2 := by omega
  have ta1 : ((v : Int) * 2 + 2).toNat = v * 2 + 2 := by omega
  by_cases h10 : v < 10
  · rw [if_pos h10] at hs
    simp only [sm10] at hs
    simp (disch := omega) [d40, h10]
    exact hs
  · rw [if_neg h10] at hs
    simp only [smT] at hs
    simp (disch := omega) [d40, h10, ta, ta1]
    exact hs
/-- The text of a number. -/
def itoT (x : Int) : List UInt8 := if 0 ≤ x then decT 20 x.toNat else 45 :: decT 20 (-x).toNat
abbrev z24 : List AV := [.int .u8 0, .int .u8 0, .int .u8 0, .int .u8 0, .int .u8 0, .int .u8 0, .int .u8 0, .int .u8 0, .int .u8 0, .int .u8 0, .int .u8 0, .int .u8 0, .int .u8 0, .int .u8 0, .int .u8 0, .int .u8 0, .int .u8 0, .int .u8 0, .int .u8 0, .int .u8 0, .int .u8 0, .int .u8 0, .int .u8 0, .int .u8 0]
theorem z24_eq (n : Nat) (h : n ≤ 20) : z24 = bcells (0 :: (List.replicate n 0 ++ List.replicate (23 - n) 0)) := by
  rw [List.replicate_append_replicate, show n + (23 - n) = 23 by omega]
  rfl
theorem hget_p (P Q R : List UInt8) (off n : Nat) (ho : off = P.length) (hn : n = Q.length) : hget [⟨bcells (P ++ (Q ++ R)), 0, true⟩] 0 off n 0 = some (bcells Q) := by
  have e : (bcells (P ++ (Q ++ R))).drop off = bcells (Q ++ R) := by rw [bcells_app, ho, ← bcells_len P]; exact List.drop_left
  have e2 : (bcells (Q ++ R)).take n = bcells Q := by rw [bcells_app, hn, ← bcells_len Q]; exact List.take_left
  have e3 : (bcells (P ++ (Q ++ R))).length = P.length + (Q.length + R.length) := by simp [bcells_len]
  show (if 0 = 0 ∧ off + n ≤ (bcells (P ++ (Q ++ R))).length then some (((bcells (P ++ (Q ++ R))).drop off).take n) else none) = _
  rw [e, e2, e3, if_pos ⟨rfl, by omega⟩]
set_option maxHeartbeats 1000000 in
theorem fmt_ok (x : Int) (h1 : -9223372036854775808 ≤ x) (h2 : x < 9223372036854775808) (H : Heap) : C T 39 [.int .i64 x, .int .i64 10] H = some (.str (itoT x), H) := by
  refine anyH fd39 rfl rfl ?_ H
  rw [q39]
  by_cases hs : 0 ≤ x ∧ x < 100
  · obtain ⟨v, rfl⟩ := Int.eq_ofNat_of_zero_le hs.1
    have hv : v < 100 := by omega
    have hc := small_ok v hv
    have e : itoT v = decT 20 v := by unfold itoT; rw [if_pos (by omega)]; rfl
    simp (disch := omega) [d39, hc, e]
  · have hz : hget [⟨z24, 0, true⟩] 0 0 24 0 = some z24 := rfl
    obtain ⟨u, hux, hu0, hu1⟩ : ∃ u : Nat, (u = x ∨ x = -(u : Int)) ∧ 0 < u ∧ u < 18446744073709551616 := ⟨x.natAbs, by omega, by omega, by omega⟩
    obtain ⟨k, g1, g2, g3, g4⟩ := nd_ok u hu1 hu0
    have hf := fb10_ok (k + 1) g3 0 (List.replicate (k + 1) 0) (List.replicate (23 - (k + 1)) 0) (by simp) u g1
    rw [← z24_eq (k + 1) g3] at hf
    have hd := decT_dk k 20 u g1 g2 g3
    have hD := dk_len (k + 1) u
    have hS : (List.replicate (23 - (k + 1)) (0 : UInt8)).length = 23 - (k + 1) := by simp
    generalize dk (k + 1) u = D at *
    generalize List.replicate (23 - (k + 1)) (0 : UInt8) = S at *
    have ga := fun c : UInt8 => hget_p [] (c :: (D ++ S)) [] 0 24 rfl (by simp; omega)
    have gb := fun c : UInt8 => hget_p [] (c :: D) S 0 (k + 2) rfl (by simp; omega)
    have gc := hget_p [0] D S 1 (k + 1) rfl (by omega)
    have gd := hset_b (0 :: (D ++ S)) 0 0 45 (by simp)
    have hb1 := bytesOf_bcells D
    have hb2 := bytesOf_bcells (45 :: D)
    simp only [List.nil_append, List.append_nil, List.cons_append, List.set_cons_zero] at ga gb gc gd
    have t1 : (1 + ((k : Int) + 1)).toNat = k + 2 := by omega
    push_cast at g4
    have gd' : hset [⟨bcells (0 :: (D ++ S)), 0, true⟩] 0 0 0 [.int .u8 45] = some [⟨bcells (45 :: (D ++ S)), 0, true⟩] := gd
    by_cases hn : x < 0
    · have e : itoT x = 45 :: D := by unfold itoT; rw [if_neg (by omega), show (-x).toNat = u by omega, hd]
      have w1 : IntKind.u64.wrap x = x + 18446744073709551616 := by rw [IntKind.wrap_u64]; omega
      have w2 : IntKind.u64.wrap (-(x + 18446744073709551616)) = (u : Int) := by rw [IntKind.wrap_u64]; omega
      simp (disch := omega) [d39, w1, w2, g4, hf, e, hz, t1, ga, gb, gc, gd', hb1, hb2]
      done
    · obtain rfl : (u : Int) = x := by omega
      have e : itoT u = D := by unfold itoT; rw [if_pos (by omega)]; exact hd
      simp (disch := omega) [d39, wrU64, g4, hf, e, hz, t1, ga, gb, gc, hb1, hb2]
      done
theorem itoa_ok (x : Int) (h1 : -9223372036854775808 ≤ x) (h2 : x < 9223372036854775808) (H : Heap) : C T 29 [.int .i64 x] H = some (.str (itoT x), H) := by
  have hi : ∀ H, C T 36 [.int .i64 x] H = some (.str (itoT x), H) := by
    intro H
    refine anyH fd36 rfl rfl ?_ H
    rw [q36]
    simp [d36, fmt_ok x h1 h2]
  refine anyH fd29 rfl rfl ?_ H
  rw [q29]
  simp [d29, hi]
end Go.Eng.S
