/- ChunkedLimits, the plain law. No condition. -/
import Derived.Test.YtpdkdkdcmnipfaaGreatDoorKy
namespace Go.Eng.S
open Go Go.Eng
theorem nl_loop (e : List UInt8) (he : e.length < 100000) (x0 x7 x9 x12 : AV) : ∀ (k i : Nat), i + k = e.length → ∀ H,
    ∃ e', XL T [0, 6, 7, 9, 12, 13] L6_0 [(0, x0), (6, slV e), (7, x7), (9, x9), (12, x12), (13, .int .i64 i)] H = some (.exit 0, e', H) ∧ e'.get 0 = x0 ∧ e'.get 7 = x7 ∧ e'.get 9 = x9 ∧ e'.get 12 = x12 ∧ e'.get 13 = .int .i64 (i + cutI 10 (e.drop i) : Nat)
  | 0, i, hk, H => by
    have hd : e.drop i = [] := List.drop_eq_nil_of_le (by omega)
    have hlt : ¬ ((i : Int) < e.length) := by omega
    rw [XL_eq, hd]
    simp [L6_0, cutI_nil, hlt]
  | k + 1, i, hk, H => by
    have hlt : i < e.length := by omega
    have hlt' : (i : Int) < e.length := by omega
    have hd : e.drop i = e[i] :: e.drop (i + 1) := List.drop_eq_getElem_cons hlt
    have hcell := bc_drop e i hlt
    have ih := nl_loop e he x0 x7 x9 x12 k (i + 1) (by omega) H
    have e10 := u8_eqlit e[i] 10 10 rfl
    rw [hd, XL_eq, cutI_cons]
    generalize XL T [0, 6, 7, 9, 12, 13] L6_0 = lp at *
    generalize cutI 10 (e.drop (i + 1)) = M at *
    have eN : i + 1 + M = i + (M + 1) := by omega
    rw [eN] at ih
    push_cast at ih
    by_cases h1 : e[i] = 10
    · have e1 : ((e[i].toNat : Int) != 10) = false := by rw [bne, e10, h1]; rfl
      rw [if_pos h1]
      simp (disch := omega) [L6_0, hlt', hcell, e1]
    · have e1 : ((e[i].toNat : Int) != 10) = true := by rw [bne, e10]; simpa using h1
      rw [if_neg h1]
      simp (disch := omega) [L6_0, hlt', hcell, e1]
      exact ih
set_option maxRecDepth 20000 in
set_option maxHeartbeats 1000000 in
theorem chunkedLimits (a : AV) (p : List UInt8) (ha : Bytes a p) (n : Int) (h0 : 0 ≤ n) (h1 : n ≤ 255) : C T 6 [a, .int .u8 n] [] = some (.bool true, []) := by
  rw [q6]
  have hsn := snap_bytes ha
  have hbt := bytes_len ha
  by_cases hp : p = []
  · subst hp
    rcases ha with ⟨rfl, _⟩ | rfl <;> (try simp only [List.length_nil] at hsn) <;> simp [d6, hsn, awake14_ok]
  have hl0 : p.length ≠ 0 := by simpa using hp
  have hl0' : ((p.length : Int) == 0) = false := by rw [beq_eq_false_iff_ne]; omega
  simp at hl0'
  obtain rfl := bytes_sl ha hp
  by_cases hl : 300 < p.length
  · have hl' : (300 : Int) < p.length := by omega
    simp [d6, hsn, awake14_ok, hl0', hl']
  have hl' : ¬ (300 : Int) < p.length := by omega
  have henc := renc_one ha (by omega)
  have e1 : byV (encT [p]) = slV (encT [p]) := if_neg (encT_ne [p])
  rw [e1] at henc
  have hel := encT_len (ps := [p]) (by intro q hq; simp at hq; subst hq; omega) (by simp)
  have hb : Bytes (slV (encT [p])) (encT [p]) := .inr rfl
  have hgr := great_ok
  have hd1 := decode_ok _ _ hb (by omega) ⟨10000, 10000, 1000, p.length⟩ (by simp only; omega)
  have hr1 := read_enc (Lims.lm ⟨10000, 10000, 1000, p.length⟩) (by show 10 ≤ (10000 : Int).toNat; decide) [p] ((encT [p]).length + 1) 0 [] [] (by simp [encT]) (by intro q hq; simp at hq; subst hq; omega) (by simp [Lims.lm])
  rw [List.append_nil] at hr1
  rw [run_read, hr1] at hd1
  have hm0 := Int.tmod_nonneg (p.length : Int) h0
  have hm1 := Int.tmod_lt_of_pos n (show (0 : Int) < p.length by omega)
  have hd2 := decode_ok _ _ hb (by omega) ⟨10000, 10000, 1000, (p.length : Int) - 1 - n.tmod p.length⟩ (by simp only; omega)
  have hr2 := read_big (Lims.lm ⟨10000, 10000, 1000, (p.length : Int) - 1 - n.tmod p.length⟩) (by show 10 ≤ (10000 : Int).toNat; decide) p (by omega) hp (by simp only [Lims.lm]; omega) (encT [p]).length
  rw [run_read, hr2] at hd2
  obtain ⟨e', g1, g2, g3, g4, g5, g6⟩ := nl_loop (encT [p]) (by omega) (slV p) (slV p) (.cst .nilIface) (flt 413 ((hx p.length).length + 1 : Nat)) (encT [p]).length 0 (by omega) [⟨[.int .i64 10000, .int .i64 10000, .int .i64 1000, .int .i64 ((p.length : Int) - 1 - n.tmod p.length)], 0, true⟩]
  rw [List.drop_zero, nl_at p (by omega) hp, Nat.zero_add] at g6
  simp only [Int.natCast_zero] at g1
  have hw := wrong413_ok ((hx p.length).length + 1 : Nat) ((hx p.length).length + 1 : Nat)
  simp only [List.nil_append, List.flatten_cons, List.flatten_nil, List.append_nil, decV, Nat.zero_add] at hd1 hd2
  have e2 : byV p = slV p := if_neg hp
  rw [e2] at hd1
  unfold Lims.av gr at *
  generalize hx p.length = X at *
  push_cast at *
  simp (disch := omega) [d6, hsn, awake14_ok, hl', hgr, henc, hget, hset, hd1, hd2, g1, g2, g3, g4, g5, g6, hw, bytesOf_bcells, hl0]
end Go.Eng.S
