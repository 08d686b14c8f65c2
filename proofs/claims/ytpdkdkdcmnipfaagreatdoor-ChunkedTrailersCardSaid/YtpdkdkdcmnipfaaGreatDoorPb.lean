/- Digits, letters, lower case. No condition. -/
import Derived.Test.YtpdkdkdcmnipfaaGreatDoorPa
namespace Go.Eng.S
open Go Go.Eng
/-- The value of a hexadecimal digit, or -1. -/
def hexI (n : Nat) : Int := if 48 ≤ n ∧ n ≤ 57 then (n : Int) - 48 else if 97 ≤ n ∧ n ≤ 102 then (n : Int) - 87 else if 65 ≤ n ∧ n ≤ 70 then (n : Int) - 55 else -1
theorem hexI_lt (n : Nat) : hexI n < 16 ∧ -1 ≤ hexI n := by unfold hexI; repeat' split <;> omega
def isDg (n : Nat) : Bool := decide (48 ≤ n) && decide (n ≤ 57)
theorem digit_ok (c : UInt8) (H : Heap) : C T 92 [.int .u8 c.toNat] H = some (.bool (isDg c.toNat), H) := by
  refine anyH fd92 rfl rfl ?_ H
  rw [q92]
  have h := within_ok c 48 57 []
  have h' : C T 76 [.int .u8 c.toNat, .int .u8 48, .int .u8 57] [] = some (.bool (isDg c.toNat), []) := h
  simp [d92, h']
theorem hexD_ok (c : UInt8) (H : Heap) : C T 78 [.int .u8 c.toNat] H = some (.tup [.int .i64 (if hexI c.toNat < 0 then 0 else hexI c.toNat), .bool (decide (0 ≤ hexI c.toNat))], H) := by
  refine anyH fd78 rfl rfl ?_ H
  rw [q78]
  have h0 := digit_ok c []
  have h1 := within_ok c 97 102 []
  have h2 := within_ok c 65 70 []
  simp only [isDg] at h0
  generalize c.toNat = n at *
  unfold hexI
  by_cases c0 : 48 ≤ n ∧ n ≤ 57
  · have e : (decide (48 ≤ n) && decide (n ≤ 57)) = true := by simpa using c0
    rw [e] at h0
    have g : ¬ ((n : Int) - 48 < 0) := by omega
    simp (disch := omega) [d78, h0, c0, wr8, wr64, g]
  have e : (decide (48 ≤ n) && decide (n ≤ 57)) = false := by rw [← Bool.not_eq_true]; simpa using c0
  rw [e] at h0
  by_cases c1 : 97 ≤ n ∧ n ≤ 102
  · have e : (decide ((97 : UInt8).toNat ≤ n) && decide (n ≤ (102 : UInt8).toNat)) = true := by simpa using c1
    rw [e] at h1
    simp at h1
    have g : ¬ ((n : Int) - 87 < 0) := by omega
    have g3 : (n : Int) - 97 + 10 = (n : Int) - 87 := by omega
    simp (disch := omega) [d78, h0, h1, c0, c1, wr8, wr64, g, g3]
  have e : (decide ((97 : UInt8).toNat ≤ n) && decide (n ≤ (102 : UInt8).toNat)) = false := by rw [← Bool.not_eq_true]; simpa using c1
  rw [e] at h1
  simp at h1
  by_cases c2 : 65 ≤ n ∧ n ≤ 70
  · have e : (decide ((65 : UInt8).toNat ≤ n) && decide (n ≤ (70 : UInt8).toNat)) = true := by simpa using c2
    rw [e] at h2
    simp at h2
    have g : ¬ ((n : Int) - 55 < 0) := by omega
    have g3 : (n : Int) - 65 + 10 = (n : Int) - 55 := by omega
    simp (disch := omega) [d78, h0, h1, h2, c0, c1, c2, wr8, wr64, g, g3]
  have e : (decide ((65 : UInt8).toNat ≤ n) && decide (n ≤ (70 : UInt8).toNat)) = false := by rw [← Bool.not_eq_true]; simpa using c2
  rw [e] at h2
  simp at h2
  simp [d78, h0, h1, h2, c0, c1, c2]

/-- The reference's search for a digit. -/
def hexF (D U : List UInt8) (c : UInt8) : Nat → Nat → Int
  | 0, _ => -1
  | k + 1, i => if D[i]? = some c ∨ U[i]? = some c then i else hexF D U c k (i + 1)
abbrev hexL : List UInt8 := [48, 49, 50, 51, 52, 53, 54, 55, 56, 57, 97, 98, 99, 100, 101, 102]
abbrev hexU : List UInt8 := [48, 49, 50, 51, 52, 53, 54, 55, 56, 57, 65, 66, 67, 68, 69, 70]
theorem hexF_eq (c : UInt8) : hexF hexL hexU c 16 0 = hexI c.toNat := by
  have := all256 (p := fun n => decide (hexF hexL hexU (UInt8.ofNat n) 16 0 = hexI n)) (by decide +kernel) c
  simpa using this
theorem u8_beq (a b : UInt8) : ((a.toNat : Int) == (b.toNat : Int)) = decide (a = b) := by
  rw [Bool.eq_iff_iff]
  simp only [beq_iff_eq, decide_eq_true_eq]
  exact ⟨fun h => UInt8.toNat_inj.1 (by omega), fun h => by rw [h]⟩
theorem rhex_loop (D U : List UInt8) (hD : D.length = 16) (hU : U.length = 16) (c : UInt8) : ∀ (k i : Nat), i + k = 16 →
    ∃ e', XL T [0, 3, 4, 5] L69_0 [(0, .int .u8 c.toNat), (3, .str D), (4, .str U), (5, .int .i64 i)] [] =
      some (if hexF D U c k i < 0 then .exit 0 else .ret, e', []) ∧ (0 ≤ hexF D U c k i → e'.get 2 = .int .i64 (hexF D U c k i))
  | 0, i, hk => by
    rw [XL_eq]
    simp [L69_0, hexF, show ¬ (i : Int) < 16 by omega]
  | k + 1, i, hk => by
    have hlt : i < D.length := by omega
    have hlt2 : i < U.length := by omega
    have hlt3 : (i : Int) < 16 := by omega
    have ih := rhex_loop D U hD hU c k (i + 1) (by omega)
    push_cast at ih
    rw [XL_eq, hexF, List.getElem?_eq_getElem hlt, List.getElem?_eq_getElem hlt2]
    generalize XL T [0, 3, 4, 5] L69_0 = lp at *
    generalize hexF D U c k (i + 1) = R at *
    by_cases h1 : D[i] = c
    · simp (disch := omega) [L69_0, hlt3, h1]
    by_cases h2 : U[i] = c
    · simp (disch := omega) [L69_0, hlt3, u8_beq, h1, h2]
    · simp (disch := omega) [L69_0, hlt3, u8_beq, h1, h2, wr64]
      exact ih
theorem rhex_ok (c : UInt8) (H : Heap) : C T 69 [.int .u8 c.toNat] H = some (.int .i64 (hexI c.toNat), H) := by
  refine anyH fd69 rfl rfl ?_ H
  rw [q69]
  obtain ⟨e', h1, h2⟩ := rhex_loop hexL hexU rfl rfl c 16 0 rfl
  rw [hexF_eq] at h1 h2
  simp only [Int.natCast_zero] at h1
  have h3 := hexI_lt c.toNat
  generalize hexI c.toNat = x at *
  by_cases hx : x < 0
  · have : x = -1 := by omega
    subst this
    simp [d69, h1]
  · have h2' := h2 (by omega)
    rw [if_neg hx] at h1
    simp [d69, h1, h2']

def low (c : UInt8) : UInt8 := if 65 ≤ c.toNat ∧ c.toNat ≤ 90 then c + 32 else c
theorem rlower_loop (s : List UInt8) (hs : s.length < 1000000000) : ∀ (k i : Nat), i + k = s.length →
    ∃ e', XL T [0, 3, 4] L40_0 [(0, .str s), (3, outV ((s.take i).map low)), (4, .int .i64 i)] (outH ((s.take i).map low)) = some (.exit 0, e', outH (s.map low)) ∧ e'.get 3 = outV (s.map low)
  | 0, i, hk => by
    have hd : s.take i = s := List.take_of_length_le (by omega)
    rw [hd, XL_eq]
    simp [L40_0, show ¬ i < s.length by omega]
  | k + 1, i, hk => by
    have hlt : i < s.length := by omega
    have ht : (s.take (i + 1)).map low = (s.take i).map low ++ [low s[i]] := by
      rw [List.take_succ_eq_append_getElem hlt, List.map_append]; rfl
    have ha := append_out ((s.take i).map low) (low s[i]) (by simp [LIM]; omega)
    rw [← ht] at ha
    have ih := rlower_loop s hs k (i + 1) (by omega)
    push_cast at ih
    rw [XL_eq]
    generalize XL T [0, 3, 4] L40_0 = lp at *
    generalize (s.take i).map low = A at *
    generalize (s.take (i + 1)).map low = B at *
    clear ht
    by_cases hc : 65 ≤ s[i].toNat ∧ s[i].toNat ≤ 90
    · have hl : IntKind.u8.wrap ((s[i].toNat : Int) + 32) = ((low s[i]).toNat : Int) := by
        rw [IntKind.wrap_u8, low, if_pos hc, UInt8.toNat_add]; simp
      have g1 : (65 : Int) ≤ (s[i].toNat : Int) := by omega
      have g2 : (s[i].toNat : Int) ≤ 90 := by omega
      simp (disch := omega) [L40_0, g1, g2, hl, ha, hlt, wr64]
      exact ih
    · have hl : low s[i] = s[i] := if_neg hc
      rw [hl] at ha
      by_cases h1 : 65 ≤ s[i].toNat
      · have h2 : ¬ s[i].toNat ≤ 90 := fun h => hc ⟨h1, h⟩
        have h1' : (65 : Int) ≤ (s[i].toNat : Int) := by omega
        have h2' : ¬ ((s[i].toNat : Int) ≤ 90) := by omega
        simp (disch := omega) [L40_0, h1', h2', ha, hlt, wr64]
        exact ih
      · have h1' : ¬ (65 : Int) ≤ (s[i].toNat : Int) := by omega
        simp (disch := omega) [L40_0, h1', ha, hlt, wr64]
        exact ih
theorem rlower_ok (s : List UInt8) (hs : s.length < 1000000000) (H : Heap) : C T 40 [.str s] H = some (.str (s.map low), H) := by
  refine anyH fd40 rfl rfl ?_ H
  rw [q40]
  obtain ⟨e', h1, h2⟩ := rlower_loop s hs s.length 0 (by omega)
  simp only [List.take_zero, List.map_nil, Int.natCast_zero, outV, outH] at h1
  generalize s.map low = A at h1 h2 ⊢
  have hv := view_out A
  have hne : ∀ l, outV A ≠ .str l := by intro l; cases A <;> simp [outV]
  rcases A with _ | ⟨a, A⟩
  · simp [outV] at h1 h2
    simp [d40, h1, h2, bytesOf]
  · simp only [outV] at h1 h2
    have hb := bytesOf_bcells (a :: A)
    have hg : hget [⟨bcells (a :: A), A.length, true⟩] 0 0 (A.length + 1) A.length = some (bcells (a :: A)) := by
      have : (bcells (a :: A)).take (A.length + 1) = bcells (a :: A) := List.take_of_length_le (by simp [bcells])
      simp [hget, bcells_len, this]
    simp at h1 h2
    simp [d40, h1, h2, hg, hb]

theorem olower_loop (s : List UInt8) (hs : s.length < 1000000000) : ∀ (k i : Nat) (A : List UInt8), i + k = s.length → A = (s.take i).map low ++ s.drop i →
    ∃ e', XL T [3, 8, 9, 10] L80_0 [(3, .ms 0 0 s.length 1 0), (8, .ms 0 0 s.length 1 0), (9, .int .i64 s.length), (10, .int .i64 i)] [⟨bcells A, 0, true⟩] = some (.exit 0, e', [⟨bcells (s.map low), 0, true⟩]) ∧ e'.get 3 = .ms 0 0 s.length 1 0
  | 0, i, A, hk, hA => by
    have hd : A = s.map low := by rw [hA, List.take_of_length_le (by omega), List.drop_eq_nil_of_le (by omega), List.append_nil]
    rw [hd, XL_eq]
    simp [L80_0, show ¬ i < s.length by omega]
  | k + 1, i, A, hk, hA => by
    have hlt : i < s.length := by omega
    have hlA : A.length = s.length := by rw [hA]; simp; omega
    have hltA : i < A.length := by omega
    have hAi : A[i] = s[i] := by
      subst hA
      rw [List.getElem_append_right (by simp; omega)]
      simp [show min i s.length = i by omega]
    have ht : (s.take (i + 1)).map low ++ s.drop (i + 1) = A.set i (low s[i]) := by
      have hL : ((s.take i).map low).length = i := by simp; omega
      rw [hA, List.drop_eq_getElem_cons hlt, List.set_append_right _ _ (by omega), hL, Nat.sub_self, List.set_cons_zero, List.take_succ_eq_append_getElem hlt, List.map_append, List.append_assoc]; rfl
    have hg := hget_b A i 0 hltA
    have hst := hset_b A i 0 (low s[i]) hltA
    rw [hAi] at hg
    rw [← ht] at hst
    have hwi := within_ok s[i] 65 90 [⟨bcells A, 0, true⟩]
    have ih := olower_loop s hs k (i + 1) _ (by omega) rfl
    rw [ht] at ih hst
    push_cast at ih
    rw [XL_eq]
    generalize XL T [3, 8, 9, 10] L80_0 = lp at *
    by_cases hc : 65 ≤ s[i].toNat ∧ s[i].toNat ≤ 90
    · have hl : IntKind.u8.wrap ((s[i].toNat : Int) + 32) = ((low s[i]).toNat : Int) := by
        rw [IntKind.wrap_u8, low, if_pos hc, UInt8.toNat_add]; simp
      simp [hc.1, hc.2] at hwi
      simp (disch := omega) [L80_0, hwi, hl, hg, hst, hlt, wr64]
      exact ih
    · have hl : low s[i] = s[i] := if_neg hc
      have hs' : A.set i (low s[i]) = A := by rw [hl, ← hAi]; simp
      rw [hs'] at ih
      have hcf : (decide ((65 : UInt8).toNat ≤ s[i].toNat) && decide (s[i].toNat ≤ (90 : UInt8).toNat)) = false := by
        rw [← Bool.not_eq_true]; simpa using hc
      rw [hcf] at hwi
      simp at hwi
      simp (disch := omega) [L80_0, hwi, hg, hlt, wr64]
      exact ih
theorem olower_ok (s : List UInt8) (hs : s.length < 1000000000) (H : Heap) : C T 80 [.str s] H = some (.str (s.map low), H) := by
  refine anyH fd80 rfl rfl ?_ H
  rw [q80]
  have hl : s.length ≤ LIM := by unfold LIM; omega
  obtain ⟨e', h1, h2⟩ := olower_loop s hs s.length 0 s (by omega) (by simp)
  have hh : hget [⟨bcells (s.map low), 0, true⟩] 0 0 s.length 0 = some (bcells (s.map low)) := by
    have : List.take s.length (bcells (s.map low)) = bcells (s.map low) := List.take_of_length_le (by simp [bcells])
    simp [hget, bcells_len, this]
  simp only [Int.natCast_zero] at h1
  simp [d80, h1, h2, hl, hh, bytesOf_bcells]
end Go.Eng.S
