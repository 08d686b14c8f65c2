/- host.Parse. No condition. -/
import Derived.Test.YtfpknphncaopkaaDoorHa
namespace Go.Eng.S
open Go Go.Eng
inductive HR where
  | bad (at_ : Nat)
  | host (name : List UInt8) (port : Int)
def HR.v : HR → AV
  | .bad k => .tup [.agg [.str [], .int .i64 0], flt 400 k]
  | .host n p => .tup [.agg [.str n, .int .i64 p], .cst .nilIface]
def fin (s : List UInt8) (n : Nat) : HR := if s.drop (n + 1) = [] then .host ((s.take n).map low) (-1) else if 5 < (s.drop (n + 1)).length then .bad (n + 1) else match decO 65535 (s.drop (n + 1)) with
  | none => .bad (n + 1)
  | some p => .host ((s.take n).map low) p
def fits (s : List UInt8) (n : Nat) : Bool := decide (n ≠ 0) && (decide (s.length ≤ n) || s[n]? == some 58)
def hostP (s : List UInt8) : HR := if fits s (nameR [91] [93] six s) = true then fin s (nameR [91] [93] six s) else if fits s (nameR [] [] nam s) = true then fin s (nameR [] [] nam s) else .bad 0
theorem hasP_len {p s : List UInt8} (h : hasP p s = true) : p.length ≤ s.length := by
  unfold hasP at h; simp at h; exact h.1
theorem nameR_le (p q : List UInt8) (hol : UInt8 → Bool) (s : List UInt8) : nameR p q hol s ≤ s.length := by
  unfold nameR
  split
  · rename_i h
    have h1 := hasP_len h
    split
    · omega
    · split
      · rename_i h3
        have h2 := hasP_len h3
        have := (List.takeWhile_sublist hol (l := s.drop p.length)).length_le
        simp at h2 this
        omega
      · omega
  · omega
theorem gl0 : T.glob 0 = some [.str [91], .str [93], .fn (.func 111) [] [], .str [], .str [], .fn (.func 113) [] []] := rfl
def ansP (v : AV) (r : XR) : Prop := ∃ e' cs G err, r = some (.ret, e', ⟨cs, 0, true⟩ :: G) ∧ e'.get 2 = .ptr 0 0 0 ∧ e'.get 3 = err ∧ AV.tup [.agg cs, err] = v ∧ cs.length = 2
/-- What a round of Parse does: it answers, or goes on. -/
def rnd (s : List UInt8) (n : Nat) (P : XR → Prop) : XR → Prop := if fits s n = true then ansP (fin s n).v else P
def rndE (r : XR) : Prop := ∃ e' G, r = some (.exit 0, e', ⟨[.str [], .int .i64 0], 0, true⟩ :: G) ∧ e'.get 2 = .ptr 0 0 0

abbrev clsV : AV := .agg [.str [91], .str [93], .fn (.func 111) [] [], .str [], .str [], .fn (.func 113) [] []]
set_option maxHeartbeats 4000000 in
/-- One round. -/
theorem parse_rnd (s : List UInt8) (hs : s.length < 1000000) (i : Nat) (G : Heap) (p q : List UInt8) (f : Nat) (hol : UInt8 → Bool) (hi : i = 0 ∧ G = [] ∧ p = [91] ∧ q = [93] ∧ f = 111 ∨ ∃ x, i = 1 ∧ G = [x] ∧ p = [] ∧ q = [] ∧ f = 113)
    (hf : ∀ (c : UInt8) H, C T f [.int .u8 c.toNat] H = some (.bool (hol c), H)) (hp : isPure T f = true) (P : XR → Prop)
    (hP : ∀ x, P (XL T [0, 2, 11, 12] L9_0 [(0, .str s), (2, .ptr 0 0 0), (11, clsV), (12, .int .i64 (i + 1 : Nat))] (⟨[.str [], .int .i64 0], 0, true⟩ :: (G ++ [x])))) :
    rnd s (nameR p q hol s) P (XL T [0, 2, 11, 12] L9_0 [(0, .str s), (2, .ptr 0 0 0), (11, clsV), (12, .int .i64 i)] (⟨[.str [], .int .i64 0], 0, true⟩ :: G)) := by
  have hpl : p.length < 1000 ∧ q.length < 1000 := by rcases hi with ⟨_, _, rfl, rfl, _⟩ | ⟨_, _, _, rfl, rfl, _⟩ <;> decide
  have hle := nameR_le p q hol s
  have hn := name_ok hf hp p q s (by omega) hpl.1 hpl.2
  have hlow := olower_ok (s.take (nameR p q hol s)) (by simp; omega)
  have hdp := dparse_ok (s.drop (nameR p q hol s + 1)) (by simp; omega) 65535 (by decide) (by decide)
  have hnew := new_ok 400 ((nameR p q hol s : Int) + 1)
  rw [XL_eq]
  generalize XL T [0, 2, 11, 12] L9_0 = lp at *
  generalize nameR p q hol s = n at *
  unfold rnd
  by_cases h0 : n = 0
  · subst h0
    rw [if_neg (by simp [fits])]
    rcases hi with ⟨rfl, rfl, rfl, rfl, rfl⟩ | ⟨x, rfl, rfl, rfl, rfl, rfl⟩ <;>
    · simp (disch := omega) [L9_0, hn, hget, hset]
      exact hP _
  by_cases h1 : n < s.length
  · have e1 := u8_nlit s[n] 58 58 rfl
    simp only [Int.cast_ofNat_Int] at e1
    have hfi : fits s n = decide (s[n] = 58) := by
      unfold fits
      rw [List.getElem?_eq_getElem h1]
      simp [h0, Nat.not_le.2 h1]
      rfl
    rw [hfi]
    by_cases h2 : s[n] = 58
    · rw [if_pos (by simpa using h2)]
      have e1' : ((s[n].toNat : Int) != 58) = false := by rw [e1, h2]; rfl
      unfold fin
      by_cases h3 : s.length ≤ n + 1
      · rw [if_pos (List.drop_eq_nil_of_le h3)]
        rcases hi with ⟨rfl, rfl, rfl, rfl, rfl⟩ | ⟨x, rfl, rfl, rfl, rfl, rfl⟩ <;>
        · simp (disch := omega) [L9_0, hn, hget, hset, h1, e1', hlow, HR.v]
          exact ⟨_, _, _, _, rfl, rfl, rfl, rfl, rfl⟩
      · rw [if_neg (by rw [List.drop_eq_nil_iff]; exact h3), List.length_drop]
        by_cases h5 : 5 < s.length - (n + 1)
        · rw [if_pos h5]
          cases hd : decO 65535 (s.drop (n + 1)) with
          | none =>
            obtain ⟨a, c, hr⟩ := decR_none hd
            rw [hr] at hdp
            rcases hi with ⟨rfl, rfl, rfl, rfl, rfl⟩ | ⟨x, rfl, rfl, rfl, rfl, rfl⟩ <;>
            · simp (disch := omega) [L9_0, hn, hget, hset, h1, e1', hlow, HR.v, hdp, hnew]
              exact ⟨_, _, _, _, rfl, rfl, rfl, rfl, rfl⟩
          | some v =>
            rw [decR_some hd] at hdp
            rcases hi with ⟨rfl, rfl, rfl, rfl, rfl⟩ | ⟨x, rfl, rfl, rfl, rfl, rfl⟩ <;>
            · simp (disch := omega) [L9_0, hn, hget, hset, h1, e1', hlow, HR.v, hdp, hnew]
              exact ⟨_, _, _, _, rfl, rfl, rfl, rfl, rfl⟩
        · rw [if_neg h5]
          cases hd : decO 65535 (s.drop (n + 1)) with
          | none =>
            obtain ⟨a, c, hr⟩ := decR_none hd
            rw [hr] at hdp
            rcases hi with ⟨rfl, rfl, rfl, rfl, rfl⟩ | ⟨x, rfl, rfl, rfl, rfl, rfl⟩ <;>
            · simp (disch := omega) [L9_0, hn, hget, hset, h1, e1', hlow, HR.v, hdp, hnew]
              exact ⟨_, _, _, _, rfl, rfl, rfl, rfl, rfl⟩
          | some v =>
            rw [decR_some hd] at hdp
            rcases hi with ⟨rfl, rfl, rfl, rfl, rfl⟩ | ⟨x, rfl, rfl, rfl, rfl, rfl⟩ <;>
            · simp (disch := omega) [L9_0, hn, hget, hset, h1, e1', hlow, HR.v, hdp]
              exact ⟨_, _, _, _, rfl, rfl, rfl, rfl, rfl⟩
    · rw [if_neg (by simpa using h2)]
      have e1' : ((s[n].toNat : Int) != 58) = true := by rw [e1]; simpa using h2
      rcases hi with ⟨rfl, rfl, rfl, rfl, rfl⟩ | ⟨x, rfl, rfl, rfl, rfl, rfl⟩ <;>
      · simp (disch := omega) [L9_0, hn, hget, hset, h1, e1']
        exact hP _
  · have hfi : fits s n = true := by
      unfold fits
      simp [h0, Nat.le_of_not_lt h1]
    rw [if_pos hfi]
    unfold fin
    rw [if_pos (List.drop_eq_nil_of_le (by omega))]
    rcases hi with ⟨rfl, rfl, rfl, rfl, rfl⟩ | ⟨x, rfl, rfl, rfl, rfl, rfl⟩ <;>
    · simp (disch := omega) [L9_0, hn, hget, hset, hlow, HR.v]
      exact ⟨_, _, _, _, rfl, rfl, rfl, rfl, rfl⟩
end Go.Eng.S
