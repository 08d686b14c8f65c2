/- The reference's Parse; both are the same; HostParses. No condition. -/
import Derived.Test.YtfpknphncaopkaaDoorHc
namespace Go.Eng.S
open Go Go.Eng
def HR.rv : HR → AV
  | .bad k => .tup [.agg [.str [], .int .i64 0], .int .i64 k]
  | .host n p => .tup [.agg [.str n, .int .i64 p], .int .i64 (-1)]
def rgo (s : List UInt8) : Nat → Nat → Option HR
  | 0, _ => none
  | k + 1, i => if (s[i]? == some 58 && rName (s.take i)) = true then some (fin s i) else rgo s k (i + 1)
def refP (s : List UInt8) : HR := if rName s = true then .host (s.map low) (-1) else (rgo s s.length 0).getD (.bad 0)
/-- The reference's number. -/
theorem rnumR_some {m : Int} {s : List UInt8} {n : Int} (h : decO m s = some n) : rnumR 10 m (fun c => isDg c.toNat) dgI s = [.int .i64 n, .int .i64 0, .int .i64 0] := by
  unfold decO at h
  unfold rnumR
  by_cases hs : s = []
  · rw [if_pos hs] at h; cases h
  · rw [if_neg hs] at h ⊢
    cases hf : firstBad (fun c => isDg c.toNat) s 0 with
    | some j => rw [hf] at h; cases h
    | none =>
      rw [hf] at h
      simp only at h ⊢
      rw [h]
theorem rnumR_none {m : Int} {s : List UInt8} (h : decO m s = none) : ∃ a c : Int, rnumR 10 m (fun c => isDg c.toNat) dgI s = [.int .i64 0, .int .i64 a, .int .i64 c] ∧ a ≠ 0 := by
  unfold decO at h
  unfold rnumR
  by_cases hs : s = []
  · exact ⟨_, _, if_pos hs, by decide⟩
  · rw [if_neg hs] at h ⊢
    cases hf : firstBad (fun c => isDg c.toNat) s 0 with
    | some j => exact ⟨_, _, rfl, by decide⟩
    | none =>
      rw [hf] at h
      simp only at h ⊢
      rw [h]
      exact ⟨_, _, rfl, by decide⟩
def ransP (v : AV) (r : XR) : Prop := ∃ e' cs G k, r = some (.ret, e', ⟨cs, 0, true⟩ :: G) ∧ e'.get 2 = .ptr 0 0 0 ∧ e'.get 3 = .int .i64 k ∧ AV.tup [.agg cs, .int .i64 k] = v ∧ cs.length = 2
def rgoP (x : Option HR) : XR → Prop := match x with
  | some v => ransP v.rv
  | none => fun r => ∃ e', r = some (.exit 0, e', [⟨[.str [], .int .i64 0], 0, true⟩]) ∧ e'.get 2 = .ptr 0 0 0
set_option maxHeartbeats 4000000 in
theorem rpar_loop (s : List UInt8) (hs : s.length < 1000000) : ∀ (k i : Nat), i + k = s.length →
    rgoP (rgo s k i) (XL T [0, 2, 4] L10_0 [(0, .str s), (2, .ptr 0 0 0), (4, .int .i64 i)] [⟨[.str [], .int .i64 0], 0, true⟩])
  | 0, i, hk => by
    rw [XL_eq]
    simp (disch := omega) [L10_0, rgo, rgoP]
  | k + 1, i, hk => by
    have hlt : i < s.length := by omega
    have ih := rpar_loop s hs k (i + 1) (by omega)
    push_cast at ih
    have e1 := u8_nlit s[i] 58 58 rfl
    simp only [Int.cast_ofNat_Int] at e1
    have hn := rname_ok (s.take i) (by simp; omega)
    have hlow := rlower_ok (s.take i) (by simp; omega)
    have hdp := rparse_ok rdec (m := 65535) (by decide) (by decide) (s.drop (i + 1)) (by simp; omega)
    rw [XL_eq, rgo, List.getElem?_eq_getElem hlt]
    generalize XL T [0, 2, 4] L10_0 = lp at *
    generalize rgo s k (i + 1) = R at *
    by_cases h1 : s[i] = 58
    · have e1' : ((s[i].toNat : Int) != 58) = false := by rw [e1, h1]; rfl
      rw [h1]
      cases h2 : rName (s.take i) with
      | false =>
        rw [h2] at hn
        rw [if_neg (by simp)]
        simp (disch := omega) [L10_0, hlt, e1', hn]
        exact ih
      | true =>
        rw [h2] at hn
        rw [if_pos (by simp)]
        unfold fin rgoP
        by_cases h3 : s.length ≤ i + 1
        · rw [if_pos (List.drop_eq_nil_of_le h3)]
          simp (disch := omega) [L10_0, hlt, e1', hn, hlow, HR.rv, hget, hset]
          exact ⟨_, _, _, _, rfl, rfl, rfl, rfl, rfl⟩
        · rw [if_neg (by rw [List.drop_eq_nil_iff]; exact h3), List.length_drop]
          cases hd : decO 65535 (s.drop (i + 1)) with
          | none =>
            obtain ⟨a, c, hr, ha⟩ := rnumR_none hd
            rw [hr] at hdp
            by_cases h5 : 5 < s.length - (i + 1)
            · rw [if_pos h5]
              simp (disch := omega) [L10_0, hlt, e1', hn, hlow, HR.rv, hget, hset, hdp]
              exact ⟨_, _, _, _, rfl, rfl, rfl, rfl, rfl⟩
            · rw [if_neg h5]
              simp (disch := omega) [L10_0, hlt, e1', hn, hlow, HR.rv, hget, hset, hdp]
              exact ⟨_, _, _, _, rfl, rfl, rfl, rfl, rfl⟩
          | some v =>
            rw [rnumR_some hd] at hdp
            by_cases h5 : 5 < s.length - (i + 1)
            · rw [if_pos h5]
              simp (disch := omega) [L10_0, hlt, e1', hn, hlow, HR.rv, hget, hset, hdp]
              exact ⟨_, _, _, _, rfl, rfl, rfl, rfl, rfl⟩
            · rw [if_neg h5]
              simp (disch := omega) [L10_0, hlt, e1', hn, hlow, HR.rv, hget, hset, hdp]
              exact ⟨_, _, _, _, rfl, rfl, rfl, rfl, rfl⟩
    · have e1' : ((s[i].toNat : Int) != 58) = true := by rw [e1]; simpa using h1
      rw [if_neg (by simp [h1])]
      simp (disch := omega) [L10_0, hlt, e1']
      exact ih
theorem HR_rv_cl (x : HR) (H : Heap) : snap 12 H x.rv = some (x.rv, H) := by cases x <;> rfl
theorem rpar_ok (s : List UInt8) (hs : s.length < 1000000) (H : Heap) : C T 10 [.str s] H = some ((refP s).rv, H) := by
  refine anyH fd10 rfl rfl ?_ H
  rw [q10]
  have hl := rpar_loop s hs s.length 0 (by omega)
  have hn := rname_ok s hs
  have hlow := rlower_ok s (by omega)
  simp only [Int.natCast_zero] at hl
  unfold refP
  cases h1 : rName s with
  | true =>
    rw [h1] at hn
    simp [d10, hn, hlow, hget, hset, HR.rv]
  | false =>
    rw [h1] at hn
    simp only [Bool.false_eq_true, if_false]
    cases hg : rgo s s.length 0 with
    | none =>
      rw [hg] at hl
      obtain ⟨e', g1, g2⟩ := hl
      simp [d10, hn, hget, hset, HR.rv, g1, g2]
    | some x =>
      rw [hg] at hl
      obtain ⟨e', cs, G, k, g1, g2, g3, g4, g5⟩ := hl
      have hv := HR_rv_cl x
      match cs, g5 with
      | [c0, c1], _ =>
      simp only [Option.getD_some]
      rw [← g4] at hv ⊢
      simp [d10, hn, hget, g1, g2, g3]
      have hz := hv (⟨[c0, c1], 0, true⟩ :: G)
      simp at hz
      exact ⟨_, hz⟩
end Go.Eng.S
