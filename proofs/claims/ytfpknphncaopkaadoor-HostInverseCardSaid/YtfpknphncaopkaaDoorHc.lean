/- host.Parse whole; the reference's Name. No condition. -/
import Derived.Test.YtfpknphncaopkaaDoorHb
namespace Go.Eng.S
open Go Go.Eng
theorem ansP_of {v : AV} {r : XR} (h : ansP v r) : ansP v r := h
theorem HR_v_cl (x : HR) (H : Heap) : snap 12 H x.v = some (x.v, H) := by cases x <;> rfl
theorem hparse_ok (s : List UInt8) (hs : s.length < 1000000) (H : Heap) : C T 9 [.str s] H = some ((hostP s).v, H) := by
  refine anyH fd9 rfl rfl ?_ H
  rw [q9]
  have h2 := fun x => parse_rnd s hs 1 [x] [] [] 113 nam (.inr ⟨x, rfl, rfl, rfl, rfl, rfl⟩) nam_ok (by simp) rndE (by
    intro y
    rw [XL_eq]
    simp [L9_0, rndE])
  have h1 := parse_rnd s hs 0 [] [91] [93] 111 six (.inl ⟨rfl, rfl, rfl, rfl, rfl⟩) six_ok (by simp) (rnd s (nameR [] [] nam s) rndE) (by
    intro x
    exact h2 x)
  clear h2
  unfold rnd at h1
  have hv := HR_v_cl (hostP s)
  have hnew := new_ok 400 0
  simp only [Int.natCast_zero] at h1
  have fini : ∀ x, hostP s = x → ansP x.v (XL T [0, 2, 11, 12] L9_0 [(0, .str s), (2, .ptr 0 0 0), (11, clsV), (12, .int .i64 0)] [⟨[.str [], .int .i64 0], 0, true⟩]) → snpK (mapS (snap 12) [] [AV.str s]) (fun args' H' => purK H' (B T d9.body d9.res args' [])) = some ((hostP s).v, []) := by
    rintro x rfl ⟨e', cs, G, err, g1, g2, g3, g4, g5⟩
    match cs, g5 with
    | [c0, c1], _ =>
    rw [← g4] at hv ⊢
    simp [d9, gl0, g1, g2, g3, hget]
    have hz := hv (⟨[c0, c1], 0, true⟩ :: G)
    simp at hz
    exact ⟨_, hz⟩
  unfold hostP at fini ⊢
  cases hf1 : fits s (nameR [91] [93] six s) with
  | true =>
    rw [hf1] at h1 fini
    simp only [if_true] at h1 fini ⊢
    exact fini _ rfl h1
  | false =>
    rw [hf1] at h1 fini
    simp only [Bool.false_eq_true, if_false] at h1 fini ⊢
    cases hf2 : fits s (nameR [] [] nam s) with
    | true =>
      rw [hf2] at h1 fini
      simp only [if_true] at h1 fini ⊢
      exact fini _ rfl h1
    | false =>
      rw [hf2] at h1
      simp only [Bool.false_eq_true, if_false] at h1 ⊢
      obtain ⟨e', G, g1, g2⟩ := h1
      simp [d9, gl0, g1, g2, hget, hset, hnew, HR.v]

/-! ### the reference's names -/
theorem nam_cls (c : UInt8) : nam c = (clsB 0 c || clsB 1 c || decide (c ∈ ([45, 46, 95] : List UInt8))) := by
  have := all256 (p := fun n => nam (UInt8.ofNat n) == (clsB 0 (UInt8.ofNat n) || clsB 1 (UInt8.ofNat n) || decide (UInt8.ofNat n ∈ ([45, 46, 95] : List UInt8)))) (by decide +kernel) c
  simpa using this
theorem rnam_loop (s : List UInt8) (hs : s.length < 1000000) : ∀ (k i : Nat), i + k = s.length →
    ∃ e', XL T [0, 4] L14_0 [(0, .str s), (4, .int .i64 i)] [] = some (if (s.drop i).all nam = true then .exit 2 else .ret, e', []) ∧ ((s.drop i).all nam = false → e'.get 2 = .bool false)
  | 0, i, hk => by
    have hd : s.drop i = [] := List.drop_eq_nil_of_le (by omega)
    rw [XL_eq, hd]
    simp (disch := omega) [L14_0]
  | k + 1, i, hk => by
    have hlt : i < s.length := by omega
    have c0 := class_ok s[i] 0 (by decide)
    have c1 := class_ok s[i] 1 (by decide)
    have c2 := in_ok s[i] [45, 46, 95] (by decide)
    have hd : s.drop i = s[i] :: s.drop (i + 1) := List.drop_eq_getElem_cons hlt
    have ih := rnam_loop s hs k (i + 1) (by omega)
    push_cast at ih
    simp only [Int.natCast_zero, Int.natCast_one] at c0 c1
    rw [hd, List.all_cons, XL_eq, nam_cls]
    generalize XL T [0, 4] L14_0 = lp at *
    generalize (s.drop (i + 1)).all nam = R at *
    generalize clsB 0 s[i] = b0 at *
    generalize clsB 1 s[i] = b1 at *
    generalize decide (s[i] ∈ ([45, 46, 95] : List UInt8)) = b2 at *
    cases b0 <;> cases b1 <;> cases b2 <;> simp (disch := omega) [L14_0, hlt, c0, c1, c2]
    all_goals simpa using ih
theorem rsix_loop (s : List UInt8) (hs : s.length < 1000000) : ∀ (k i : Nat), s.length - 1 ≤ i + k →
    ∃ e', XL T [0, 3] L14_1 [(0, .str s), (3, .int .i64 i)] [] = some (if ((s.take (s.length - 1)).drop i).all six = true then .exit 0 else .ret, e', []) ∧ (((s.take (s.length - 1)).drop i).all six = true → e'.get 0 = .str s) ∧ (((s.take (s.length - 1)).drop i).all six = false → e'.get 2 = .bool false)
  | 0, i, hk => by
    have hd : (s.take (s.length - 1)).drop i = [] := List.drop_eq_nil_of_le (by simp; omega)
    rw [XL_eq, hd]
    simp (disch := omega) [L14_1]
  | k + 1, i, hk => by
    by_cases hlt' : s.length - 1 ≤ i
    · have hd : (s.take (s.length - 1)).drop i = [] := List.drop_eq_nil_of_le (by simp; omega)
      rw [XL_eq, hd]
      simp (disch := omega) [L14_1]
    have hlt : i < s.length := by omega
    have hd : (s.take (s.length - 1)).drop i = s[i] :: (s.take (s.length - 1)).drop (i + 1) := by
      rw [List.drop_eq_getElem_cons (by simp; omega), List.getElem_take]
    have hx := rhex_ok s[i]
    have e1 := u8_nlit s[i] 58 58 rfl
    have e2 := u8_nlit s[i] 46 46 rfl
    simp only [Int.cast_ofNat_Int] at e1 e2
    have ih := rsix_loop s hs k (i + 1) (by omega)
    push_cast at ih
    rw [hd, List.all_cons, XL_eq]
    generalize XL T [0, 3] L14_1 = lp at *
    generalize ((s.take (s.length - 1)).drop (i + 1)).all six = R at *
    have hsx : six s[i] = (decide (0 ≤ hexI s[i].toNat) || !(s[i] != 58) || !(s[i] != 46)) := by unfold six; simp [bne]
    rw [hsx]
    generalize (s[i] != 58) = b1 at *
    generalize (s[i] != 46) = b2 at *
    generalize hexI s[i].toNat = x at *
    by_cases h0 : 0 ≤ x
    · simp (disch := omega) [L14_1, hx]
      simpa using ih
    · cases b1 <;> cases b2 <;> simp (disch := omega) [L14_1, hx, e1, e2]
      all_goals simpa using ih
def rName (s : List UInt8) : Bool := if s = [] then false else if s[0]? = some 91 then ((s.take (s.length - 1)).drop 1).all six && decide (2 < s.length) && (s[s.length - 1]? == some 93) else s.all nam
theorem rname_ok (s : List UInt8) (hs : s.length < 1000000) (H : Heap) : C T 14 [.str s] H = some (.bool (rName s), H) := by
  refine anyH fd14 rfl rfl ?_ H
  rw [q14]
  unfold rName
  by_cases hc : s = []
  · subst hc
    simp [d14]
  rw [if_neg hc]
  have hl : 0 < s.length := List.length_pos_iff.2 hc
  have hem : s.isEmpty = false := by cases s <;> first | rfl | exact absurd rfl hc
  have e1 := u8_lit s[0] 91 91 rfl
  simp only [Int.cast_ofNat_Int] at e1
  rw [List.getElem?_eq_getElem hl]
  by_cases h1 : s[0] = 91
  · rw [beq_iff_eq.2 h1] at e1
    rw [if_pos (by rw [h1])]
    obtain ⟨e', g1, g2, g3⟩ := rsix_loop s hs s.length 1 (by omega)
    simp only [Int.natCast_one] at g1
    cases hb : ((s.take (s.length - 1)).drop 1).all six with
    | false =>
      rw [hb] at g1
      have g3 := g3 hb
      simp at g1
      simp (disch := omega) [d14, hem, e1, g1, g3]
    | true =>
      rw [hb] at g1
      have g2 := g2 hb
      simp only [if_true] at g1
      have e2 := u8_lit s[s.length - 1] 93 93 rfl
      simp only [Int.cast_ofNat_Int] at e2
      have hl2 : s.length - 1 < s.length := by omega
      rw [List.getElem?_eq_getElem hl2]
      by_cases h2 : 2 < s.length
      · have ht : ((s.length : Int) - 1).toNat = s.length - 1 := by omega
        simp (disch := omega) [d14, hem, e1, g1, g2, e2, ht]
      · simp (disch := omega) [d14, hem, e1, g1, g2]
  · have e1' : ((s[0].toNat : Int) == 91) = false := by rw [e1]; simpa using h1
    rw [if_neg (by simpa using h1)]
    obtain ⟨e', g1, g2⟩ := rnam_loop s hs s.length 0 (by omega)
    simp only [Int.natCast_zero, List.drop_zero] at g1 g2
    cases hb : s.all nam with
    | false =>
      rw [hb] at g1
      have g2 := g2 hb
      simp at g1
      simp (disch := omega) [d14, hem, e1', g1, g2]
    | true =>
      rw [hb] at g1
      simp only [if_true] at g1
      simp (disch := omega) [d14, hem, e1', g1]
end Go.Eng.S
