/- The reference's lines. No condition. -/
import Derived.Test.YtpdkdkdcmnipfaaGreatDoorKn
import Derived.Test.YtpdkdkdcmnipfaaGreatDoorKk
namespace Go.Eng.S
open Go Go.Eng
def finL (p : List UInt8) : List UInt8 → Ln
  | [] => .opn
  | c :: r => if c = 10 then .bad p.length else match r with
    | [] => .opn
    | e :: r' => if e = 10 then .ok p r' else .bad (p.length + 1)
theorem finL_c (p : List UInt8) (c : UInt8) (r : List UInt8) : finL p (c :: r) = if c = 10 then .bad p.length else match r with
    | [] => .opn
    | e :: r' => if e = 10 then .ok p r' else .bad (p.length + 1) := rfl
theorem lineR_c (most : Nat) (p : List UInt8) (c : UInt8) (r : List UInt8) : lineR most p (c :: r) = if c = 10 then .bad p.length else if c = 13 then (match r with
      | [] => .opn
      | e :: r => if e = 10 then .ok p r else .bad (p.length + 1))
    else if p.length = most then .long p.length else lineR most (p ++ [c]) r := by
  rw [lineR.eq_def]
  rfl
def lnP (u : List UInt8) (_most : Nat) (r : Ln) (W : List UInt8) (x : XR) : Prop := (∃ j, r = .long j ∧ ∃ e', x = some (.ret, e', []) ∧ e'.get 6 = .str [] ∧ e'.get 7 = .int .i64 (u.length + j : Nat) ∧ e'.get 8 = .int .i64 2) ∨
  ∃ e' p s, x = some (.exit 0, e', []) ∧ e'.get 0 = slV W ∧ e'.get 1 = .int .i64 u.length ∧ e'.get 9 = .int .i64 (u.length + p.length : Nat) ∧ W = u ++ p ++ s ∧ r = finL p s ∧ (∀ c r', s = c :: r' → c = 10 ∨ c = 13)
theorem bc_at (u p : List UInt8) (c : UInt8) (s : List UInt8) : (bcells (u ++ p ++ c :: s)).drop (u.length + p.length) = .int .u8 (c.toNat : Nat) :: bcells s := by
  rw [bcells_app, List.drop_append_of_le_length (by simp [bcells])]
  rw [List.drop_eq_nil_of_le (by simp [bcells])]
  rfl
theorem line_loop (u : List UInt8) (most : Nat) : ∀ (s p W : List UInt8), W = u ++ p ++ s → W.length < 1000000 → p.length ≤ most →
    lnP u most (lineR most p s) W (XL T [0, 1, 2, 9] L22_0 [(0, slV W), (1, .int .i64 u.length), (2, .int .i64 most), (9, .int .i64 (u.length + p.length : Nat))] [])
  | [], p, W, hW, hl, hp => by
    have hwl : W.length = u.length + p.length := by rw [hW]; simp
    have hx : ∃ e', XL T [0, 1, 2, 9] L22_0 [(0, slV W), (1, .int .i64 u.length), (2, .int .i64 most), (9, .int .i64 (u.length + p.length : Nat))] [] = some (.exit 0, e', []) ∧ e'.get 0 = slV W ∧ e'.get 1 = .int .i64 u.length ∧ e'.get 9 = .int .i64 (u.length + p.length : Nat) := by
      rw [XL_eq]
      simp (disch := omega) [L22_0, hwl]
    obtain ⟨e', h1, h2, h3, h4⟩ := hx
    exact .inr ⟨e', p, [], h1, h2, h3, h4, hW, rfl, fun c r' h => by cases h⟩
  | c :: s, p, W, hW, hl, hp => by
    have hwl : W.length = u.length + p.length + (s.length + 1) := by rw [hW]; simp; omega
    have hlt : (u.length : Int) + p.length < W.length := by omega
    have hlt2 : u.length + p.length < W.length := by omega
    have hcell := bc_at u p c s
    rw [← hW] at hcell
    have e10 := u8_eqlit c 10 10 rfl
    have e13 := u8_eqlit c 13 13 rfl
    by_cases h10 : c = 10
    · have n10 : ((c.toNat : Int) != 10) = false := by rw [bne, e10, h10]; rfl
      have n13 : ((c.toNat : Int) != 13) = true := by rw [bne, e13, h10]; rfl
      have hx : ∃ e', XL T [0, 1, 2, 9] L22_0 [(0, slV W), (1, .int .i64 u.length), (2, .int .i64 most), (9, .int .i64 (u.length + p.length : Nat))] [] = some (.exit 0, e', []) ∧ e'.get 0 = slV W ∧ e'.get 1 = .int .i64 u.length ∧ e'.get 9 = .int .i64 (u.length + p.length : Nat) := by
        rw [XL_eq]
        simp (disch := omega) [L22_0, hlt, hcell, n10, n13]
      obtain ⟨e', h1, h2, h3, h4⟩ := hx
      refine .inr ⟨e', p, c :: s, h1, h2, h3, h4, hW, ?_, fun c' r' h => by cases h; exact .inl h10⟩
      rw [lineR_c, finL_c, if_pos h10, if_pos h10]
    by_cases h13 : c = 13
    · have n13 : ((c.toNat : Int) != 13) = false := by rw [bne, e13, h13]; rfl
      have hx : ∃ e', XL T [0, 1, 2, 9] L22_0 [(0, slV W), (1, .int .i64 u.length), (2, .int .i64 most), (9, .int .i64 (u.length + p.length : Nat))] [] = some (.exit 0, e', []) ∧ e'.get 0 = slV W ∧ e'.get 1 = .int .i64 u.length ∧ e'.get 9 = .int .i64 (u.length + p.length : Nat) := by
        rw [XL_eq]
        simp (disch := omega) [L22_0, hlt, hcell, n13]
      obtain ⟨e', h1, h2, h3, h4⟩ := hx
      refine .inr ⟨e', p, c :: s, h1, h2, h3, h4, hW, ?_, fun c' r' h => by cases h; exact .inr h13⟩
      rw [lineR_c, finL_c, if_neg h10, if_neg h10, if_pos h13]
    have n10 : ((c.toNat : Int) != 10) = true := by rw [bne, e10]; simpa using h10
    have n13 : ((c.toNat : Int) != 13) = true := by rw [bne, e13]; simpa using h13
    have esub : (u.length : Int) + p.length - u.length = p.length := by omega
    rw [lineR_c, if_neg h10, if_neg h13]
    by_cases hm : p.length = most
    · rw [if_pos hm]
      subst hm
      refine .inl ⟨_, rfl, ?_⟩
      rw [XL_eq]
      simp (disch := omega) [L22_0, hlt, hcell, n10, n13, esub]
    · rw [if_neg hm]
      have hm' : ((p.length : Int) == most) = false := by rw [beq_eq_false_iff_ne]; omega
      have ih := line_loop u most s (p ++ [c]) W (by rw [hW]; simp) hl (by simp; omega)
      have el : u.length + (p ++ [c]).length = u.length + p.length + 1 := by simp; omega
      rw [el] at ih
      push_cast at ih
      rw [XL_eq]
      generalize XL T [0, 1, 2, 9] L22_0 = lp at *
      simp at hm'
      simp (disch := omega) [L22_0, hlt, hcell, n10, n13, esub]
      exact ih
def lnQ (at_ : Nat) : Ln → List AV → Prop
  | .opn, l => ∃ x, l = [.str [], .int .i64 x, .int .i64 3]
  | .bad j, l => l = [.str [], .int .i64 (at_ + j : Nat), .int .i64 1]
  | .long j, l => l = [.str [], .int .i64 (at_ + j : Nat), .int .i64 2]
  | .ok p _, l => l = [.str p, .int .i64 (at_ + p.length + 2 : Nat), .int .i64 0]
theorem line_ok (u s : List UInt8) (most : Nat) (hl : u.length + s.length < 1000000) : ∃ l, (∀ H, C T 22 [slV (u ++ s), .int .i64 u.length, .int .i64 most] H = some (.tup l, H)) ∧ lnQ u.length (lineR most [] s) l := by
  suffices h : ∃ l, C T 22 [slV (u ++ s), .int .i64 u.length, .int .i64 most] [] = some (.tup l, []) ∧ lnQ u.length (lineR most [] s) l by
    obtain ⟨l, h1, h2⟩ := h
    exact ⟨l, anyH fd22 rfl (by simp [bcells_closed]) h1, h2⟩
  rw [q22]
  have hsn := fun k H => snap_sl k H false (u ++ s)
  generalize hWe : u ++ s = W at *
  have hWl : W.length < 1000000 := by rw [← hWe]; simpa using hl
  have h := line_loop u most s [] W (by rw [← hWe]; simp) hWl (Nat.zero_le _)
  simp only [List.length_nil, Nat.add_zero] at h
  rcases h with ⟨j, hj, e', h1, h2, h3, h4⟩ | ⟨e', p, s', h1, h2, h3, h4, h5, h6, h7⟩
  · rw [hj]
    refine ⟨_, ?_, rfl⟩
    simp [d22, hsn, h1, h2, h3, h4]
  · rw [h6]
    have hwl : W.length = u.length + p.length + s'.length := by rw [h5]; simp; omega
    cases s' with
    | nil =>
      refine ⟨[.str [], .int .i64 (u.length + p.length : Nat), .int .i64 3], ?_, ⟨_, rfl⟩⟩
      have : ((u.length : Int) + p.length == W.length) = true := by rw [beq_iff_eq]; simp at hwl; omega
      simp [d22, hsn, h1, h2, h3, h4, this]
    | cons c r =>
      have hcell := bc_at u p c r
      rw [← h5] at hcell
      have hne : ((u.length : Int) + p.length == W.length) = false := by rw [beq_eq_false_iff_ne]; simp at hwl; omega
      simp at hne
      have hlt : u.length + p.length < W.length := by simp at hwl; omega
      have e10 := u8_eqlit c 10 10 rfl
      rw [finL_c]
      by_cases h10 : c = 10
      · rw [if_pos h10]
        refine ⟨_, ?_, rfl⟩
        simp (disch := omega) [d22, hsn, h1, h2, h3, h4, hcell, h10]
      · rw [if_neg h10]
        have h13 := (h7 c r rfl).resolve_left h10
        cases r with
        | nil =>
          refine ⟨[.str [], .int .i64 (u.length + p.length : Nat), .int .i64 3], ?_, ⟨_, rfl⟩⟩
          have : ((u.length : Int) + p.length + 1 == W.length) = true := by rw [beq_iff_eq]; simp at hwl; omega
          simp at this
          simp (disch := omega) [d22, hsn, h1, h2, h3, h4, hcell, e10, h10, this]
        | cons e r' =>
          have hcell2 := bc_at u (p ++ [c]) e r'
          have hW2 : u ++ (p ++ [c]) ++ e :: r' = W := by rw [h5]; simp
          have el : u.length + (p ++ [c]).length = u.length + p.length + 1 := by simp; omega
          rw [hW2, el] at hcell2
          have hne2 : ((u.length : Int) + p.length + 1 == W.length) = false := by rw [beq_eq_false_iff_ne]; simp at hwl; omega
          simp at hne2
          have hlt2 : u.length + p.length + 1 < W.length := by simp at hwl; omega
          have f10 := u8_eqlit e 10 10 rfl
          have hsl : ((bcells W).take (u.length + p.length)).drop u.length = bcells p := by
            rw [h5, List.append_assoc, bcells_app, bcells_app]
            have e1 : (bcells u).length = u.length := bcells_len u
            have e2 : (bcells p).length = p.length := bcells_len p
            rw [← e1, ← e2, List.take_append, List.drop_append]
            simp
          have hsl2 : ((bcells W).drop u.length).take p.length = bcells p := by
            rw [← hsl, List.drop_take, Nat.add_sub_cancel_left]
          have etn : ((u.length : Int) + p.length + 1).toNat = u.length + p.length + 1 := by omega
          simp only
          by_cases he : e = 10
          · rw [if_pos he]
            have n10 : ((e.toNat : Int) != 10) = false := by rw [bne, f10, he]; rfl
            refine ⟨_, ?_, rfl⟩
            simp (disch := omega) [d22, hsn, h1, h2, h3, h4, hcell, e10, h10, hcell2, etn, n10, hsl2, bytesOf_bcells]
          · rw [if_neg he]
            have n10 : ((e.toNat : Int) != 10) = true := by rw [bne, f10]; simpa using he
            refine ⟨[.str [], .int .i64 (u.length + p.length + 1 : Nat), .int .i64 1], ?_, by simp only [lnQ, Nat.add_assoc]⟩
            simp (disch := omega) [d22, hsn, h1, h2, h3, h4, hcell, e10, h10, hcell2, etn, n10]
end Go.Eng.S
