/- The reference's Read. No condition. -/
import Derived.Test.YtpdkdkdcmnipfaaGreatDoorKp
namespace Go.Eng.S
open Go Go.Eng
def crlfR (at_ : Nat) : List UInt8 → Res ⊕ List UInt8
  | [] => .inl .opn
  | c :: r1 => if c ≠ 13 then .inl (.bad 400 at_) else match r1 with
    | [] => .inl .opn
    | e :: r2 => if e ≠ 10 then .inl (.bad 400 (at_ + 1)) else .inr r2
abbrev rdEnv (W : List UInt8) (a : Int) (vo : AV) (i : Int) : Env := [(0, slV W), (1, .int .i64 a), (5, .ptr 0 0 0), (6, .ptr 1 0 0), (7, vo), (13, .int .i64 i)]
def crP (W u : List UInt8) (vo : AV) (H : Heap) (r : Res ⊕ List UInt8) (x : XR) : Prop := match r with
  | .inl r => rdPost r x
  | .inr _ => ∃ e', x = some (.exit 2, e', H) ∧ e'.get 0 = slV W ∧ e'.get 1 = .int .i64 (u.length + 2 : Nat) ∧ e'.get 5 = .ptr 0 0 0 ∧ e'.get 6 = .ptr 1 0 0 ∧ e'.get 7 = vo
theorem bc_at0 (u : List UInt8) (c : UInt8) (s : List UInt8) : (bcells (u ++ c :: s)).drop u.length = .int .u8 (c.toNat : Nat) :: bcells s := by
  have := bc_at u [] c s
  simpa using this
theorem crlf_ok (W u s : List UInt8) (hW : W = u ++ s) (hl : W.length < 10000) (H : Heap) (h1 : H[1]? = some rs0) (vo : AV) :
    crP W u vo H (crlfR u.length s) (XL T [0, 1, 5, 6, 7, 13] L11_1 (rdEnv W u.length vo 0) H) := by
  have hwl : W.length = u.length + s.length := by rw [hW]; simp
  cases s with
  | nil =>
    have he : ((u.length : Int) == W.length) = true := by rw [beq_iff_eq]; simp at hwl; omega
    simp at he
    refine rdPost_of (H := H) (cells := [nls, .int .i64 0, .int .i64 0, .int .i64 0, .bool true]) ?_ h1 rfl ⟨_, rfl⟩
    rw [XL_eq]
    simp (disch := omega) [L11_1, hset_at h1, he]
  | cons c r1 =>
    have hne : ((u.length : Int) == W.length) = false := by rw [beq_eq_false_iff_ne]; simp at hwl; omega
    simp at hne
    have hlt : u.length < W.length := by simp at hwl; omega
    have hcell := bc_at0 u c r1
    rw [← hW] at hcell
    have e13 := u8_eqlit c 13 13 rfl
    unfold crlfR
    dsimp only
    by_cases hc : c = 13
    · have n13 : ((c.toNat : Int) != 13) = false := by rw [bne, e13, hc]; rfl
      rw [if_neg (by simpa using hc)]
      have st0 : XL T [0, 1, 5, 6, 7, 13] L11_1 (rdEnv W u.length vo 0) H = XL T [0, 1, 5, 6, 7, 13] L11_1 (rdEnv W (u.length + 1) vo 1) H := by
        rw [XL_eq]
        generalize XL T [0, 1, 5, 6, 7, 13] L11_1 = lp
        simp (disch := omega) [L11_1, hcell, n13]
      rw [st0]
      cases r1 with
      | nil =>
        have he : ((u.length : Int) + 1 == W.length) = true := by rw [beq_iff_eq]; simp at hwl; omega
        simp at he
        refine rdPost_of (H := H) (cells := [nls, .int .i64 0, .int .i64 0, .int .i64 0, .bool true]) ?_ h1 rfl ⟨_, rfl⟩
        rw [XL_eq]
        simp (disch := omega) [L11_1, hset_at h1, he]
      | cons e r2 =>
        have hne2 : ((u.length : Int) + 1 == W.length) = false := by rw [beq_eq_false_iff_ne]; simp at hwl; omega
        simp at hne2
        have hlt2 : u.length + 1 < W.length := by simp at hwl; omega
        have hcell2 := bc_at u [c] e r2
        have hW2 : u ++ [c] ++ e :: r2 = W := by rw [hW]; simp
        rw [hW2] at hcell2
        simp only [List.length_singleton] at hcell2
        have e10 := u8_eqlit e 10 10 rfl
        dsimp only
        by_cases he : e = 10
        · have n10 : ((e.toNat : Int) != 10) = false := by rw [bne, e10, he]; rfl
          rw [if_neg (by simpa using he)]
          have st1 : XL T [0, 1, 5, 6, 7, 13] L11_1 (rdEnv W (u.length + 1) vo 1) H = XL T [0, 1, 5, 6, 7, 13] L11_1 (rdEnv W (u.length + 2) vo 2) H := by
            rw [XL_eq]
            generalize XL T [0, 1, 5, 6, 7, 13] L11_1 = lp
            have e2 : (u.length : Int) + 1 + 1 = u.length + 2 := by omega
            simp (disch := omega) [L11_1, hcell2, n10, e2]
          rw [st1]
          show ∃ e', _
          rw [XL_eq]
          simp (disch := omega) [L11_1]
        · have n10 : ((e.toNat : Int) != 10) = true := by rw [bne, e10]; simpa using he
          rw [if_pos (by simpa using he)]
          refine rdPost_of (H := H) (cells := [nls, .int .i64 0, .int .i64 400, .int .i64 (u.length + 1 : Nat), .bool false]) ?_ h1 rfl ⟨_, rfl⟩
          rw [XL_eq]
          simp (disch := omega) [L11_1, hset_at h1, hcell2, n10]
    · have n13 : ((c.toNat : Int) != 13) = true := by rw [bne, e13]; simpa using hc
      rw [if_pos (by simpa using hc)]
      refine rdPost_of (H := H) (cells := [nls, .int .i64 0, .int .i64 400, .int .i64 (u.length : Nat), .bool false]) ?_ h1 rfl ⟨_, rfl⟩
      rw [XL_eq]
      simp (disch := omega) [L11_1, hset_at h1, hcell, n13]
end Go.Eng.S
