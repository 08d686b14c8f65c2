/- formatBase10: its loop of eight digits. formatBase10. No condition. -/
import Derived.Test.YtgjgcjhmaibblaaGreatDoorM1
namespace Go.Eng.S
open Go Go.Eng
set_option linter.unusedSectionVars false
variable [Sit]
set_option maxRecDepth 20000
theorem dgt_c {m n : Nat} (h : m % 10 = n % 10) : dgt m = dgt n := by unfold dgt; rw [h]
theorem sm_all : (List.range 100).all (fun v => smT[v * 2]? == some (dgt (v / 10)) && smT[v * 2 + 1]? == some (dgt v)) = true := by kernel_rfl
theorem sm_at (v : Nat) (h : v < 100) : smT[v * 2]? = some (dgt (v / 10)) ∧ smT[v * 2 + 1]? = some (dgt v) := by
  have := List.all_eq_true.1 sm_all v (List.mem_range.2 h)
  simpa only [Bool.and_eq_true, beq_iff_eq] using this
theorem smT_len : smT.length = 200 := by kernel_rfl
theorem st_at (A B : List UInt8) (k j : Nat) (d : UInt8) (hk : k = A.length + j) (hj : j < B.length) : hset [⟨bcells (A ++ B), 0, true, .no⟩] 0 k 0 [.int .u8 (d.toNat : Nat)] = some [⟨bcells (A ++ B.set j d), 0, true, .no⟩] := by
  rw [hset_b _ _ _ _ (by rw [List.length_append]; omega), hk, List.set_append_right _ _ (by omega), Nat.add_sub_cancel_left]
theorem dk_8 (m u : Nat) : dk (m + 8) u = dk m (u / 100000000) ++ [dgt (u / 10000000), dgt (u / 1000000), dgt (u / 100000), dgt (u / 10000), dgt (u / 1000), dgt (u / 100), dgt (u / 10), dgt u] := by
  simp only [dk, List.append_assoc, List.cons_append, List.nil_append, Nat.div_div_eq_div_mul]
theorem split_n {α : Type} : ∀ (k : Nat) (l : List α) (n : Nat), l.length = n + k → ∃ a t, l = a ++ t ∧ a.length = n ∧ t.length = k := fun k l n h => ⟨l.take n, l.drop n, (List.take_append_drop n l).symm, by simp; omega, by simp; omega⟩
theorem ex_c {α : Type} {l : List α} {n : Nat} (h : l.length = n + 1) : ∃ a t, l = a :: t ∧ t.length = n := by
  cases l with
  | nil => cases h
  | cons a t => exact ⟨a, t, rfl, by simpa using h⟩
theorem ex_0 {α : Type} {l : List α} (h : l.length = 0) : l = [] := List.length_eq_zero_iff.1 h
theorem ex_8 {α : Type} {l : List α} (h : l.length = 8) : ∃ a b c d e f g i, l = [a, b, c, d, e, f, g, i] := by
  obtain ⟨a, t0, rfl, h0⟩ := ex_c h
  obtain ⟨b, t1, rfl, h1⟩ := ex_c h0
  obtain ⟨c, t2, rfl, h2⟩ := ex_c h1
  obtain ⟨d, t3, rfl, h3⟩ := ex_c h2
  obtain ⟨e, t4, rfl, h4⟩ := ex_c h3
  obtain ⟨f, t5, rfl, h5⟩ := ex_c h4
  obtain ⟨g, t6, rfl, h6⟩ := ex_c h5
  obtain ⟨i, t7, rfl, h7⟩ := ex_c h6
  obtain rfl := ex_0 h7
  exact ⟨a, b, c, d, e, f, g, i, rfl⟩
/-- After the loop: fewer than eight digits are left. -/
def fbP (n : Nat) (A S : List UInt8) (i u : Nat) (r : XR) : Prop := ∃ e' A' W D j v, r = some (.exit 0, e', [⟨bcells (A' ++ (D ++ S)), 0, true, .no⟩]) ∧ e'.get 0 = .ms 0 1 n 1 0 ∧ e'.get 1 = .int .u64 (v : Nat) ∧ e'.get 4 = .int .i64 (j : Nat) ∧ j < 8 ∧ v < 10 ^ j ∧ A'.length = j + 1 ∧ A = A' ++ W ∧ dk i u = dk j v ++ D ∧ D.length + j = i
set_option maxHeartbeats 4000000 in
theorem fb_loop (n : Nat) (hn : n ≤ 20) : ∀ (N i u : Nat) (A S : List UInt8), i ≤ N → A.length = i + 1 → u < 10 ^ i → i ≤ n →
    fbP n A S i u (XL T [0, 1, 4] L98_0 [(0, .ms 0 1 n 1 0), (1, .int .u64 u), (4, .int .i64 i)] [⟨bcells (A ++ S), 0, true, .no⟩]) := by
  intro N
  induction N with
  | zero =>
    intro i u A S hi hA hu hin
    obtain rfl : i = 0 := by omega
    have hx : ∃ e', XL T [0, 1, 4] L98_0 [(0, .ms 0 1 n 1 0), (1, .int .u64 u), (4, .int .i64 (0 : Nat))] [⟨bcells (A ++ S), 0, true, .no⟩] = some (.exit 0, e', [⟨bcells (A ++ S), 0, true, .no⟩]) ∧ e'.get 0 = .ms 0 1 n 1 0 ∧ e'.get 1 = .int .u64 (u : Nat) ∧ e'.get 4 = .int .i64 (0 : Nat) := by
      rw [eL98_0, XL_eq]
      simp (disch := omega) [L98_0x]
    obtain ⟨e', h1, h2, h3, h4⟩ := hx
    exact ⟨e', A, [], [], 0, u, h1, h2, h3, h4, by omega, hu, hA, by simp, by simp, rfl⟩
  | succ N IH =>
    intro i u A S hi hA hu hin
    by_cases h8 : i < 8
    · have hx : ∃ e', XL T [0, 1, 4] L98_0 [(0, .ms 0 1 n 1 0), (1, .int .u64 u), (4, .int .i64 i)] [⟨bcells (A ++ S), 0, true, .no⟩] = some (.exit 0, e', [⟨bcells (A ++ S), 0, true, .no⟩]) ∧ e'.get 0 = .ms 0 1 n 1 0 ∧ e'.get 1 = .int .u64 (u : Nat) ∧ e'.get 4 = .int .i64 i := by
        rw [eL98_0, XL_eq]
        simp (disch := omega) [L98_0x]
      obtain ⟨e', h1, h2, h3, h4⟩ := hx
      exact ⟨e', A, [], [], i, u, h1, h2, h3, h4, h8, hu, hA, by simp, by simp, by simp⟩
    · obtain ⟨m, rfl⟩ : ∃ m, i = m + 8 := ⟨i - 8, by omega⟩
      obtain ⟨B, X, rfl, hB, hX⟩ := split_n 8 A (m + 1) (by omega)
      obtain ⟨x0, x1, x2, x3, x4, x5, x6, x7, rfl⟩ := ex_8 hX
      have hp : (10 : Nat) ^ (m + 8) = 10 ^ m * 100000000 := by rw [Nat.pow_add]
      rw [hp] at hu
      obtain ⟨q, hq⟩ : ∃ q, u / 100000000 = q := ⟨_, rfl⟩
      obtain ⟨r, hr⟩ : ∃ r, u % 100000000 = r := ⟨_, rfl⟩
      obtain ⟨g, hg⟩ : ∃ g, r / 10000 = g := ⟨_, rfl⟩
      obtain ⟨l, hl⟩ : ∃ l, r % 10000 = l := ⟨_, rfl⟩
      obtain ⟨a, ha⟩ : ∃ a, l / 100 = a := ⟨_, rfl⟩
      obtain ⟨b, hb⟩ : ∃ b, l % 100 = b := ⟨_, rfl⟩
      obtain ⟨c, hc⟩ : ∃ c, g / 100 = c := ⟨_, rfl⟩
      obtain ⟨d, hd⟩ : ∃ d, g % 100 = d := ⟨_, rfl⟩
      have hu20 : m + 8 ≤ 20 := by omega
      have hu64 : u < 18446744073709551616 * 10 := by
        have : (10 : Nat) ^ m ≤ 10 ^ 12 := Nat.pow_le_pow_right (by decide) (by omega)
        omega
      have iq : (u : Int).tdiv 100000000 = (q : Int) := by rw [← hq]; rfl
      have ir : (u : Int).tmod 100000000 = (r : Int) := by rw [← hr]; rfl
      have ig : (r : Int).tdiv 10000 = (g : Int) := by rw [← hg]; rfl
      have il : (r : Int).tmod 10000 = (l : Int) := by rw [← hl]; rfl
      have ia : (l : Int).tdiv 100 = (a : Int) := by rw [← ha]; rfl
      have ib : (l : Int).tmod 100 = (b : Int) := by rw [← hb]; rfl
      have ic : (g : Int).tdiv 100 = (c : Int) := by rw [← hc]; rfl
      have id' : (g : Int).tmod 100 = (d : Int) := by rw [← hd]; rfl
      have la : a < 100 := by omega
      have lb : b < 100 := by omega
      have lc : c < 100 := by omega
      have ld : d < 100 := by omega
      have lr : r < 100000000 := by omega
      have lg : g < 10000 := by omega
      have ll : l < 10000 := by omega
      have sa := sm_at a la
      have sb := sm_at b lb
      have sc := sm_at c lc
      have sd := sm_at d ld
      have ta : ∀ v : Nat, ((v : Int) * 2).toNat = v * 2 := fun v => by omega
      have ta1 : ∀ v : Nat, ((v : Int) * 2 + 1).toNat = v * 2 + 1 := fun v => by omega
      have s7 := fun (y0 y1 y2 y3 y4 y5 y6 y7 z : UInt8) => st_at B (y0 :: y1 :: y2 :: y3 :: y4 :: y5 :: y6 :: y7 :: S) (1 + (m + 7)) 7 z (by omega) (by simp)
      have s6 := fun (y0 y1 y2 y3 y4 y5 y6 y7 z : UInt8) => st_at B (y0 :: y1 :: y2 :: y3 :: y4 :: y5 :: y6 :: y7 :: S) (1 + (m + 6)) 6 z (by omega) (by simp)
      have s5 := fun (y0 y1 y2 y3 y4 y5 y6 y7 z : UInt8) => st_at B (y0 :: y1 :: y2 :: y3 :: y4 :: y5 :: y6 :: y7 :: S) (1 + (m + 5)) 5 z (by omega) (by simp)
      have s4 := fun (y0 y1 y2 y3 y4 y5 y6 y7 z : UInt8) => st_at B (y0 :: y1 :: y2 :: y3 :: y4 :: y5 :: y6 :: y7 :: S) (1 + (m + 4)) 4 z (by omega) (by simp)
      have s3 := fun (y0 y1 y2 y3 y4 y5 y6 y7 z : UInt8) => st_at B (y0 :: y1 :: y2 :: y3 :: y4 :: y5 :: y6 :: y7 :: S) (1 + (m + 3)) 3 z (by omega) (by simp)
      have s2 := fun (y0 y1 y2 y3 y4 y5 y6 y7 z : UInt8) => st_at B (y0 :: y1 :: y2 :: y3 :: y4 :: y5 :: y6 :: y7 :: S) (1 + (m + 2)) 2 z (by omega) (by simp)
      have s1 := fun (y0 y1 y2 y3 y4 y5 y6 y7 z : UInt8) => st_at B (y0 :: y1 :: y2 :: y3 :: y4 :: y5 :: y6 :: y7 :: S) (1 + (m + 1)) 1 z (by omega) (by simp)
      have s0 := fun (y0 y1 y2 y3 y4 y5 y6 y7 z : UInt8) => st_at B (y0 :: y1 :: y2 :: y3 :: y4 :: y5 :: y6 :: y7 :: S) (1 + m) 0 z (by omega) (by simp)
      simp only [List.set_cons_succ, List.set_cons_zero] at s0 s1 s2 s3 s4 s5 s6 s7
      have e7 : (m : Int) + 8 - 1 = m + 7 := by omega
      have e6 : (m : Int) + 8 - 2 = m + 6 := by omega
      have e5 : (m : Int) + 8 - 3 = m + 5 := by omega
      have e4 : (m : Int) + 8 - 4 = m + 4 := by omega
      have e3 : (m : Int) + 8 - 5 = m + 3 := by omega
      have e2 : (m : Int) + 8 - 6 = m + 2 := by omega
      have e1 : (m : Int) + 8 - 7 = m + 1 := by omega
      have e0 : (m : Int) + 8 - 8 = m := by omega
      have t7 : ((m : Int) + 7).toNat = m + 7 := by omega
      have t6 : ((m : Int) + 6).toNat = m + 6 := by omega
      have t5 : ((m : Int) + 5).toNat = m + 5 := by omega
      have t4 : ((m : Int) + 4).toNat = m + 4 := by omega
      have t3 : ((m : Int) + 3).toNat = m + 3 := by omega
      have ih := IH m q B (dgt (c / 10) :: dgt c :: dgt (d / 10) :: dgt d :: dgt (a / 10) :: dgt a :: dgt (b / 10) :: dgt b :: S) (by omega) hB (by omega) (by omega)
      have hfin : fbP n B (dgt (c / 10) :: dgt c :: dgt (d / 10) :: dgt d :: dgt (a / 10) :: dgt a :: dgt (b / 10) :: dgt b :: S) m q (XL T [0, 1, 4] L98_0 [(0, .ms 0 1 n 1 0), (1, .int .u64 u), (4, .int .i64 (m + 8 : Nat))] [⟨bcells (B ++ [x0, x1, x2, x3, x4, x5, x6, x7] ++ S), 0, true, .no⟩]) := by
        rw [eL98_0] at ih ⊢
        rw [XL_eq]
        generalize XL T [0, 1, 4] L98_0x = lp at *
        rw [show B ++ [x0, x1, x2, x3, x4, x5, x6, x7] ++ S = B ++ x0 :: x1 :: x2 :: x3 :: x4 :: x5 :: x6 :: x7 :: S by simp]
        simp (disch := omega) [L98_0x, iq, ir, ig, il, ia, ib, ic, id', wrU32, wrU64, sa, sb, sc, sd, ta, ta1, smT_len, e7, e6, e5, e4, e3, e2, e1, e0, t7, t6, t5, t4, t3, s7, s6, s5, s4, s3, s2, s1, s0]
        exact ih
      obtain ⟨e', A', W, D, j, v, g1, g2, g3, g4, g5, g6, g7, g8, g9, g10⟩ := hfin
      refine ⟨e', A', W ++ [x0, x1, x2, x3, x4, x5, x6, x7], D ++ [dgt (c / 10), dgt c, dgt (d / 10), dgt d, dgt (a / 10), dgt a, dgt (b / 10), dgt b], j, v, by simpa using g1, g2, g3, g4, g5, g6, g7, by rw [g8, List.append_assoc], ?_, by simp; omega⟩
      rw [dk_8, hq, g9, List.append_assoc]
      congr 2
      rw [dgt_c (m := u / 10000000) (n := c / 10) (by omega), dgt_c (m := u / 1000000) (n := c) (by omega), dgt_c (m := u / 100000) (n := d / 10) (by omega), dgt_c (m := u / 10000) (n := d) (by omega), dgt_c (m := u / 1000) (n := a / 10) (by omega), dgt_c (m := u / 100) (n := a) (by omega), dgt_c (m := u / 10) (n := b / 10) (by omega), dgt_c (m := u) (n := b) (by omega)]
end Go.Eng.S
namespace Go.Eng.S
open Go Go.Eng
set_option linter.unusedSectionVars false
variable [Sit]
set_option maxRecDepth 20000
theorem dgt_int (d : Nat) (h : d < 10) : ((dgt d).toNat : Int) = 48 + (d : Int) := by rw [dgt_nat]; omega

set_option maxHeartbeats 1000000 in
theorem fb_t0 (n : Nat) (z : UInt8) (X S : List UInt8) (_y0 : UInt8) (v : Nat) (D : List UInt8) (u : Nat) (hv : v < 10 ^ 0) (_hn : n ≤ 20) (_hjn : 0 ≤ n) (hdk : dk n u = dk 0 v ++ D) (e' : Env)
    (h1 : XL T [0, 1, 4] L98_0 [(0, .ms 0 1 n 1 0), (1, .int .u64 u), (4, .int .i64 n)] [⟨bcells (z :: (X ++ S)), 0, true, .no⟩] = some (.exit 0, e', [⟨bcells (z :: (D ++ S)), 0, true, .no⟩])) (h2 : e'.get 0 = .ms 0 1 n 1 0) (h3 : e'.get 1 = .int .u64 v) (h4 : e'.get 4 = .int .i64 (0 : Nat)) :
    C T 98 [.ms 0 1 n 1 0, .int .u64 u] [⟨bcells (z :: (X ++ S)), 0, true, .no⟩] = some (.tup [], [⟨bcells (z :: (dk n u ++ S)), 0, true, .no⟩]) := by
  rw [eL98_0] at h1
  simp at h4
  have hd : dk n u = [] ++ D := by
    rw [hdk]
    rfl
  rw [hd, q98, ed98]
  simp (disch := omega) [d98x, h1, h2, h3, h4, wrU32]
set_option maxHeartbeats 1000000 in
theorem fb_t1 (n : Nat) (z : UInt8) (X S : List UInt8) (y1 : UInt8) (v : Nat) (D : List UInt8) (u : Nat) (hv : v < 10 ^ 1) (hn : n ≤ 20) (hjn : 1 ≤ n) (hdk : dk n u = dk 1 v ++ D) (e' : Env)
    (h1 : XL T [0, 1, 4] L98_0 [(0, .ms 0 1 n 1 0), (1, .int .u64 u), (4, .int .i64 n)] [⟨bcells (z :: (X ++ S)), 0, true, .no⟩] = some (.exit 0, e', [⟨bcells (z :: y1 :: (D ++ S)), 0, true, .no⟩])) (h2 : e'.get 0 = .ms 0 1 n 1 0) (h3 : e'.get 1 = .int .u64 v) (h4 : e'.get 4 = .int .i64 (1 : Nat)) :
    C T 98 [.ms 0 1 n 1 0, .int .u64 u] [⟨bcells (z :: (X ++ S)), 0, true, .no⟩] = some (.tup [], [⟨bcells (z :: (dk n u ++ S)), 0, true, .no⟩]) := by
  rw [eL98_0] at h1
  simp at hv h4
  have s1 := fun (z0 z1 z : UInt8) => st_at [] (z0 :: z1 :: (D ++ S)) 1 1 z rfl (by simp)
  simp only [List.nil_append, List.set_cons_succ, List.set_cons_zero] at s1
  have s1b := fun (z0 z1 : UInt8) => s1 z0 z1 (dgt v)
  rw [dgt_int v (by omega)] at s1b
  have hd : dk n u = [dgt (v)] ++ D := by
    rw [hdk]
    simp only [dk, List.nil_append, List.cons_append]
  
  rw [hd, q98, ed98]
  simp (disch := omega) [d98x, h1, h2, h3, h4, wrU32, s1b]
set_option maxHeartbeats 1000000 in
theorem fb_t2 (n : Nat) (z : UInt8) (X S : List UInt8) (y1 y2 : UInt8) (v : Nat) (D : List UInt8) (u : Nat) (hv : v < 10 ^ 2) (hn : n ≤ 20) (hjn : 2 ≤ n) (hdk : dk n u = dk 2 v ++ D) (e' : Env)
    (h1 : XL T [0, 1, 4] L98_0 [(0, .ms 0 1 n 1 0), (1, .int .u64 u), (4, .int .i64 n)] [⟨bcells (z :: (X ++ S)), 0, true, .no⟩] = some (.exit 0, e', [⟨bcells (z :: y1 :: y2 :: (D ++ S)), 0, true, .no⟩])) (h2 : e'.get 0 = .ms 0 1 n 1 0) (h3 : e'.get 1 = .int .u64 v) (h4 : e'.get 4 = .int .i64 (2 : Nat)) :
    C T 98 [.ms 0 1 n 1 0, .int .u64 u] [⟨bcells (z :: (X ++ S)), 0, true, .no⟩] = some (.tup [], [⟨bcells (z :: (dk n u ++ S)), 0, true, .no⟩]) := by
  rw [eL98_0] at h1
  simp at hv h4
  obtain ⟨c, hc⟩ : ∃ c, v % 100 = c := ⟨_, rfl⟩
  have i_c : (v : Int).tmod 100 = (c : Int) := by rw [← hc]; rfl
  obtain ⟨f, hf⟩ : ∃ f, v / 100 = f := ⟨_, rfl⟩
  have i_f : (v : Int).tdiv 100 = (f : Int) := by rw [← hf]; rfl
  have sc := sm_at c (by omega)
  have ta : ∀ v : Nat, ((v : Int) * 2).toNat = v * 2 := fun v => by omega
  have ta1 : ∀ v : Nat, ((v : Int) * 2 + 1).toNat = v * 2 + 1 := fun v => by omega
  have s1 := fun (z0 z1 z2 z : UInt8) => st_at [] (z0 :: z1 :: z2 :: (D ++ S)) 1 1 z rfl (by simp)
  have s2 := fun (z0 z1 z2 z : UInt8) => st_at [] (z0 :: z1 :: z2 :: (D ++ S)) 2 2 z rfl (by simp)
  simp only [List.nil_append, List.set_cons_succ, List.set_cons_zero] at s1 s2
  have hd : dk n u = [dgt (c / 10), dgt (c)] ++ D := by
    rw [hdk]
    simp only [dk, List.nil_append, List.cons_append]
    rw [dgt_c (m := v / 10) (n := c / 10) (by omega), dgt_c (m := v) (n := c) (by omega)]
  rw [hd, q98, ed98]
  simp (disch := omega) [d98x, h1, h2, h3, h4, wrU32, i_c, i_f, sc, ta, ta1, smT_len, s1, s2]
set_option maxHeartbeats 1000000 in
theorem fb_t3 (n : Nat) (z : UInt8) (X S : List UInt8) (y1 y2 y3 : UInt8) (v : Nat) (D : List UInt8) (u : Nat) (hv : v < 10 ^ 3) (hn : n ≤ 20) (hjn : 3 ≤ n) (hdk : dk n u = dk 3 v ++ D) (e' : Env)
    (h1 : XL T [0, 1, 4] L98_0 [(0, .ms 0 1 n 1 0), (1, .int .u64 u), (4, .int .i64 n)] [⟨bcells (z :: (X ++ S)), 0, true, .no⟩] = some (.exit 0, e', [⟨bcells (z :: y1 :: y2 :: y3 :: (D ++ S)), 0, true, .no⟩])) (h2 : e'.get 0 = .ms 0 1 n 1 0) (h3 : e'.get 1 = .int .u64 v) (h4 : e'.get 4 = .int .i64 (3 : Nat)) :
    C T 98 [.ms 0 1 n 1 0, .int .u64 u] [⟨bcells (z :: (X ++ S)), 0, true, .no⟩] = some (.tup [], [⟨bcells (z :: (dk n u ++ S)), 0, true, .no⟩]) := by
  rw [eL98_0] at h1
  simp at hv h4
  obtain ⟨c, hc⟩ : ∃ c, v % 100 = c := ⟨_, rfl⟩
  have i_c : (v : Int).tmod 100 = (c : Int) := by rw [← hc]; rfl
  obtain ⟨f, hf⟩ : ∃ f, v / 100 = f := ⟨_, rfl⟩
  have i_f : (v : Int).tdiv 100 = (f : Int) := by rw [← hf]; rfl
  have sc := sm_at c (by omega)
  have ta : ∀ v : Nat, ((v : Int) * 2).toNat = v * 2 := fun v => by omega
  have ta1 : ∀ v : Nat, ((v : Int) * 2 + 1).toNat = v * 2 + 1 := fun v => by omega
  have s1 := fun (z0 z1 z2 z3 z : UInt8) => st_at [] (z0 :: z1 :: z2 :: z3 :: (D ++ S)) 1 1 z rfl (by simp)
  have s2 := fun (z0 z1 z2 z3 z : UInt8) => st_at [] (z0 :: z1 :: z2 :: z3 :: (D ++ S)) 2 2 z rfl (by simp)
  have s3 := fun (z0 z1 z2 z3 z : UInt8) => st_at [] (z0 :: z1 :: z2 :: z3 :: (D ++ S)) 3 3 z rfl (by simp)
  simp only [List.nil_append, List.set_cons_succ, List.set_cons_zero] at s1 s2 s3
  have s1b := fun (z0 z1 z2 z3 : UInt8) => s1 z0 z1 z2 z3 (dgt f)
  rw [dgt_int f (by omega)] at s1b
  have hd : dk n u = [dgt (f), dgt (c / 10), dgt (c)] ++ D := by
    rw [hdk]
    simp only [dk, List.nil_append, List.cons_append]
    rw [dgt_c (m := v / 10 / 10) (n := f) (by omega), dgt_c (m := v / 10) (n := c / 10) (by omega), dgt_c (m := v) (n := c) (by omega)]
  rw [hd, q98, ed98]
  simp (disch := omega) [d98x, h1, h2, h3, h4, wrU32, i_c, i_f, sc, ta, ta1, smT_len, s2, s3, s1b]
set_option maxHeartbeats 1000000 in
theorem fb_t4 (n : Nat) (z : UInt8) (X S : List UInt8) (y1 y2 y3 y4 : UInt8) (v : Nat) (D : List UInt8) (u : Nat) (hv : v < 10 ^ 4) (hn : n ≤ 20) (hjn : 4 ≤ n) (hdk : dk n u = dk 4 v ++ D) (e' : Env)
    (h1 : XL T [0, 1, 4] L98_0 [(0, .ms 0 1 n 1 0), (1, .int .u64 u), (4, .int .i64 n)] [⟨bcells (z :: (X ++ S)), 0, true, .no⟩] = some (.exit 0, e', [⟨bcells (z :: y1 :: y2 :: y3 :: y4 :: (D ++ S)), 0, true, .no⟩])) (h2 : e'.get 0 = .ms 0 1 n 1 0) (h3 : e'.get 1 = .int .u64 v) (h4 : e'.get 4 = .int .i64 (4 : Nat)) :
    C T 98 [.ms 0 1 n 1 0, .int .u64 u] [⟨bcells (z :: (X ++ S)), 0, true, .no⟩] = some (.tup [], [⟨bcells (z :: (dk n u ++ S)), 0, true, .no⟩]) := by
  rw [eL98_0] at h1
  simp at hv h4
  obtain ⟨l, hl⟩ : ∃ l, v % 10000 = l := ⟨_, rfl⟩
  have i_l : (v : Int).tmod 10000 = (l : Int) := by rw [← hl]; rfl
  obtain ⟨g, hg⟩ : ∃ g, v / 10000 = g := ⟨_, rfl⟩
  have i_g : (v : Int).tdiv 10000 = (g : Int) := by rw [← hg]; rfl
  obtain ⟨a, ha⟩ : ∃ a, l / 100 = a := ⟨_, rfl⟩
  have i_a : (l : Int).tdiv 100 = (a : Int) := by rw [← ha]; rfl
  obtain ⟨b, hb⟩ : ∃ b, l % 100 = b := ⟨_, rfl⟩
  have i_b : (l : Int).tmod 100 = (b : Int) := by rw [← hb]; rfl
  have sa := sm_at a (by omega)
  have sb := sm_at b (by omega)
  have ta : ∀ v : Nat, ((v : Int) * 2).toNat = v * 2 := fun v => by omega
  have ta1 : ∀ v : Nat, ((v : Int) * 2 + 1).toNat = v * 2 + 1 := fun v => by omega
  have s1 := fun (z0 z1 z2 z3 z4 z : UInt8) => st_at [] (z0 :: z1 :: z2 :: z3 :: z4 :: (D ++ S)) 1 1 z rfl (by simp)
  have s2 := fun (z0 z1 z2 z3 z4 z : UInt8) => st_at [] (z0 :: z1 :: z2 :: z3 :: z4 :: (D ++ S)) 2 2 z rfl (by simp)
  have s3 := fun (z0 z1 z2 z3 z4 z : UInt8) => st_at [] (z0 :: z1 :: z2 :: z3 :: z4 :: (D ++ S)) 3 3 z rfl (by simp)
  have s4 := fun (z0 z1 z2 z3 z4 z : UInt8) => st_at [] (z0 :: z1 :: z2 :: z3 :: z4 :: (D ++ S)) 4 4 z rfl (by simp)
  simp only [List.nil_append, List.set_cons_succ, List.set_cons_zero] at s1 s2 s3 s4
  have hd : dk n u = [dgt (a / 10), dgt (a), dgt (b / 10), dgt (b)] ++ D := by
    rw [hdk]
    simp only [dk, List.nil_append, List.cons_append]
    rw [dgt_c (m := v / 10 / 10 / 10) (n := a / 10) (by omega), dgt_c (m := v / 10 / 10) (n := a) (by omega), dgt_c (m := v / 10) (n := b / 10) (by omega), dgt_c (m := v) (n := b) (by omega)]
  rw [hd, q98, ed98]
  simp (disch := omega) [d98x, h1, h2, h3, h4, wrU32, i_l, i_g, i_a, i_b, sa, sb, ta, ta1, smT_len, s1, s2, s3, s4]
set_option maxHeartbeats 1000000 in
theorem fb_t5 (n : Nat) (z : UInt8) (X S : List UInt8) (y1 y2 y3 y4 y5 : UInt8) (v : Nat) (D : List UInt8) (u : Nat) (hv : v < 10 ^ 5) (hn : n ≤ 20) (hjn : 5 ≤ n) (hdk : dk n u = dk 5 v ++ D) (e' : Env)
    (h1 : XL T [0, 1, 4] L98_0 [(0, .ms 0 1 n 1 0), (1, .int .u64 u), (4, .int .i64 n)] [⟨bcells (z :: (X ++ S)), 0, true, .no⟩] = some (.exit 0, e', [⟨bcells (z :: y1 :: y2 :: y3 :: y4 :: y5 :: (D ++ S)), 0, true, .no⟩])) (h2 : e'.get 0 = .ms 0 1 n 1 0) (h3 : e'.get 1 = .int .u64 v) (h4 : e'.get 4 = .int .i64 (5 : Nat)) :
    C T 98 [.ms 0 1 n 1 0, .int .u64 u] [⟨bcells (z :: (X ++ S)), 0, true, .no⟩] = some (.tup [], [⟨bcells (z :: (dk n u ++ S)), 0, true, .no⟩]) := by
  rw [eL98_0] at h1
  simp at hv h4
  obtain ⟨l, hl⟩ : ∃ l, v % 10000 = l := ⟨_, rfl⟩
  have i_l : (v : Int).tmod 10000 = (l : Int) := by rw [← hl]; rfl
  obtain ⟨g, hg⟩ : ∃ g, v / 10000 = g := ⟨_, rfl⟩
  have i_g : (v : Int).tdiv 10000 = (g : Int) := by rw [← hg]; rfl
  obtain ⟨a, ha⟩ : ∃ a, l / 100 = a := ⟨_, rfl⟩
  have i_a : (l : Int).tdiv 100 = (a : Int) := by rw [← ha]; rfl
  obtain ⟨b, hb⟩ : ∃ b, l % 100 = b := ⟨_, rfl⟩
  have i_b : (l : Int).tmod 100 = (b : Int) := by rw [← hb]; rfl
  have sa := sm_at a (by omega)
  have sb := sm_at b (by omega)
  have ta : ∀ v : Nat, ((v : Int) * 2).toNat = v * 2 := fun v => by omega
  have ta1 : ∀ v : Nat, ((v : Int) * 2 + 1).toNat = v * 2 + 1 := fun v => by omega
  have s1 := fun (z0 z1 z2 z3 z4 z5 z : UInt8) => st_at [] (z0 :: z1 :: z2 :: z3 :: z4 :: z5 :: (D ++ S)) 1 1 z rfl (by simp)
  have s2 := fun (z0 z1 z2 z3 z4 z5 z : UInt8) => st_at [] (z0 :: z1 :: z2 :: z3 :: z4 :: z5 :: (D ++ S)) 2 2 z rfl (by simp)
  have s3 := fun (z0 z1 z2 z3 z4 z5 z : UInt8) => st_at [] (z0 :: z1 :: z2 :: z3 :: z4 :: z5 :: (D ++ S)) 3 3 z rfl (by simp)
  have s4 := fun (z0 z1 z2 z3 z4 z5 z : UInt8) => st_at [] (z0 :: z1 :: z2 :: z3 :: z4 :: z5 :: (D ++ S)) 4 4 z rfl (by simp)
  have s5 := fun (z0 z1 z2 z3 z4 z5 z : UInt8) => st_at [] (z0 :: z1 :: z2 :: z3 :: z4 :: z5 :: (D ++ S)) 5 5 z rfl (by simp)
  simp only [List.nil_append, List.set_cons_succ, List.set_cons_zero] at s1 s2 s3 s4 s5
  have s1b := fun (z0 z1 z2 z3 z4 z5 : UInt8) => s1 z0 z1 z2 z3 z4 z5 (dgt g)
  rw [dgt_int g (by omega)] at s1b
  have hd : dk n u = [dgt (g), dgt (a / 10), dgt (a), dgt (b / 10), dgt (b)] ++ D := by
    rw [hdk]
    simp only [dk, List.nil_append, List.cons_append]
    rw [dgt_c (m := v / 10 / 10 / 10 / 10) (n := g) (by omega), dgt_c (m := v / 10 / 10 / 10) (n := a / 10) (by omega), dgt_c (m := v / 10 / 10) (n := a) (by omega), dgt_c (m := v / 10) (n := b / 10) (by omega), dgt_c (m := v) (n := b) (by omega)]
  rw [hd, q98, ed98]
  simp (disch := omega) [d98x, h1, h2, h3, h4, wrU32, i_l, i_g, i_a, i_b, sa, sb, ta, ta1, smT_len, s2, s3, s4, s5, s1b]
set_option maxHeartbeats 1000000 in
theorem fb_t6 (n : Nat) (z : UInt8) (X S : List UInt8) (y1 y2 y3 y4 y5 y6 : UInt8) (v : Nat) (D : List UInt8) (u : Nat) (hv : v < 10 ^ 6) (hn : n ≤ 20) (hjn : 6 ≤ n) (hdk : dk n u = dk 6 v ++ D) (e' : Env)
    (h1 : XL T [0, 1, 4] L98_0 [(0, .ms 0 1 n 1 0), (1, .int .u64 u), (4, .int .i64 n)] [⟨bcells (z :: (X ++ S)), 0, true, .no⟩] = some (.exit 0, e', [⟨bcells (z :: y1 :: y2 :: y3 :: y4 :: y5 :: y6 :: (D ++ S)), 0, true, .no⟩])) (h2 : e'.get 0 = .ms 0 1 n 1 0) (h3 : e'.get 1 = .int .u64 v) (h4 : e'.get 4 = .int .i64 (6 : Nat)) :
    C T 98 [.ms 0 1 n 1 0, .int .u64 u] [⟨bcells (z :: (X ++ S)), 0, true, .no⟩] = some (.tup [], [⟨bcells (z :: (dk n u ++ S)), 0, true, .no⟩]) := by
  rw [eL98_0] at h1
  simp at hv h4
  obtain ⟨l, hl⟩ : ∃ l, v % 10000 = l := ⟨_, rfl⟩
  have i_l : (v : Int).tmod 10000 = (l : Int) := by rw [← hl]; rfl
  obtain ⟨g, hg⟩ : ∃ g, v / 10000 = g := ⟨_, rfl⟩
  have i_g : (v : Int).tdiv 10000 = (g : Int) := by rw [← hg]; rfl
  obtain ⟨a, ha⟩ : ∃ a, l / 100 = a := ⟨_, rfl⟩
  have i_a : (l : Int).tdiv 100 = (a : Int) := by rw [← ha]; rfl
  obtain ⟨b, hb⟩ : ∃ b, l % 100 = b := ⟨_, rfl⟩
  have i_b : (l : Int).tmod 100 = (b : Int) := by rw [← hb]; rfl
  obtain ⟨c, hc⟩ : ∃ c, g % 100 = c := ⟨_, rfl⟩
  have i_c : (g : Int).tmod 100 = (c : Int) := by rw [← hc]; rfl
  obtain ⟨f, hf⟩ : ∃ f, g / 100 = f := ⟨_, rfl⟩
  have i_f : (g : Int).tdiv 100 = (f : Int) := by rw [← hf]; rfl
  have sa := sm_at a (by omega)
  have sb := sm_at b (by omega)
  have sc := sm_at c (by omega)
  have ta : ∀ v : Nat, ((v : Int) * 2).toNat = v * 2 := fun v => by omega
  have ta1 : ∀ v : Nat, ((v : Int) * 2 + 1).toNat = v * 2 + 1 := fun v => by omega
  have s1 := fun (z0 z1 z2 z3 z4 z5 z6 z : UInt8) => st_at [] (z0 :: z1 :: z2 :: z3 :: z4 :: z5 :: z6 :: (D ++ S)) 1 1 z rfl (by simp)
  have s2 := fun (z0 z1 z2 z3 z4 z5 z6 z : UInt8) => st_at [] (z0 :: z1 :: z2 :: z3 :: z4 :: z5 :: z6 :: (D ++ S)) 2 2 z rfl (by simp)
  have s3 := fun (z0 z1 z2 z3 z4 z5 z6 z : UInt8) => st_at [] (z0 :: z1 :: z2 :: z3 :: z4 :: z5 :: z6 :: (D ++ S)) 3 3 z rfl (by simp)
  have s4 := fun (z0 z1 z2 z3 z4 z5 z6 z : UInt8) => st_at [] (z0 :: z1 :: z2 :: z3 :: z4 :: z5 :: z6 :: (D ++ S)) 4 4 z rfl (by simp)
  have s5 := fun (z0 z1 z2 z3 z4 z5 z6 z : UInt8) => st_at [] (z0 :: z1 :: z2 :: z3 :: z4 :: z5 :: z6 :: (D ++ S)) 5 5 z rfl (by simp)
  have s6 := fun (z0 z1 z2 z3 z4 z5 z6 z : UInt8) => st_at [] (z0 :: z1 :: z2 :: z3 :: z4 :: z5 :: z6 :: (D ++ S)) 6 6 z rfl (by simp)
  simp only [List.nil_append, List.set_cons_succ, List.set_cons_zero] at s1 s2 s3 s4 s5 s6
  have hd : dk n u = [dgt (c / 10), dgt (c), dgt (a / 10), dgt (a), dgt (b / 10), dgt (b)] ++ D := by
    rw [hdk]
    simp only [dk, List.nil_append, List.cons_append]
    rw [dgt_c (m := v / 10 / 10 / 10 / 10 / 10) (n := c / 10) (by omega), dgt_c (m := v / 10 / 10 / 10 / 10) (n := c) (by omega), dgt_c (m := v / 10 / 10 / 10) (n := a / 10) (by omega), dgt_c (m := v / 10 / 10) (n := a) (by omega), dgt_c (m := v / 10) (n := b / 10) (by omega), dgt_c (m := v) (n := b) (by omega)]
  rw [hd, q98, ed98]
  simp (disch := omega) [d98x, h1, h2, h3, h4, wrU32, i_l, i_g, i_a, i_b, i_c, i_f, sa, sb, sc, ta, ta1, smT_len, s1, s2, s3, s4, s5, s6]
set_option maxHeartbeats 1000000 in
theorem fb_t7 (n : Nat) (z : UInt8) (X S : List UInt8) (y1 y2 y3 y4 y5 y6 y7 : UInt8) (v : Nat) (D : List UInt8) (u : Nat) (hv : v < 10 ^ 7) (hn : n ≤ 20) (hjn : 7 ≤ n) (hdk : dk n u = dk 7 v ++ D) (e' : Env)
    (h1 : XL T [0, 1, 4] L98_0 [(0, .ms 0 1 n 1 0), (1, .int .u64 u), (4, .int .i64 n)] [⟨bcells (z :: (X ++ S)), 0, true, .no⟩] = some (.exit 0, e', [⟨bcells (z :: y1 :: y2 :: y3 :: y4 :: y5 :: y6 :: y7 :: (D ++ S)), 0, true, .no⟩])) (h2 : e'.get 0 = .ms 0 1 n 1 0) (h3 : e'.get 1 = .int .u64 v) (h4 : e'.get 4 = .int .i64 (7 : Nat)) :
    C T 98 [.ms 0 1 n 1 0, .int .u64 u] [⟨bcells (z :: (X ++ S)), 0, true, .no⟩] = some (.tup [], [⟨bcells (z :: (dk n u ++ S)), 0, true, .no⟩]) := by
  rw [eL98_0] at h1
  simp at hv h4
  obtain ⟨l, hl⟩ : ∃ l, v % 10000 = l := ⟨_, rfl⟩
  have i_l : (v : Int).tmod 10000 = (l : Int) := by rw [← hl]; rfl
  obtain ⟨g, hg⟩ : ∃ g, v / 10000 = g := ⟨_, rfl⟩
  have i_g : (v : Int).tdiv 10000 = (g : Int) := by rw [← hg]; rfl
  obtain ⟨a, ha⟩ : ∃ a, l / 100 = a := ⟨_, rfl⟩
  have i_a : (l : Int).tdiv 100 = (a : Int) := by rw [← ha]; rfl
  obtain ⟨b, hb⟩ : ∃ b, l % 100 = b := ⟨_, rfl⟩
  have i_b : (l : Int).tmod 100 = (b : Int) := by rw [← hb]; rfl
  obtain ⟨c, hc⟩ : ∃ c, g % 100 = c := ⟨_, rfl⟩
  have i_c : (g : Int).tmod 100 = (c : Int) := by rw [← hc]; rfl
  obtain ⟨f, hf⟩ : ∃ f, g / 100 = f := ⟨_, rfl⟩
  have i_f : (g : Int).tdiv 100 = (f : Int) := by rw [← hf]; rfl
  have sa := sm_at a (by omega)
  have sb := sm_at b (by omega)
  have sc := sm_at c (by omega)
  have ta : ∀ v : Nat, ((v : Int) * 2).toNat = v * 2 := fun v => by omega
  have ta1 : ∀ v : Nat, ((v : Int) * 2 + 1).toNat = v * 2 + 1 := fun v => by omega
  have s1 := fun (z0 z1 z2 z3 z4 z5 z6 z7 z : UInt8) => st_at [] (z0 :: z1 :: z2 :: z3 :: z4 :: z5 :: z6 :: z7 :: (D ++ S)) 1 1 z rfl (by simp)
  have s2 := fun (z0 z1 z2 z3 z4 z5 z6 z7 z : UInt8) => st_at [] (z0 :: z1 :: z2 :: z3 :: z4 :: z5 :: z6 :: z7 :: (D ++ S)) 2 2 z rfl (by simp)
  have s3 := fun (z0 z1 z2 z3 z4 z5 z6 z7 z : UInt8) => st_at [] (z0 :: z1 :: z2 :: z3 :: z4 :: z5 :: z6 :: z7 :: (D ++ S)) 3 3 z rfl (by simp)
  have s4 := fun (z0 z1 z2 z3 z4 z5 z6 z7 z : UInt8) => st_at [] (z0 :: z1 :: z2 :: z3 :: z4 :: z5 :: z6 :: z7 :: (D ++ S)) 4 4 z rfl (by simp)
  have s5 := fun (z0 z1 z2 z3 z4 z5 z6 z7 z : UInt8) => st_at [] (z0 :: z1 :: z2 :: z3 :: z4 :: z5 :: z6 :: z7 :: (D ++ S)) 5 5 z rfl (by simp)
  have s6 := fun (z0 z1 z2 z3 z4 z5 z6 z7 z : UInt8) => st_at [] (z0 :: z1 :: z2 :: z3 :: z4 :: z5 :: z6 :: z7 :: (D ++ S)) 6 6 z rfl (by simp)
  have s7 := fun (z0 z1 z2 z3 z4 z5 z6 z7 z : UInt8) => st_at [] (z0 :: z1 :: z2 :: z3 :: z4 :: z5 :: z6 :: z7 :: (D ++ S)) 7 7 z rfl (by simp)
  simp only [List.nil_append, List.set_cons_succ, List.set_cons_zero] at s1 s2 s3 s4 s5 s6 s7
  have s1b := fun (z0 z1 z2 z3 z4 z5 z6 z7 : UInt8) => s1 z0 z1 z2 z3 z4 z5 z6 z7 (dgt f)
  rw [dgt_int f (by omega)] at s1b
  have hd : dk n u = [dgt (f), dgt (c / 10), dgt (c), dgt (a / 10), dgt (a), dgt (b / 10), dgt (b)] ++ D := by
    rw [hdk]
    simp only [dk, List.nil_append, List.cons_append]
    rw [dgt_c (m := v / 10 / 10 / 10 / 10 / 10 / 10) (n := f) (by omega), dgt_c (m := v / 10 / 10 / 10 / 10 / 10) (n := c / 10) (by omega), dgt_c (m := v / 10 / 10 / 10 / 10) (n := c) (by omega), dgt_c (m := v / 10 / 10 / 10) (n := a / 10) (by omega), dgt_c (m := v / 10 / 10) (n := a) (by omega), dgt_c (m := v / 10) (n := b / 10) (by omega), dgt_c (m := v) (n := b) (by omega)]
  rw [hd, q98, ed98]
  simp (disch := omega) [d98x, h1, h2, h3, h4, wrU32, i_l, i_g, i_a, i_b, i_c, i_f, sa, sb, sc, ta, ta1, smT_len, s2, s3, s4, s5, s6, s7, s1b]
theorem fb10_ok (n : Nat) (hn : n ≤ 20) (z : UInt8) (X S : List UInt8) (hX : X.length = n) (u : Nat) (hu : u < 10 ^ n) :
    C T 98 [.ms 0 1 n 1 0, .int .u64 u] [⟨bcells (z :: (X ++ S)), 0, true, .no⟩] = some (.tup [], [⟨bcells (z :: (dk n u ++ S)), 0, true, .no⟩]) := by
  obtain ⟨e', A', W, D, j, v, g1, g2, g3, g4, g5, g6, g7, g8, g9, g10⟩ := fb_loop n hn n n u (z :: X) S (Nat.le_refl _) (by simp [hX]) hu (Nat.le_refl _)
  obtain ⟨z', Y, rfl, hY⟩ := ex_c g7
  obtain ⟨rfl, -⟩ : z' = z ∧ True := by simp at g8; exact ⟨g8.1.symm, trivial⟩
  have hj : j = 0 ∨ j = 1 ∨ j = 2 ∨ j = 3 ∨ j = 4 ∨ j = 5 ∨ j = 6 ∨ j = 7 := by omega
  rcases hj with rfl | rfl | rfl | rfl | rfl | rfl | rfl | rfl
  · obtain rfl := ex_0 hY
    exact fb_t0 n z' X S 0 v D u g6 hn (by omega) g9 e' (by simpa using g1) g2 g3 g4
  · obtain ⟨y1, Y1, rfl, k1⟩ := ex_c hY
    obtain rfl := ex_0 k1
    exact fb_t1 n z' X S y1 v D u g6 hn (by omega) g9 e' (by simpa using g1) g2 g3 g4
  · obtain ⟨y1, Y1, rfl, k1⟩ := ex_c hY
    obtain ⟨y2, Y2, rfl, k2⟩ := ex_c k1
    obtain rfl := ex_0 k2
    exact fb_t2 n z' X S y1 y2 v D u g6 hn (by omega) g9 e' (by simpa using g1) g2 g3 g4
  · obtain ⟨y1, Y1, rfl, k1⟩ := ex_c hY
    obtain ⟨y2, Y2, rfl, k2⟩ := ex_c k1
    obtain ⟨y3, Y3, rfl, k3⟩ := ex_c k2
    obtain rfl := ex_0 k3
    exact fb_t3 n z' X S y1 y2 y3 v D u g6 hn (by omega) g9 e' (by simpa using g1) g2 g3 g4
  · obtain ⟨y1, Y1, rfl, k1⟩ := ex_c hY
    obtain ⟨y2, Y2, rfl, k2⟩ := ex_c k1
    obtain ⟨y3, Y3, rfl, k3⟩ := ex_c k2
    obtain ⟨y4, Y4, rfl, k4⟩ := ex_c k3
    obtain rfl := ex_0 k4
    exact fb_t4 n z' X S y1 y2 y3 y4 v D u g6 hn (by omega) g9 e' (by simpa using g1) g2 g3 g4
  · obtain ⟨y1, Y1, rfl, k1⟩ := ex_c hY
    obtain ⟨y2, Y2, rfl, k2⟩ := ex_c k1
    obtain ⟨y3, Y3, rfl, k3⟩ := ex_c k2
    obtain ⟨y4, Y4, rfl, k4⟩ := ex_c k3
    obtain ⟨y5, Y5, rfl, k5⟩ := ex_c k4
    obtain rfl := ex_0 k5
    exact fb_t5 n z' X S y1 y2 y3 y4 y5 v D u g6 hn (by omega) g9 e' (by simpa using g1) g2 g3 g4
  · obtain ⟨y1, Y1, rfl, k1⟩ := ex_c hY
    obtain ⟨y2, Y2, rfl, k2⟩ := ex_c k1
    obtain ⟨y3, Y3, rfl, k3⟩ := ex_c k2
    obtain ⟨y4, Y4, rfl, k4⟩ := ex_c k3
    obtain ⟨y5, Y5, rfl, k5⟩ := ex_c k4
    obtain ⟨y6, Y6, rfl, k6⟩ := ex_c k5
    obtain rfl := ex_0 k6
    exact fb_t6 n z' X S y1 y2 y3 y4 y5 y6 v D u g6 hn (by omega) g9 e' (by simpa using g1) g2 g3 g4
  · obtain ⟨y1, Y1, rfl, k1⟩ := ex_c hY
    obtain ⟨y2, Y2, rfl, k2⟩ := ex_c k1
    obtain ⟨y3, Y3, rfl, k3⟩ := ex_c k2
    obtain ⟨y4, Y4, rfl, k4⟩ := ex_c k3
    obtain ⟨y5, Y5, rfl, k5⟩ := ex_c k4
    obtain ⟨y6, Y6, rfl, k6⟩ := ex_c k5
    obtain ⟨y7, Y7, rfl, k7⟩ := ex_c k6
    obtain rfl := ex_0 k7
    exact fb_t7 n z' X S y1 y2 y3 y4 y5 y6 y7 v D u g6 hn (by omega) g9 e' (by simpa using g1) g2 g3 g4
end Go.Eng.S
