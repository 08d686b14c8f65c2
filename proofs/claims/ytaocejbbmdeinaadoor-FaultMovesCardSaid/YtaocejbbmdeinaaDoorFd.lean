/- formatBase10. No condition. -/
import Derived.Test.YtaocejbbmdeinaaDoorFc
namespace Go.Eng.S
open Go Go.Eng
set_option maxRecDepth 20000
theorem dgt_int (d : Nat) (h : d < 10) : ((dgt d).toNat : Int) = 48 + (d : Int) := by rw [dgt_nat]; omega

set_option maxHeartbeats 1000000 in
theorem fb_t0 (n : Nat) (z : UInt8) (X S : List UInt8) (y0 : UInt8) (v : Nat) (D : List UInt8) (u : Nat) (hv : v < 10 ^ 0) (hn : n ≤ 20) (hjn : 0 ≤ n) (hdk : dk n u = dk 0 v ++ D) (e' : Env)
    (h1 : XL T [0, 1, 4] L42_0 [(0, .ms 0 1 n 1 0), (1, .int .u64 u), (4, .int .i64 n)] [⟨bcells (z :: (X ++ S)), 0, true⟩] = some (.exit 0, e', [⟨bcells (z :: (D ++ S)), 0, true⟩])) (h2 : e'.get 0 = .ms 0 1 n 1 0) (h3 : e'.get 1 = .int .u64 v) (h4 : e'.get 4 = .int .i64 (0 : Nat)) :
    C T 42 [.ms 0 1 n 1 0, .int .u64 u] [⟨bcells (z :: (X ++ S)), 0, true⟩] = some (.tup [], [⟨bcells (z :: (dk n u ++ S)), 0, true⟩]) := by
  rw [eL42_0] at h1
  simp at h4
  have hd : dk n u = [] ++ D := by
    rw [hdk]
    rfl
  rw [hd, q42, ed42]
  simp (disch := omega) [d42x, h1, h2, h3, h4, wrU32, wrU64, wrU8]
set_option maxHeartbeats 1000000 in
theorem fb_t1 (n : Nat) (z : UInt8) (X S : List UInt8) (y1 : UInt8) (v : Nat) (D : List UInt8) (u : Nat) (hv : v < 10 ^ 1) (hn : n ≤ 20) (hjn : 1 ≤ n) (hdk : dk n u = dk 1 v ++ D) (e' : Env)
    (h1 : XL T [0, 1, 4] L42_0 [(0, .ms 0 1 n 1 0), (1, .int .u64 u), (4, .int .i64 n)] [⟨bcells (z :: (X ++ S)), 0, true⟩] = some (.exit 0, e', [⟨bcells (z :: y1 :: (D ++ S)), 0, true⟩])) (h2 : e'.get 0 = .ms 0 1 n 1 0) (h3 : e'.get 1 = .int .u64 v) (h4 : e'.get 4 = .int .i64 (1 : Nat)) :
    C T 42 [.ms 0 1 n 1 0, .int .u64 u] [⟨bcells (z :: (X ++ S)), 0, true⟩] = some (.tup [], [⟨bcells (z :: (dk n u ++ S)), 0, true⟩]) := by
  rw [eL42_0] at h1
  simp at hv h4
  have s1 := fun (z0 z1 z : UInt8) => st_at [] (z0 :: z1 :: (D ++ S)) 1 1 z rfl (by simp)
  simp only [List.nil_append, List.set_cons_succ, List.set_cons_zero] at s1
  have s1b := fun (z0 z1 : UInt8) => s1 z0 z1 (dgt v)
  rw [dgt_int v (by omega)] at s1b
  have hd : dk n u = [dgt (v)] ++ D := by
    rw [hdk]
    simp only [dk, List.nil_append, List.cons_append]
  
  rw [hd, q42, ed42]
  simp (disch := omega) [d42x, h1, h2, h3, h4, wrU32, wrU64, wrU8, s1, s1b]
set_option maxHeartbeats 1000000 in
theorem fb_t2 (n : Nat) (z : UInt8) (X S : List UInt8) (y1 y2 : UInt8) (v : Nat) (D : List UInt8) (u : Nat) (hv : v < 10 ^ 2) (hn : n ≤ 20) (hjn : 2 ≤ n) (hdk : dk n u = dk 2 v ++ D) (e' : Env)
    (h1 : XL T [0, 1, 4] L42_0 [(0, .ms 0 1 n 1 0), (1, .int .u64 u), (4, .int .i64 n)] [⟨bcells (z :: (X ++ S)), 0, true⟩] = some (.exit 0, e', [⟨bcells (z :: y1 :: y2 :: (D ++ S)), 0, true⟩])) (h2 : e'.get 0 = .ms 0 1 n 1 0) (h3 : e'.get 1 = .int .u64 v) (h4 : e'.get 4 = .int .i64 (2 : Nat)) :
    C T 42 [.ms 0 1 n 1 0, .int .u64 u] [⟨bcells (z :: (X ++ S)), 0, true⟩] = some (.tup [], [⟨bcells (z :: (dk n u ++ S)), 0, true⟩]) := by
  rw [eL42_0] at h1
  simp at hv h4
  obtain ⟨c, hc⟩ : ∃ c, v % 100 = c := ⟨_, rfl⟩
  have i_c : (v : Int).tmod 100 = (c : Int) := by rw [← hc]; rfl
  obtain ⟨f, hf⟩ : ∃ f, v / 100 = f := ⟨_, rfl⟩
  have i_f : (v : Int).tdiv 100 = (f : Int) := by rw [← hf]; rfl
  have sc := sm_at c (by omega)
  have ta : ∀ v : Nat, ((v : Int) * 2).toNat = v * 2 := fun v => by omega
  have ta1 : ∀ v : Nat, ((v : Int) * 2 + 1).toNat = v * 2 + 1 := fun v => by omega
  have s1 := fun (z0 z1 z2 z : UInt8) => st_at [] (z0 :: z1 :: z2 :: (D ++ S)) 1 1 z rfl (by simp)
  have s2 := fun (z0 z1 z2 z : UInt8) => st_at [] (z0 :: z1 :: z2 :: (D ++ S)) 2 2 z rfl (by simp)
  simp only [List.nil_append, List.set_cons_succ, List.set_cons_zero] at s1 s2
  have hd : dk n u = [dgt (c / 10), dgt (c)] ++ D := by
    rw [hdk]
    simp only [dk, List.nil_append, List.cons_append]
    rw [dgt_c (m := v / 10) (n := c / 10) (by omega), dgt_c (m := v) (n := c) (by omega)]
  rw [hd, q42, ed42]
  simp (disch := omega) [d42x, h1, h2, h3, h4, wrU32, wrU64, wrU8, i_c, i_f, sc, ta, ta1, smT_len, s1, s2]
set_option maxHeartbeats 1000000 in
theorem fb_t3 (n : Nat) (z : UInt8) (X S : List UInt8) (y1 y2 y3 : UInt8) (v : Nat) (D : List UInt8) (u : Nat) (hv : v < 10 ^ 3) (hn : n ≤ 20) (hjn : 3 ≤ n) (hdk : dk n u = dk 3 v ++ D) (e' : Env)
    (h1 : XL T [0, 1, 4] L42_0 [(0, .ms 0 1 n 1 0), (1, .int .u64 u), (4, .int .i64 n)] [⟨bcells (z :: (X ++ S)), 0, true⟩] = some (.exit 0, e', [⟨bcells (z :: y1 :: y2 :: y3 :: (D ++ S)), 0, true⟩])) (h2 : e'.get 0 = .ms 0 1 n 1 0) (h3 : e'.get 1 = .int .u64 v) (h4 : e'.get 4 = .int .i64 (3 : Nat)) :
    C T 42 [.ms 0 1 n 1 0, .int .u64 u] [⟨bcells (z :: (X ++ S)), 0, true⟩] = some (.tup [], [⟨bcells (z :: (dk n u ++ S)), 0, true⟩]) := by
  rw [eL42_0] at h1
  simp at hv h4
  obtain ⟨c, hc⟩ : ∃ c, v % 100 = c := ⟨_, rfl⟩
  have i_c : (v : Int).tmod 100 = (c : Int) := by rw [← hc]; rfl
  obtain ⟨f, hf⟩ : ∃ f, v / 100 = f := ⟨_, rfl⟩
  have i_f : (v : Int).tdiv 100 = (f : Int) := by rw [← hf]; rfl
  have sc := sm_at c (by omega)
  have ta : ∀ v : Nat, ((v : Int) * 2).toNat = v * 2 := fun v => by omega
  have ta1 : ∀ v : Nat, ((v : Int) * 2 + 1).toNat = v * 2 + 1 := fun v => by omega
  have s1 := fun (z0 z1 z2 z3 z : UInt8) => st_at [] (z0 :: z1 :: z2 :: z3 :: (D ++ S)) 1 1 z rfl (by simp)
  have s2 := fun (z0 z1 z2 z3 z : UInt8) => st_at [] (z0 :: z1 :: z2 :: z3 :: (D ++ S)) 2 2 z rfl (by simp)
  have s3 := fun (z0 z1 z2 z3 z : UInt8) => st_at [] (z0 :: z1 :: z2 :: z3 :: (D ++ S)) 3 3 z rfl (by simp)
  simp only [List.nil_append, List.set_cons_succ, List.set_cons_zero] at s1 s2 s3
  have s1b := fun (z0 z1 z2 z3 : UInt8) => s1 z0 z1 z2 z3 (dgt f)
  rw [dgt_int f (by omega)] at s1b
  have hd : dk n u = [dgt (f), dgt (c / 10), dgt (c)] ++ D := by
    rw [hdk]
    simp only [dk, List.nil_append, List.cons_append]
    rw [dgt_c (m := v / 10 / 10) (n := f) (by omega), dgt_c (m := v / 10) (n := c / 10) (by omega), dgt_c (m := v) (n := c) (by omega)]
  rw [hd, q42, ed42]
  simp (disch := omega) [d42x, h1, h2, h3, h4, wrU32, wrU64, wrU8, i_c, i_f, sc, ta, ta1, smT_len, s1, s2, s3, s1b]
set_option maxHeartbeats 1000000 in
theorem fb_t4 (n : Nat) (z : UInt8) (X S : List UInt8) (y1 y2 y3 y4 : UInt8) (v : Nat) (D : List UInt8) (u : Nat) (hv : v < 10 ^ 4) (hn : n ≤ 20) (hjn : 4 ≤ n) (hdk : dk n u = dk 4 v ++ D) (e' : Env)
    (h1 : XL T [0, 1, 4] L42_0 [(0, .ms 0 1 n 1 0), (1, .int .u64 u), (4, .int .i64 n)] [⟨bcells (z :: (X ++ S)), 0, true⟩] = some (.exit 0, e', [⟨bcells (z :: y1 :: y2 :: y3 :: y4 :: (D ++ S)), 0, true⟩])) (h2 : e'.get 0 = .ms 0 1 n 1 0) (h3 : e'.get 1 = .int .u64 v) (h4 : e'.get 4 = .int .i64 (4 : Nat)) :
    C T 42 [.ms 0 1 n 1 0, .int .u64 u] [⟨bcells (z :: (X ++ S)), 0, true⟩] = some (.tup [], [⟨bcells (z :: (dk n u ++ S)), 0, true⟩]) := by
  rw [eL42_0] at h1
  simp at hv h4
  obtain ⟨l, hl⟩ : ∃ l, v % 10000 = l := ⟨_, rfl⟩
  have i_l : (v : Int).tmod 10000 = (l : Int) := by rw [← hl]; rfl
  obtain ⟨g, hg⟩ : ∃ g, v / 10000 = g := ⟨_, rfl⟩
  have i_g : (v : Int).tdiv 10000 = (g : Int) := by rw [← hg]; rfl
  obtain ⟨a, ha⟩ : ∃ a, l / 100 = a := ⟨_, rfl⟩
  have i_a : (l : Int).tdiv 100 = (a : Int) := by rw [← ha]; rfl
  obtain ⟨b, hb⟩ : ∃ b, l % 100 = b := ⟨_, rfl⟩
  have i_b : (l : Int).tmod 100 = (b : Int) := by rw [← hb]; rfl
  have sa := sm_at a (by omega)
  have sb := sm_at b (by omega)
  have ta : ∀ v : Nat, ((v : Int) * 2).toNat = v * 2 := fun v => by omega
  have ta1 : ∀ v : Nat, ((v : Int) * 2 + 1).toNat = v * 2 + 1 := fun v => by omega
  have s1 := fun (z0 z1 z2 z3 z4 z : UInt8) => st_at [] (z0 :: z1 :: z2 :: z3 :: z4 :: (D ++ S)) 1 1 z rfl (by simp)
  have s2 := fun (z0 z1 z2 z3 z4 z : UInt8) => st_at [] (z0 :: z1 :: z2 :: z3 :: z4 :: (D ++ S)) 2 2 z rfl (by simp)
  have s3 := fun (z0 z1 z2 z3 z4 z : UInt8) => st_at [] (z0 :: z1 :: z2 :: z3 :: z4 :: (D ++ S)) 3 3 z rfl (by simp)
  have s4 := fun (z0 z1 z2 z3 z4 z : UInt8) => st_at [] (z0 :: z1 :: z2 :: z3 :: z4 :: (D ++ S)) 4 4 z rfl (by simp)
  simp only [List.nil_append, List.set_cons_succ, List.set_cons_zero] at s1 s2 s3 s4
  have hd : dk n u = [dgt (a / 10), dgt (a), dgt (b / 10), dgt (b)] ++ D := by
    rw [hdk]
    simp only [dk, List.nil_append, List.cons_append]
    rw [dgt_c (m := v / 10 / 10 / 10) (n := a / 10) (by omega), dgt_c (m := v / 10 / 10) (n := a) (by omega), dgt_c (m := v / 10) (n := b / 10) (by omega), dgt_c (m := v) (n := b) (by omega)]
  rw [hd, q42, ed42]
  simp (disch := omega) [d42x, h1, h2, h3, h4, wrU32, wrU64, wrU8, i_l, i_g, i_a, i_b, sa, sb, ta, ta1, smT_len, s1, s2, s3, s4]
set_option maxHeartbeats 1000000 in
theorem fb_t5 (n : Nat) (z : UInt8) (X S : List UInt8) (y1 y2 y3 y4 y5 : UInt8) (v : Nat) (D : List UInt8) (u : Nat) (hv : v < 10 ^ 5) (hn : n ≤ 20) (hjn : 5 ≤ n) (hdk : dk n u = dk 5 v ++ D) (e' : Env)
    (h1 : XL T [0, 1, 4] L42_0 [(0, .ms 0 1 n 1 0), (1, .int .u64 u), (4, .int .i64 n)] [⟨bcells (z :: (X ++ S)), 0, true⟩] = some (.exit 0, e', [⟨bcells (z :: y1 :: y2 :: y3 :: y4 :: y5 :: (D ++ S)), 0, true⟩])) (h2 : e'.get 0 = .ms 0 1 n 1 0) (h3 : e'.get 1 = .int .u64 v) (h4 : e'.get 4 = .int .i64 (5 : Nat)) :
    C T 42 [.ms 0 1 n 1 0, .int .u64 u] [⟨bcells (z :: (X ++ S)), 0, true⟩] = some (.tup [], [⟨bcells (z :: (dk n u ++ S)), 0, true⟩]) := by
  rw [eL42_0] at h1
  simp at hv h4
  obtain ⟨l, hl⟩ : ∃ l, v % 10000 = l := ⟨_, rfl⟩
  have i_l : (v : Int).tmod 10000 = (l : Int) := by rw [← hl]; rfl
  obtain ⟨g, hg⟩ : ∃ g, v / 10000 = g := ⟨_, rfl⟩
  have i_g : (v : Int).tdiv 10000 = (g : Int) := by rw [← hg]; rfl
  obtain ⟨a, ha⟩ : ∃ a, l / 100 = a := ⟨_, rfl⟩
  have i_a : (l : Int).tdiv 100 = (a : Int) := by rw [← ha]; rfl
  obtain ⟨b, hb⟩ : ∃ b, l % 100 = b := ⟨_, rfl⟩
  have i_b : (l : Int).tmod 100 = (b : Int) := by rw [← hb]; rfl
  have sa := sm_at a (by omega)
  have sb := sm_at b (by omega)
  have ta : ∀ v : Nat, ((v : Int) * 2).toNat = v * 2 := fun v => by omega
  have ta1 : ∀ v : Nat, ((v : Int) * 2 + 1).toNat = v * 2 + 1 := fun v => by omega
  have s1 := fun (z0 z1 z2 z3 z4 z5 z : UInt8) => st_at [] (z0 :: z1 :: z2 :: z3 :: z4 :: z5 :: (D ++ S)) 1 1 z rfl (by simp)
  have s2 := fun (z0 z1 z2 z3 z4 z5 z : UInt8) => st_at [] (z0 :: z1 :: z2 :: z3 :: z4 :: z5 :: (D ++ S)) 2 2 z rfl (by simp)
  have s3 := fun (z0 z1 z2 z3 z4 z5 z : UInt8) => st_at [] (z0 :: z1 :: z2 :: z3 :: z4 :: z5 :: (D ++ S)) 3 3 z rfl (by simp)
  have s4 := fun (z0 z1 z2 z3 z4 z5 z : UInt8) => st_at [] (z0 :: z1 :: z2 :: z3 :: z4 :: z5 :: (D ++ S)) 4 4 z rfl (by simp)
  have s5 := fun (z0 z1 z2 z3 z4 z5 z : UInt8) => st_at [] (z0 :: z1 :: z2 :: z3 :: z4 :: z5 :: (D ++ S)) 5 5 z rfl (by simp)
  simp only [List.nil_append, List.set_cons_succ, List.set_cons_zero] at s1 s2 s3 s4 s5
  have s1b := fun (z0 z1 z2 z3 z4 z5 : UInt8) => s1 z0 z1 z2 z3 z4 z5 (dgt g)
  rw [dgt_int g (by omega)] at s1b
  have hd : dk n u = [dgt (g), dgt (a / 10), dgt (a), dgt (b / 10), dgt (b)] ++ D := by
    rw [hdk]
    simp only [dk, List.nil_append, List.cons_append]
    rw [dgt_c (m := v / 10 / 10 / 10 / 10) (n := g) (by omega), dgt_c (m := v / 10 / 10 / 10) (n := a / 10) (by omega), dgt_c (m := v / 10 / 10) (n := a) (by omega), dgt_c (m := v / 10) (n := b / 10) (by omega), dgt_c (m := v) (n := b) (by omega)]
  rw [hd, q42, ed42]
  simp (disch := omega) [d42x, h1, h2, h3, h4, wrU32, wrU64, wrU8, i_l, i_g, i_a, i_b, sa, sb, ta, ta1, smT_len, s1, s2, s3, s4, s5, s1b]
set_option maxHeartbeats 1000000 in
theorem fb_t6 (n : Nat) (z : UInt8) (X S : List UInt8) (y1 y2 y3 y4 y5 y6 : UInt8) (v : Nat) (D : List UInt8) (u : Nat) (hv : v < 10 ^ 6) (hn : n ≤ 20) (hjn : 6 ≤ n) (hdk : dk n u = dk 6 v ++ D) (e' : Env)
    (h1 : XL T [0, 1, 4] L42_0 [(0, .ms 0 1 n 1 0), (1, .int .u64 u), (4, .int .i64 n)] [⟨bcells (z :: (X ++ S)), 0, true⟩] = some (.exit 0, e', [⟨bcells (z :: y1 :: y2 :: y3 :: y4 :: y5 :: y6 :: (D ++ S)), 0, true⟩])) (h2 : e'.get 0 = .ms 0 1 n 1 0) (h3 : e'.get 1 = .int .u64 v) (h4 : e'.get 4 = .int .i64 (6 : Nat)) :
    C T 42 [.ms 0 1 n 1 0, .int .u64 u] [⟨bcells (z :: (X ++ S)), 0, true⟩] = some (.tup [], [⟨bcells (z :: (dk n u ++ S)), 0, true⟩]) := by
  rw [eL42_0] at h1
  simp at hv h4
  obtain ⟨l, hl⟩ : ∃ l, v % 10000 = l := ⟨_, rfl⟩
  have i_l : (v : Int).tmod 10000 = (l : Int) := by rw [← hl]; rfl
  obtain ⟨g, hg⟩ : ∃ g, v / 10000 = g := ⟨_, rfl⟩
  have i_g : (v : Int).tdiv 10000 = (g : Int) := by rw [← hg]; rfl
  obtain ⟨a, ha⟩ : ∃ a, l / 100 = a := ⟨_, rfl⟩
  have i_a : (l : Int).tdiv 100 = (a : Int) := by rw [← ha]; rfl
  obtain ⟨b, hb⟩ : ∃ b, l % 100 = b := ⟨_, rfl⟩
  have i_b : (l : Int).tmod 100 = (b : Int) := by rw [← hb]; rfl
  obtain ⟨c, hc⟩ : ∃ c, g % 100 = c := ⟨_, rfl⟩
  have i_c : (g : Int).tmod 100 = (c : Int) := by rw [← hc]; rfl
  obtain ⟨f, hf⟩ : ∃ f, g / 100 = f := ⟨_, rfl⟩
  have i_f : (g : Int).tdiv 100 = (f : Int) := by rw [← hf]; rfl
  have sa := sm_at a (by omega)
  have sb := sm_at b (by omega)
  have sc := sm_at c (by omega)
  have ta : ∀ v : Nat, ((v : Int) * 2).toNat = v * 2 := fun v => by omega
  have ta1 : ∀ v : Nat, ((v : Int) * 2 + 1).toNat = v * 2 + 1 := fun v => by omega
  have s1 := fun (z0 z1 z2 z3 z4 z5 z6 z : UInt8) => st_at [] (z0 :: z1 :: z2 :: z3 :: z4 :: z5 :: z6 :: (D ++ S)) 1 1 z rfl (by simp)
  have s2 := fun (z0 z1 z2 z3 z4 z5 z6 z : UInt8) => st_at [] (z0 :: z1 :: z2 :: z3 :: z4 :: z5 :: z6 :: (D ++ S)) 2 2 z rfl (by simp)
  have s3 := fun (z0 z1 z2 z3 z4 z5 z6 z : UInt8) => st_at [] (z0 :: z1 :: z2 :: z3 :: z4 :: z5 :: z6 :: (D ++ S)) 3 3 z rfl (by simp)
  have s4 := fun (z0 z1 z2 z3 z4 z5 z6 z : UInt8) => st_at [] (z0 :: z1 :: z2 :: z3 :: z4 :: z5 :: z6 :: (D ++ S)) 4 4 z rfl (by simp)
  have s5 := fun (z0 z1 z2 z3 z4 z5 z6 z : UInt8) => st_at [] (z0 :: z1 :: z2 :: z3 :: z4 :: z5 :: z6 :: (D ++ S)) 5 5 z rfl (by simp)
  have s6 := fun (z0 z1 z2 z3 z4 z5 z6 z : UInt8) => st_at [] (z0 :: z1 :: z2 :: z3 :: z4 :: z5 :: z6 :: (D ++ S)) 6 6 z rfl (by simp)
  simp only [List.nil_append, List.set_cons_succ, List.set_cons_zero] at s1 s2 s3 s4 s5 s6
  have hd : dk n u = [dgt (c / 10), dgt (c), dgt (a / 10), dgt (a), dgt (b / 10), dgt (b)] ++ D := by
    rw [hdk]
    simp only [dk, List.nil_append, List.cons_append]
    rw [dgt_c (m := v / 10 / 10 / 10 / 10 / 10) (n := c / 10) (by omega), dgt_c (m := v / 10 / 10 / 10 / 10) (n := c) (by omega), dgt_c (m := v / 10 / 10 / 10) (n := a / 10) (by omega), dgt_c (m := v / 10 / 10) (n := a) (by omega), dgt_c (m := v / 10) (n := b / 10) (by omega), dgt_c (m := v) (n := b) (by omega)]
  rw [hd, q42, ed42]
  simp (disch := omega) [d42x, h1, h2, h3, h4, wrU32, wrU64, wrU8, i_l, i_g, i_a, i_b, i_c, i_f, sa, sb, sc, ta, ta1, smT_len, s1, s2, s3, s4, s5, s6]
set_option maxHeartbeats 1000000 in
theorem fb_t7 (n : Nat) (z : UInt8) (X S : List UInt8) (y1 y2 y3 y4 y5 y6 y7 : UInt8) (v : Nat) (D : List UInt8) (u : Nat) (hv : v < 10 ^ 7) (hn : n ≤ 20) (hjn : 7 ≤ n) (hdk : dk n u = dk 7 v ++ D) (e' : Env)
    (h1 : XL T [0, 1, 4] L42_0 [(0, .ms 0 1 n 1 0), (1, .int .u64 u), (4, .int .i64 n)] [⟨bcells (z :: (X ++ S)), 0, true⟩] = some (.exit 0, e', [⟨bcells (z :: y1 :: y2 :: y3 :: y4 :: y5 :: y6 :: y7 :: (D ++ S)), 0, true⟩])) (h2 : e'.get 0 = .ms 0 1 n 1 0) (h3 : e'.get 1 = .int .u64 v) (h4 : e'.get 4 = .int .i64 (7 : Nat)) :
    C T 42 [.ms 0 1 n 1 0, .int .u64 u] [⟨bcells (z :: (X ++ S)), 0, true⟩] = some (.tup [], [⟨bcells (z :: (dk n u ++ S)), 0, true⟩]) := by
  rw [eL42_0] at h1
  simp at hv h4
  obtain ⟨l, hl⟩ : ∃ l, v % 10000 = l := ⟨_, rfl⟩
  have i_l : (v : Int).tmod 10000 = (l : Int) := by rw [← hl]; rfl
  obtain ⟨g, hg⟩ : ∃ g, v / 10000 = g := ⟨_, rfl⟩
  have i_g : (v : Int).tdiv 10000 = (g : Int) := by rw [← hg]; rfl
  obtain ⟨a, ha⟩ : ∃ a, l / 100 = a := ⟨_, rfl⟩
  have i_a : (l : Int).tdiv 100 = (a : Int) := by rw [← ha]; rfl
  obtain ⟨b, hb⟩ : ∃ b, l % 100 = b := ⟨_, rfl⟩
  have i_b : (l : Int).tmod 100 = (b : Int) := by rw [← hb]; rfl
  obtain ⟨c, hc⟩ : ∃ c, g % 100 = c := ⟨_, rfl⟩
  have i_c : (g : Int).tmod 100 = (c : Int) := by rw [← hc]; rfl
  obtain ⟨f, hf⟩ : ∃ f, g / 100 = f := ⟨_, rfl⟩
  have i_f : (g : Int).tdiv 100 = (f : Int) := by rw [← hf]; rfl
  have sa := sm_at a (by omega)
  have sb := sm_at b (by omega)
  have sc := sm_at c (by omega)
  have ta : ∀ v : Nat, ((v : Int) * 2).toNat = v * 2 := fun v => by omega
  have ta1 : ∀ v : Nat, ((v : Int) * 2 + 1).toNat = v * 2 + 1 := fun v => by omega
  have s1 := fun (z0 z1 z2 z3 z4 z5 z6 z7 z : UInt8) => st_at [] (z0 :: z1 :: z2 :: z3 :: z4 :: z5 :: z6 :: z7 :: (D ++ S)) 1 1 z rfl (by simp)
  have s2 := fun (z0 z1 z2 z3 z4 z5 z6 z7 z : UInt8) => st_at [] (z0 :: z1 :: z2 :: z3 :: z4 :: z5 :: z6 :: z7 :: (D ++ S)) 2 2 z rfl (by simp)
  have s3 := fun (z0 z1 z2 z3 z4 z5 z6 z7 z : UInt8) => st_at [] (z0 :: z1 :: z2 :: z3 :: z4 :: z5 :: z6 :: z7 :: (D ++ S)) 3 3 z rfl (by simp)
  have s4 := fun (z0 z1 z2 z3 z4 z5 z6 z7 z : UInt8) => st_at [] (z0 :: z1 :: z2 :: z3 :: z4 :: z5 :: z6 :: z7 :: (D ++ S)) 4 4 z rfl (by simp)
  have s5 := fun (z0 z1 z2 z3 z4 z5 z6 z7 z : UInt8) => st_at [] (z0 :: z1 :: z2 :: z3 :: z4 :: z5 :: z6 :: z7 :: (D ++ S)) 5 5 z rfl (by simp)
  have s6 := fun (z0 z1 z2 z3 z4 z5 z6 z7 z : UInt8) => st_at [] (z0 :: z1 :: z2 :: z3 :: z4 :: z5 :: z6 :: z7 :: (D ++ S)) 6 6 z rfl (by simp)
  have s7 := fun (z0 z1 z2 z3 z4 z5 z6 z7 z : UInt8) => st_at [] (z0 :: z1 :: z2 :: z3 :: z4 :: z5 :: z6 :: z7 :: (D ++ S)) 7 7 z rfl (by simp)
  simp only [List.nil_append, List.set_cons_succ, List.set_cons_zero] at s1 s2 s3 s4 s5 s6 s7
  have s1b := fun (z0 z1 z2 z3 z4 z5 z6 z7 : UInt8) => s1 z0 z1 z2 z3 z4 z5 z6 z7 (dgt f)
  rw [dgt_int f (by omega)] at s1b
  have hd : dk n u = [dgt (f), dgt (c / 10), dgt (c), dgt (a / 10), dgt (a), dgt (b / 10), dgt (b)] ++ D := by
    rw [hdk]
    simp only [dk, List.nil_append, List.cons_append]
    rw [dgt_c (m := v / 10 / 10 / 10 / 10 / 10 / 10) (n := f) (by omega), dgt_c (m := v / 10 / 10 / 10 / 10 / 10) (n := c / 10) (by omega), dgt_c (m := v / 10 / 10 / 10 / 10) (n := c) (by omega), dgt_c (m := v / 10 / 10 / 10) (n := a / 10) (by omega), dgt_c (m := v / 10 / 10) (n := a) (by omega), dgt_c (m := v / 10) (n := b / 10) (by omega), dgt_c (m := v) (n := b) (by omega)]
  rw [hd, q42, ed42]
  simp (disch := omega) [d42x, h1, h2, h3, h4, wrU32, wrU64, wrU8, i_l, i_g, i_a, i_b, i_c, i_f, sa, sb, sc, ta, ta1, smT_len, s1, s2, s3, s4, s5, s6, s7, s1b]
theorem fb10_ok (n : Nat) (hn : n ≤ 20) (z : UInt8) (X S : List UInt8) (hX : X.length = n) (u : Nat) (hu : u < 10 ^ n) :
    C T 42 [.ms 0 1 n 1 0, .int .u64 u] [⟨bcells (z :: (X ++ S)), 0, true⟩] = some (.tup [], [⟨bcells (z :: (dk n u ++ S)), 0, true⟩]) := by
  obtain ⟨e', A', W, D, j, v, g1, g2, g3, g4, g5, g6, g7, g8, g9, g10⟩ := fb_loop n hn n n u (z :: X) S (Nat.le_refl _) (by simp [hX]) hu (Nat.le_refl _)
  obtain ⟨z', Y, rfl, hY⟩ := ex_c g7
  obtain ⟨rfl, -⟩ : z' = z ∧ True := by simp at g8; exact ⟨g8.1.symm, trivial⟩
  have hj : j = 0 ∨ j = 1 ∨ j = 2 ∨ j = 3 ∨ j = 4 ∨ j = 5 ∨ j = 6 ∨ j = 7 := by omega
  rcases hj with rfl | rfl | rfl | rfl | rfl | rfl | rfl | rfl
  · obtain rfl := ex_0 hY
    exact fb_t0 n z' X S 0 v D u g6 hn (by omega) g9 e' (by simpa using g1) g2 g3 g4
  · obtain ⟨y1, Y1, rfl, k1⟩ := ex_c hY
    obtain rfl := ex_0 k1
    exact fb_t1 n z' X S y1 v D u g6 hn (by omega) g9 e' (by simpa using g1) g2 g3 g4
  · obtain ⟨y1, Y1, rfl, k1⟩ := ex_c hY
    obtain ⟨y2, Y2, rfl, k2⟩ := ex_c k1
    obtain rfl := ex_0 k2
    exact fb_t2 n z' X S y1 y2 v D u g6 hn (by omega) g9 e' (by simpa using g1) g2 g3 g4
  · obtain ⟨y1, Y1, rfl, k1⟩ := ex_c hY
    obtain ⟨y2, Y2, rfl, k2⟩ := ex_c k1
    obtain ⟨y3, Y3, rfl, k3⟩ := ex_c k2
    obtain rfl := ex_0 k3
    exact fb_t3 n z' X S y1 y2 y3 v D u g6 hn (by omega) g9 e' (by simpa using g1) g2 g3 g4
  · obtain ⟨y1, Y1, rfl, k1⟩ := ex_c hY
    obtain ⟨y2, Y2, rfl, k2⟩ := ex_c k1
    obtain ⟨y3, Y3, rfl, k3⟩ := ex_c k2
    obtain ⟨y4, Y4, rfl, k4⟩ := ex_c k3
    obtain rfl := ex_0 k4
    exact fb_t4 n z' X S y1 y2 y3 y4 v D u g6 hn (by omega) g9 e' (by simpa using g1) g2 g3 g4
  · obtain ⟨y1, Y1, rfl, k1⟩ := ex_c hY
    obtain ⟨y2, Y2, rfl, k2⟩ := ex_c k1
    obtain ⟨y3, Y3, rfl, k3⟩ := ex_c k2
    obtain ⟨y4, Y4, rfl, k4⟩ := ex_c k3
    obtain ⟨y5, Y5, rfl, k5⟩ := ex_c k4
    obtain rfl := ex_0 k5
    exact fb_t5 n z' X S y1 y2 y3 y4 y5 v D u g6 hn (by omega) g9 e' (by simpa using g1) g2 g3 g4
  · obtain ⟨y1, Y1, rfl, k1⟩ := ex_c hY
    obtain ⟨y2, Y2, rfl, k2⟩ := ex_c k1
    obtain ⟨y3, Y3, rfl, k3⟩ := ex_c k2
    obtain ⟨y4, Y4, rfl, k4⟩ := ex_c k3
    obtain ⟨y5, Y5, rfl, k5⟩ := ex_c k4
    obtain ⟨y6, Y6, rfl, k6⟩ := ex_c k5
    obtain rfl := ex_0 k6
    exact fb_t6 n z' X S y1 y2 y3 y4 y5 y6 v D u g6 hn (by omega) g9 e' (by simpa using g1) g2 g3 g4
  · obtain ⟨y1, Y1, rfl, k1⟩ := ex_c hY
    obtain ⟨y2, Y2, rfl, k2⟩ := ex_c k1
    obtain ⟨y3, Y3, rfl, k3⟩ := ex_c k2
    obtain ⟨y4, Y4, rfl, k4⟩ := ex_c k3
    obtain ⟨y5, Y5, rfl, k5⟩ := ex_c k4
    obtain ⟨y6, Y6, rfl, k6⟩ := ex_c k5
    obtain ⟨y7, Y7, rfl, k7⟩ := ex_c k6
    obtain rfl := ex_0 k7
    exact fb_t7 n z' X S y1 y2 y3 y4 y5 y6 y7 v D u g6 hn (by omega) g9 e' (by simpa using g1) g2 g3 g4
end Go.Eng.S
