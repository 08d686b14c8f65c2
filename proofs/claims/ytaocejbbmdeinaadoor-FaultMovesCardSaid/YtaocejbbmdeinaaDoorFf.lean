/- The reference's Decimal at every number; the texts of errors. No condition. -/
import Derived.Test.YtaocejbbmdeinaaDoorFe
namespace Go.Eng.S
open Go Go.Eng
set_option maxRecDepth 20000
abbrev tenD : List UInt8 := [48, 49, 50, 51, 52, 53, 54, 55, 56, 57]
theorem tenD_at (k : Nat) (h : k < 10) : (tenD.take (k + 1)).drop k = [UInt8.ofNat (48 + k)] := by
  have : ∀ k < 10, (tenD.take (k + 1)).drop k = [UInt8.ofNat (48 + k)] := by decide
  exact this k h
/-- The reference's text of a number that is not negative. -/
theorem rdec_ok : ∀ (k n : Nat), n < 10 ^ k → 0 < k → n < 9223372036854775808 → ∀ H, k ≤ 20 → C T 26 [.int .i64 n] H = some (.str (decT k n), H)
  | 0, _, _, h, _, _, _ => absurd h (Nat.lt_irrefl 0)
  | k + 1, n, hn, _, hb, H, hk => by
    refine anyH fd26 rfl rfl ?_ H
    rw [q26]
    have hm : (n : Int).tmod 10 = ((n % 10 : Nat) : Int) := rfl
    have hd : (n : Int).tdiv 10 = ((n / 10 : Nat) : Int) := rfl
    have hlt : n % 10 < 10 := Nat.mod_lt _ (by decide)
    unfold decT
    by_cases h10 : n < 10
    · have hg := tenD_at n h10
      have hs : dgt n = UInt8.ofNat (48 + n) := by unfold dgt; rw [Nat.mod_eq_of_lt h10]
      rw [if_pos h10, hs]
      simp at hg
      simp (disch := omega) [d26, hg]
    · have hg := tenD_at (n % 10) hlt
      have hs : dgt n = UInt8.ofNat (48 + n % 10) := rfl
      have hk0 : 0 < k := by
        cases k with
        | zero => simp at hn; omega
        | succ k => omega
      have ih := fun H => rdec_ok k (n / 10) (by rw [Nat.pow_succ] at hn; omega) hk0 (by omega) H (by omega)
      have hlen := decT_len k (n / 10)
      push_cast at ih
      have e1 : ((n : Int) % 10).toNat = n % 10 := by omega
      have e2 : ((n : Int) % 10 + 1).toNat = n % 10 + 1 := by omega
      have hLIM : (decT k (n / 10)).length + 1 ≤ LIM := by unfold LIM; omega
      rw [if_neg h10, hs]
      simp at hg
      simp (disch := omega) [d26, hm, hd, ih, e1, e2, hg, hLIM]
theorem rdecN : ∀ (k n : Nat), 0 < n → n < 10 ^ k → n ≤ 9223372036854775808 → k ≤ 20 → ∀ H, C T 26 [.int .i64 (-(n : Int))] H = some (.str (45 :: decT k n), H)
  | 0, n, h0, h, _, _, _ => by simp at h; omega
  | k + 1, n, h0, hn, hb, hk, H => by
    refine anyH fd26 rfl rfl ?_ H
    rw [q26]
    by_cases h10 : n < 10
    · have hr := fun H => rdec_ok 1 n h10 (by decide) (by omega) H (by decide)
      have e : decT (k + 1) n = decT 1 n := by unfold decT; rw [if_pos h10, if_pos h10]
      have hL : 1 + (decT 1 n).length ≤ LIM := by have := decT_len 1 n; unfold LIM; omega
      rw [e]
      simp (disch := omega) [d26, hr, hL]
    · obtain ⟨q, hq⟩ : ∃ q, n / 10 = q := ⟨_, rfl⟩
      obtain ⟨r, hr⟩ : ∃ r, n % 10 = r := ⟨_, rfl⟩
      have iq : (-(n : Int)).tdiv 10 = -(q : Int) := by rw [Int.neg_tdiv, ← hq]; rfl
      have ir : (-(n : Int)).tmod 10 = -(r : Int) := by rw [Int.neg_tmod, ← hr]; rfl
      have iq2 : (n : Int).tdiv 10 = (q : Int) := by rw [← hq]; rfl
      have ir2 : (n : Int).tmod 10 = (r : Int) := by rw [← hr]; rfl
      have lr : r < 10 := by omega
      have ih := rdecN k q (by omega) (by rw [Nat.pow_succ] at hn; omega) (by omega) (by omega)
      have hd := fun H => rdec_ok 1 r lr (by decide) (by omega) H (by decide)
      have e1 : decT 1 r = [dgt n] := by unfold decT; rw [if_pos lr, dgt_c (m := r) (n := n) (by omega)]
      have e : decT (k + 1) n = decT k q ++ [dgt n] := by rw [decT, if_neg h10, hq]
      rw [e1] at hd
      have hL : (decT k q).length + 1 + 1 ≤ LIM := by have := decT_len k q; unfold LIM; omega
      rw [e]
      simp (disch := omega) [d26, iq, ir, iq2, ir2, ih, hd, hL]
theorem rdec_all (x : Int) (h1 : -9223372036854775808 ≤ x) (h2 : x < 9223372036854775808) (H : Heap) : C T 26 [.int .i64 x] H = some (.str (itoT x), H) := by
  by_cases h : 0 ≤ x
  · obtain ⟨n, rfl⟩ := Int.eq_ofNat_of_zero_le h
    have := rdec_ok 20 n (by omega) (by decide) (by omega) H (by decide)
    unfold itoT
    rw [if_pos h]
    exact this
  · obtain ⟨n, hn⟩ : ∃ n : Nat, x = -(n : Int) := ⟨(-x).toNat, by omega⟩
    have := rdecN 20 n (by omega) (by omega) (by omega) (by decide) H
    unfold itoT
    rw [if_neg h, hn, show (-(-(n : Int))).toNat = n by omega]
    exact this
abbrev stx : List UInt8 := [115, 116, 97, 116, 117, 115, 32]
theorem itoT_len (x : Int) : (itoT x).length ≤ 21 := by
  unfold itoT
  have h1 := decT_len 20 x.toNat
  have h2 := decT_len 20 (-x).toNat
  split
  · omega
  · simp; omega
theorem serr_ok (s : Int) (h1 : -9223372036854775808 ≤ s) (h2 : s < 9223372036854775808) (H : Heap) : C T 17 [.int .i64 s] H = some (.str (stx ++ itoT s), H) := by
  refine anyH fd17 rfl rfl ?_ H
  rw [q17]
  have hL : 7 + (itoT s).length ≤ LIM := by have := itoT_len s; unfold LIM; omega
  simp (disch := omega) [d17, itoa_ok s h1 h2, hL]
theorem ferr_ok (s a : Int) (h1 : -9223372036854775808 ≤ s) (h2 : s < 9223372036854775808) (H : Heap) : C T 68 [.agg [.int .i64 s, .int .i64 a]] H = some (.str (stx ++ itoT s), H) := by
  refine anyH fd68 rfl rfl ?_ H
  rw [q68]
  simp (disch := omega) [d68, serr_ok s h1 h2, hget]
/-- An error: a status or a fault, with names ahead. -/
def bse (f : Bool) (s a : Int) : AV := bif f then .iface 49 (.agg [.int .i64 s, .int .i64 a]) else .iface 30 (.int .i64 s)
def chn (b : AV) : List (List UInt8) → AV
  | [] => b
  | p :: l => .iface 65 (.agg [.str p, chn b l])
theorem bse_snap (f : Bool) (s a : Int) (k : Nat) (H : Heap) (hk : 3 ≤ k) : snap k H (bse f s a) = some (bse f s a, H) := by
  obtain ⟨k, rfl⟩ : ∃ m, k = m + 3 := ⟨k - 3, by omega⟩
  cases f <;> rfl
theorem chn_snap (f : Bool) (s a : Int) : ∀ (l : List (List UInt8)) (k : Nat) (H : Heap), 2 * l.length + 3 ≤ k → snap k H (chn (bse f s a) l) = some (chn (bse f s a) l, H)
  | [], k, H, hk => bse_snap f s a k H (by simpa using hk)
  | p :: l, k, H, hk => by
    simp only [List.length_cons] at hk
    obtain ⟨k, rfl⟩ : ∃ m, k = m + 3 := ⟨k - 3, by omega⟩
    have ih := chn_snap f s a l (k + 1) H (by omega)
    simp [chn, ih]
theorem bse_if (f : Bool) (s a : Int) : ∃ t v, bse f s a = .iface t v ∧ v.closed = true := by
  cases f
  · exact ⟨_, _, rfl, rfl⟩
  · exact ⟨_, _, rfl, rfl⟩
theorem chn_if (f : Bool) (s a : Int) : ∀ l, ∃ t v, chn (bse f s a) l = .iface t v ∧ v.closed = true
  | [] => bse_if f s a
  | p :: l => by
    obtain ⟨t, v, h1, h2⟩ := chn_if f s a l
    refine ⟨_, _, rfl, ?_⟩
    rw [h1]
    simp [AV.closed, closedL, h2]
def txt (b : List UInt8) : List (List UInt8) → List UInt8
  | [] => b
  | p :: l => p ++ [58, 32] ++ txt b l
theorem txt_len (b : List UInt8) : ∀ l : List (List UInt8), (∀ p ∈ l, p.length ≤ 100) → (txt b l).length ≤ b.length + 102 * l.length
  | [], _ => by simp [txt]
  | p :: l, h => by
    have h1 := txt_len b l fun q hq => h q (List.mem_cons_of_mem _ hq)
    have h2 := h p List.mem_cons_self
    simp [txt]
    omega
theorem m_E30 : T.meth 30 "Error" = some (17, none) := by kernel_rfl
theorem m_E49 : T.meth 49 "Error" = some (68, none) := by kernel_rfl
theorem m_E65 : T.meth 65 "Error" = some (71, none) := by kernel_rfl
theorem perr_ok (p t : List UInt8) (k : Nat) (v : AV) (hv : v.closed = true) (hs : snap 63 [] (.iface k v) = some (.iface k v, [])) (hx : ∀ H, invokeM T (C T) (.iface k v) "Error" [] H = some (.str t, H)) (hL : p.length + 2 + t.length ≤ LIM) (H : Heap) :
    C T 71 [.agg [.str p, .iface k v]] H = some (.str (p ++ [58, 32] ++ t), H) := by
  refine anyH fd71 rfl (by simp [AV.closed, closedL, hv]) ?_ H
  rw [q71]
  have hL2 : p.length + 2 ≤ LIM := by omega
  have hs2 : snap 62 [] v = some (v, []) := by
    rw [snap_iface] at hs
    split at hs
    · rename_i h; simp at hs; rw [h, hs.1, hs.2]
    · cases hs
  simp (disch := omega) [d71, hx, hget, hL, hL2, hs2]
  exact beq_self_eq_true p
theorem err_ok (f : Bool) (s a : Int) (h1 : -9223372036854775808 ≤ s) (h2 : s < 9223372036854775808) : ∀ (l : List (List UInt8)), (∀ p ∈ l, p.length ≤ 100) → l.length ≤ 29 → ∀ H, invokeM T (C T) (chn (bse f s a) l) "Error" [] H = some (.str (txt (stx ++ itoT s) l), H)
  | [], _, _, H => by
    cases f
    · simp [chn, bse, invokeM, m_E30, serr_ok s h1 h2, txt]
    · simp [chn, bse, invokeM, m_E49, ferr_ok s a h1 h2, txt]
  | p :: l, hp, hl, H => by
    have ih := err_ok f s a h1 h2 l (fun q hq => hp q (List.mem_cons_of_mem _ hq)) (by simp at hl; omega)
    obtain ⟨t, v, e, hv⟩ := chn_if f s a l
    have hpl := hp p List.mem_cons_self
    have ht := txt_len (stx ++ itoT s) l fun q hq => hp q (List.mem_cons_of_mem _ hq)
    have hi := itoT_len s
    have hsn := chn_snap f s a l 63 [] (by simp at hl; omega)
    rw [e] at hsn
    have := perr_ok p (txt (stx ++ itoT s) l) t v hv hsn (by rw [← e]; exact ih) (by unfold LIM; simp at ht hl ⊢; omega) H
    simp [chn, e, invokeM, m_E65, this, txt]
end Go.Eng.S
