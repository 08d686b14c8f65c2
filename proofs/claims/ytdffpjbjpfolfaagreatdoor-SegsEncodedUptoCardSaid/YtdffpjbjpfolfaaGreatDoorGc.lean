/- Percent decoding: the code's and the reference's. No condition. -/
import Derived.Test.YtdffpjbjpfolfaaGreatDoorGb
namespace Go.Eng.S
open Go Go.Eng
/-- The byte of the two digits at the beginning. -/
def tri : List UInt8 → Option UInt8
  | a :: b :: _ => if 0 ≤ hexI a.toNat ∧ 0 ≤ hexI b.toNat then some (UInt8.ofNat (hexI a.toNat * 16 + hexI b.toNat).toNat) else none
  | _ => none
/-- The bytes behind 'k' that are skipped, decoded; or the place of the first wrong triple. -/
def pds : Nat → Nat → List UInt8 → Except Nat (List UInt8)
  | _, _, [] => .ok []
  | k + 1, i, _ :: r => pds k (i + 1) r
  | 0, i, c :: r => if c = 37 then (match tri r with
      | some b => (pds 2 (i + 1) r).map (b :: ·)
      | none => .error i) else (pds 0 (i + 1) r).map (c :: ·)
theorem hexU8 {a b : UInt8} (h : 0 ≤ hexI a.toNat ∧ 0 ≤ hexI b.toNat) : ((UInt8.ofNat (hexI a.toNat * 16 + hexI b.toNat).toNat).toNat : Int) = hexI a.toNat * 16 + hexI b.toNat ∧ 0 ≤ hexI a.toNat * 16 + hexI b.toNat ∧ hexI a.toNat * 16 + hexI b.toNat < 256 := by
  have h1 := hexI_lt a.toNat
  have h2 := hexI_lt b.toNat
  simp
  omega
theorem triple_ok (s : List UInt8) (hs : s.length < 1000000000) (H : Heap) : ∃ x, C T 54 [.str s] H = some (.tup [.int .u8 x, .bool (tri (s.drop 1)).isSome], H) ∧ ∀ b, tri (s.drop 1) = some b → x = b.toNat := by
  suffices h : ∃ x, C T 54 [.str s] [] = some (.tup [.int .u8 x, .bool (tri (s.drop 1)).isSome], []) ∧ ∀ b, tri (s.drop 1) = some b → x = b.toNat by
    obtain ⟨x, h1, h2⟩ := h
    exact ⟨x, anyH fd54 rfl rfl h1 H, h2⟩
  rw [q54]
  match s, hs with
  | [], _ => exact ⟨0, by simp [d54, tri], by simp [tri]⟩
  | [_], _ => exact ⟨0, by simp [d54, tri], by simp [tri]⟩
  | [_, _], _ => exact ⟨0, by simp [d54, tri], by simp [tri]⟩
  | c :: a :: b :: r, hs =>
    simp only [List.length_cons] at hs
    have ha := hexD_ok a []
    have hb := hexD_ok b []
    have l1 := hexI_lt a.toNat
    have l2 := hexI_lt b.toNat
    by_cases h1 : 0 ≤ hexI a.toNat <;> by_cases h2 : 0 ≤ hexI b.toNat
    · have h3 := hexU8 ⟨h1, h2⟩
      refine ⟨hexI a.toNat * 16 + hexI b.toNat, ?_, ?_⟩
      · have g1 : ¬ hexI a.toNat < 0 := by omega
        have g2 : ¬ hexI b.toNat < 0 := by omega
        simp (disch := omega) [d54, tri, ha, hb, h1, h2, g1, g2]
      · intro x hx
        simp [tri, h1, h2] at hx
        subst hx
        exact h3.1.symm
    · have g1 : ¬ hexI a.toNat < 0 := by omega
      have g2 : hexI b.toNat < 0 := by omega
      exact ⟨hexI a.toNat * 16, by simp (disch := omega) [d54, tri, ha, hb, h1, h2, g1, g2], by simp [tri, h1, h2]⟩
    · have g1 : hexI a.toNat < 0 := by omega
      have g2 : ¬ hexI b.toNat < 0 := by omega
      exact ⟨hexI b.toNat, by simp (disch := omega) [d54, tri, ha, hb, h1, h2, g1, g2], by simp [tri, h1, h2]⟩
    · have g1 : hexI a.toNat < 0 := by omega
      have g2 : hexI b.toNat < 0 := by omega
      exact ⟨0, by simp (disch := omega) [d54, tri, ha, hb, h1, h2, g1, g2], by simp [tri, h1, h2]⟩
/-- What percent.Decode answers. -/
def decV : Except Nat (List UInt8) → AV
  | .ok l => .tup [.str l, .cst .nilIface]
  | .error i => .tup [.str [], flt 400 i]
def decP (out : List UInt8) (r : Except Nat (List UInt8)) (x : XR) : Prop := match r with
  | .ok l => ∃ e' H' ad bv, x = some (.exit 0, e', H') ∧ e'.get 4 = .ptr 0 0 0 ∧ Bld H' 0 (out ++ l) ad bv ∧ (out ++ l = [] → bv = .cst (.slice none 0 0))
  | .error i => ∃ e' H', x = some (.ret, e', H') ∧ e'.get 2 = .str [] ∧ e'.get 3 = flt 400 i
theorem dec_loop (s : List UInt8) (hs : s.length < 100000000) : ∀ (n i k : Nat) (out : List UInt8) (H : Heap) (ad bv : AV), i + n = s.length → k ≤ 2 → out.length ≤ i → Bld H 0 out ad bv → (out = [] → bv = .cst (.slice none 0 0)) →
    decP out (pds k i (s.drop i)) (XL T [0, 4, 5, 12, 13] L42_0 [(0, .str s), (4, .ptr 0 0 0), (5, .int .i64 k), (12, .int .i64 s.length), (13, .int .i64 i)] H)
  | 0, i, k, out, H, ad, bv, hn, hk, ho, hB, h0 => by
    have hd : s.drop i = [] := List.drop_eq_nil_of_le (by omega)
    have hp : pds k i [] = .ok [] := by cases k <;> rfl
    rw [hd, hp, XL_eq]
    have hx : ∃ e', seqK (X T L42_0 (Env.keep [0, 4, 5, 12, 13] [(0, .str s), (4, .ptr 0 0 0), (5, .int .i64 k), (12, .int .i64 s.length), (13, .int .i64 i)]) H) (fun e' H' => XL T [0, 4, 5, 12, 13] L42_0 (Env.keep [0, 4, 5, 12, 13] e') H') = some (.exit 0, e', H) ∧ e'.get 4 = .ptr 0 0 0 := by
      simp (disch := omega) [L42_0]
    obtain ⟨e', h1, h2⟩ := hx
    exact ⟨e', H, ad, bv, h1, h2, by simpa using hB, by simpa using h0⟩
  | n + 1, i, k, out, H, ad, bv, hn, hk, ho, hB, h0 => by
    have hlt : i < s.length := by omega
    have hd : s.drop i = s[i] :: s.drop (i + 1) := List.drop_eq_getElem_cons hlt
    rw [hd, XL_eq]
    have ih := dec_loop s hs n (i + 1)
    push_cast at ih
    generalize XL T [0, 4, 5, 12, 13] L42_0 = lp at *
    cases k with
    | succ k =>
      have ih := ih k out H ad bv (by omega) (by omega) (by omega) hB h0
      rw [pds]
      simp (disch := omega) [L42_0]
      exact ih
    | zero =>
      rw [pds]
      by_cases h37 : s[i] = 37
      · obtain ⟨x, h1, h2⟩ := triple_ok (s.drop i) (by simp; omega) H
        have hdd : (s.drop i).drop 1 = s.drop (i + 1) := by rw [List.drop_drop]
        rw [hdd] at h1 h2
        have e37 : ((s[i].toNat : Int) == 37) = true := by rw [h37]; rfl
        rw [if_pos h37]
        cases ht : tri (s.drop (i + 1)) with
        | none =>
          rw [ht] at h1
          have hnw := new_ok 400 i H
          simp (disch := omega) [L42_0, e37, h1, hnw, decP]
        | some b =>
          rw [ht] at h1
          obtain rfl := h2 b ht
          obtain ⟨H', bv', w1, w2⟩ := wbyte_ok hB b (by omega)
          have ih := ih 2 (out ++ [b]) H' _ bv' (by omega) (by omega) (by simp; omega) w2 (by simp)
          simp (disch := omega) [L42_0, e37, h1, w1]
          cases hr : pds 2 (i + 1) (s.drop (i + 1)) with
          | ok l =>
            rw [hr] at ih
            simpa [decP, Except.map] using ih
          | error j =>
            rw [hr] at ih
            simpa [decP, Except.map] using ih
      · have e37 : ((s[i].toNat : Int) == 37) = false := by rw [u8_eqlit _ 37 37 rfl]; simpa using h37
        rw [if_neg h37]
        obtain ⟨H', bv', w1, w2⟩ := wbyte_ok hB s[i] (by omega)
        have ih := ih 0 (out ++ [s[i]]) H' _ bv' (by omega) (by omega) (by simp; omega) w2 (by simp)
        simp (disch := omega) [L42_0, e37, w1]
        cases hr : pds 0 (i + 1) (s.drop (i + 1)) with
        | ok l =>
          rw [hr] at ih
          simpa [decP, Except.map] using ih
        | error j =>
          rw [hr] at ih
          simpa [decP, Except.map] using ih
theorem pds_len : ∀ (l : List UInt8) (k i : Nat) (x : List UInt8), pds k i l = .ok x → x.length ≤ l.length
  | [], k, i, x, h => by cases k <;> (cases h; exact Nat.le_refl _)
  | c :: r, k + 1, i, x, h => by
    rw [pds] at h
    have := pds_len r k (i + 1) x h
    simp; omega
  | c :: r, 0, i, x, h => by
    rw [pds] at h
    split at h
    · split at h
      · rename_i b hb
        cases hr : pds 2 (i + 1) r with
        | error j => rw [hr] at h; cases h
        | ok y => rw [hr] at h; cases h; have := pds_len r 2 (i + 1) y hr; simp; omega
      · cases h
    · cases hr : pds 0 (i + 1) r with
      | error j => rw [hr] at h; cases h
      | ok y => rw [hr] at h; cases h; have := pds_len r 0 (i + 1) y hr; simp; omega
theorem decode_ok (s : List UInt8) (hs : s.length < 100000000) (H : Heap) : C T 42 [.str s] H = some (decV (pds 0 0 s), H) := by
  refine anyH fd42 rfl rfl ?_ H
  rw [q42]
  have hB : Bld [⟨[.cst (.pointer none), .cst (.slice none 0 0)], 0, true, .typ 79⟩, ⟨bcells s, 0, true, .no⟩] 0 [] (.cst (.pointer none)) (.cst (.slice none 0 0)) := ⟨rfl, .inl rfl, .inl ⟨rfl, rfl⟩⟩
  have h := dec_loop s hs s.length 0 0 [] _ _ _ (by omega) (by omega) (by simp) hB (fun _ => rfl)
  simp only [List.drop_zero, Int.natCast_zero] at h
  have hlim : s.length ≤ LIM := by unfold LIM; omega
  cases hr : pds 0 0 s with
  | ok l =>
    rw [hr] at h
    obtain ⟨e', H', ad, bv, h1, h2, h3, h4⟩ := h
    have hll := pds_len _ _ _ _ hr
    obtain ⟨H2, h5⟩ := bstr_ok h3 h4 (by simp; omega)
    simp only [List.nil_append] at h5
    simp [d42, hnewK, hlim, h1, h2, h5, decV]
  | error i =>
    rw [hr] at h
    obtain ⟨e', H', h1, h2, h3⟩ := h
    simp [d42, hnewK, hlim, h1, h2, h3, decV]
end Go.Eng.S
