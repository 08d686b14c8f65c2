/- The reference's percent decoding, and its raw segments. No condition. -/
import Derived.Test.YtdffpjbjpfolfaaGreatDoorGz
import Derived.Test.YtdffpjbjpfolfaaGreatDoorGm
namespace Go.Eng.S
open Go Go.Eng
theorem outV_cell (l : List UInt8) : (outV l).isCell = true := by cases l <;> rfl
theorem tri_cons (a b : UInt8) (r : List UInt8) : tri (a :: b :: r) = if 0 ≤ hexI a.toNat ∧ 0 ≤ hexI b.toNat then some (UInt8.ofNat (hexI a.toNat * 16 + hexI b.toNat).toNat) else none := rfl
def rdcP (out : Seg) (r : Except Nat (List UInt8)) (x : XR) : Prop := match r with
  | .ok l => ∃ e', x = some (.exit 0, e', outH (out ++ l)) ∧ e'.get 4 = outV (out ++ l)
  | .error i => ∃ e' H', x = some (.ret, e', H') ∧ e'.get 2 = .str [] ∧ e'.get 3 = .int .i64 i
theorem rdc_loop (s : Seg) (hs : s.length < 100000000) : ∀ (n i : Nat) (out : Seg), i + n = s.length → out.length ≤ i →
    rdcP out (pds 0 i (s.drop i)) (XL T [0, 4, 5] L27_0 [(0, .str s), (4, outV out), (5, .int .i64 i)] (outH out)) := by
  intro n
  induction n using Nat.strongRecOn with
  | ind n IH =>
    intro i out hn ho
    cases n with
    | zero =>
      have hd : s.drop i = [] := List.drop_eq_nil_of_le (by omega)
      rw [hd, XL_eq]
      have hx : ∃ e', seqK (X T L27_0 (Env.keep [0, 4, 5] [(0, .str s), (4, outV out), (5, .int .i64 i)]) (outH out)) (fun e' H' => XL T [0, 4, 5] L27_0 (Env.keep [0, 4, 5] e') H') = some (.exit 0, e', outH out) ∧ e'.get 4 = outV out := by
        simp (disch := omega) [L27_0]
      obtain ⟨e', x1, x2⟩ := hx
      exact ⟨e', by simpa using x1, by simpa using x2⟩
    | succ n =>
      have hlt : i < s.length := by omega
      have hd : s.drop i = s[i] :: s.drop (i + 1) := List.drop_eq_getElem_cons hlt
      rw [hd, XL_eq, pds]
      by_cases h37 : s[i] = 37
      · have e37 : ((s[i].toNat : Int) != 37) = false := by rw [h37]; rfl
        rw [if_pos h37]
        by_cases h2 : s.length ≤ i + 2
        · have ht : tri (s.drop (i + 1)) = none := by
            have hl : (s.drop (i + 1)).length ≤ 1 := by simp; omega
            match s.drop (i + 1), hl with
            | [], _ => rfl
            | [_], _ => rfl
          rw [ht]
          simp (disch := omega) [L27_0, e37, rdcP]
        · have h1' : i + 1 < s.length := by omega
          have h2' : i + 2 < s.length := by omega
          have hd1 : s.drop (i + 1) = s[i + 1] :: s[i + 2] :: s.drop (i + 3) := by
            rw [List.drop_eq_getElem_cons h1', List.drop_eq_getElem_cons h2']
          rw [hd1]
          have r1 := rhex_ok s[i + 1]
          have r2 := rhex_ok s[i + 2]
          have l1 := hexI_lt s[i + 1].toNat
          have l2 := hexI_lt s[i + 2].toNat
          by_cases c1 : hexI s[i + 1].toNat < 0
          · have ht : tri (s[i + 1] :: s[i + 2] :: s.drop (i + 3)) = none := by rw [tri_cons, if_neg (by omega)]
            rw [ht]
            simp (disch := omega) [L27_0, e37, r1, c1, rdcP]
          · by_cases c2 : hexI s[i + 2].toNat < 0
            · have ht : tri (s[i + 1] :: s[i + 2] :: s.drop (i + 3)) = none := by rw [tri_cons, if_neg (by omega)]
              rw [ht]
              simp (disch := omega) [L27_0, e37, r1, r2, c1, c2, rdcP]
            · have hh : 0 ≤ hexI s[i + 1].toNat ∧ 0 ≤ hexI s[i + 2].toNat := ⟨by omega, by omega⟩
              obtain ⟨b, hb⟩ : ∃ b, tri (s[i + 1] :: s[i + 2] :: s.drop (i + 3)) = some b := by rw [tri_cons, if_pos hh]; exact ⟨_, rfl⟩
              have hbv : (b.toNat : Int) = 16 * hexI s[i + 1].toNat + hexI s[i + 2].toNat := by
                rw [tri_cons, if_pos hh] at hb
                cases hb
                have := (hexU8 hh).1
                omega
              rw [hb]
              dsimp only
              rw [pds, pds]
              have ih := IH (n - 2) (by omega) (i + 3) (out ++ [b]) (by omega) (by simp; omega)
              push_cast at ih
              have hap := append_out out b (by unfold LIM; omega)
              rw [hbv] at hap
              generalize XL T [0, 4, 5] L27_0 = lp at *
              have e3 : ((i : Int) + 2 + 1) = (i : Int) + 3 := by omega
              have e4 : ((i : Int) + 1 + 1 + 1) = (i : Int) + 3 := by omega
              simp (disch := omega) [L27_0, e37, r1, r2, c1, c2, hap, e3]
              cases hr : pds 0 (i + 1 + 1 + 1) (s.drop (i + 3)) with
              | ok l =>
                have hr' : pds 0 (i + 3) (s.drop (i + 3)) = .ok l := hr
                rw [hr'] at ih
                simpa [rdcP, Except.map, e4] using ih
              | error j =>
                have hr' : pds 0 (i + 3) (s.drop (i + 3)) = .error j := hr
                rw [hr'] at ih
                simpa [rdcP, Except.map, e4] using ih
      · have e37 : ((s[i].toNat : Int) != 37) = true := by
          have := u8_eqlit s[i] 37 37 rfl
          simp only [bne, this]
          simpa using h37
        rw [if_neg h37]
        have ih := IH n (by omega) (i + 1) (out ++ [s[i]]) (by omega) (by simp; omega)
        push_cast at ih
        have hap := append_out out s[i] (by unfold LIM; omega)
        generalize XL T [0, 4, 5] L27_0 = lp at *
        simp (disch := omega) [L27_0, e37, hap]
        cases hr : pds 0 (i + 1) (s.drop (i + 1)) with
        | ok l =>
          rw [hr] at ih
          simpa [rdcP, Except.map] using ih
        | error j =>
          rw [hr] at ih
          simpa [rdcP, Except.map] using ih
def rdecV : Except Nat (List UInt8) → AV
  | .ok l => .tup [.str l, .int .i64 (-1)]
  | .error i => .tup [.str [], .int .i64 i]
theorem rdecode_ok (s : Seg) (hs : s.length < 100000000) (H : Heap) : C T 27 [.str s] H = some (rdecV (pds 0 0 s), H) := by
  refine anyH fd27 rfl rfl ?_ H
  rw [q27]
  have h := rdc_loop s hs s.length 0 [] (by omega) (by simp)
  simp only [List.drop_zero, Int.natCast_zero] at h
  have hn : outV [] = nls := rfl
  have hh : outH [] = [] := rfl
  rw [hn, hh] at h
  cases hr : pds 0 0 s with
  | ok l =>
    rw [hr] at h
    obtain ⟨e', x1, x2⟩ := h
    simp only [List.nil_append] at x1 x2
    have hv := view_out l
    have hb := bytesOf_bcells l
    cases l with
    | nil =>
      rw [hn] at x2
      rw [hh] at x1
      simp [d27, x1, x2, rdecV, bytesOf]
    | cons c r =>
      have hov : outV (c :: r) = .ms 0 0 (r.length + 1) 1 r.length := rfl
      rw [hov] at x2 hv
      simp only [viewOf, if_true] at hv
      have hhv : outH (c :: r) = [⟨bcells (c :: r), r.length, true, .no⟩] := rfl
      rw [hhv] at x1
      have hg : hget [⟨bcells (c :: r), r.length, true, .no⟩] 0 0 (r.length + 1) r.length = some (bcells (c :: r)) := by
        rw [hget_at rfl, if_pos (by simp [bcells]), List.drop_zero, List.take_of_length_le (by simp [bcells])]
      simp [d27, x1, x2, rdecV, hg, hb]
  | error i =>
    rw [hr] at h
    obtain ⟨e', H', x1, x2, x3⟩ := h
    simp [d27, x1, x2, x3, rdecV]
end Go.Eng.S
