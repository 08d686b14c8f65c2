/- Both find the same path. No condition. -/
import Derived.Test.YtdffpjbjpfolfaaGreatDoorGr
namespace Go.Eng.S
open Go Go.Eng
theorem hex_alw {c : UInt8} (h : 0 ≤ hexI c.toNat) : alw c = true ∧ c ≠ 37 ∧ c ≠ 47 := by
  have := all256 (p := fun n => decide (hexI n < 0) || (alw (UInt8.ofNat n) && !(UInt8.ofNat n == 37) && !(UInt8.ofNat n == 47))) (by decide +kernel) c
  rw [UInt8.ofNat_toNat] at this
  simp only [Bool.or_eq_true, Bool.and_eq_true, decide_eq_true_eq, Bool.not_eq_true', beq_eq_false_iff_ne] at this
  rcases this with h1 | ⟨⟨h1, h2⟩, h3⟩
  · omega
  · exact ⟨h1, h2, h3⟩
/-- The first 'k' bytes are hexadecimal digits. -/
def Hx : Nat → Seg → Prop
  | 0, _ => True
  | _ + 1, [] => False
  | k + 1, c :: r => 0 ≤ hexI c.toNat ∧ Hx k r
theorem tri_hx {r : Seg} {b : UInt8} (h : tri r = some b) : Hx 2 r := by
  match r with
  | [] => cases h
  | [_] => cases h
  | x :: y :: t =>
    rw [tri_cons] at h
    split at h
    · rename_i hh; exact ⟨hh.1, hh.2, trivial⟩
    · cases h
theorem tri_tw (r : Seg) : tri (r.takeWhile alw) = tri r := by
  match r with
  | [] => rfl
  | [a] =>
    rw [List.takeWhile_cons]
    split <;> rfl
  | a :: b :: t =>
    rw [tri_cons]
    by_cases hh : 0 ≤ hexI a.toNat ∧ 0 ≤ hexI b.toNat
    · rw [List.takeWhile_cons, if_pos (hex_alw hh.1).1, List.takeWhile_cons, if_pos (hex_alw hh.2).1, tri_cons]
    · rw [if_neg hh, List.takeWhile_cons]
      split
      · rw [List.takeWhile_cons]
        split
        · rw [tri_cons, if_neg hh]
        · rfl
      · rfl
def isErr : Except Nat (List UInt8) → Option Nat
  | .error j => some j
  | .ok _ => none
theorem isErr_map (x : Except Nat (List UInt8)) (f : List UInt8 → List UInt8) : isErr (x.map f) = isErr x := by cases x <;> rfl
theorem scan_eq : ∀ (r : Seg) (k i : Nat), Hx k r → rscan i r = match isErr (pds k i (r.takeWhile alw)) with
    | some j => some j
    | none => if r.all alw = true then none else some (i + (r.takeWhile alw).length)
  | [], k, i, _ => by cases k <;> rfl
  | c :: r, k + 1, i, h => by
    obtain ⟨h1, h2, h3⟩ := hex_alw h.1
    have ih := scan_eq r k (i + 1) h.2
    rw [rscan, if_neg h2, if_pos h1, ih, List.takeWhile_cons, if_pos h1, pds, List.all_cons, h1, Bool.true_and, List.length_cons]
    have e : i + 1 + (r.takeWhile alw).length = i + ((r.takeWhile alw).length + 1) := by omega
    rw [e]
  | c :: r, 0, i, _ => by
    rw [rscan, List.takeWhile_cons, List.all_cons]
    by_cases h37 : c = 37
    · have h1 : alw c = true := by rw [h37]; rfl
      rw [if_pos h37, if_pos h1, pds, if_pos h37, tri_tw, h1, Bool.true_and]
      cases ht : tri r with
      | none => rfl
      | some b =>
        have ih := scan_eq r 2 (i + 1) (tri_hx ht)
        dsimp only
        rw [if_neg (by simp), ih, isErr_map, List.length_cons]
        have e : i + 1 + (r.takeWhile alw).length = i + ((r.takeWhile alw).length + 1) := by omega
        rw [e]
    · rw [if_neg h37]
      by_cases h1 : alw c = true
      · have ih := scan_eq r 0 (i + 1) trivial
        rw [if_pos h1, if_pos h1, pds, if_neg h37, h1, Bool.true_and, ih, isErr_map, List.length_cons]
        have e : i + 1 + (r.takeWhile alw).length = i + ((r.takeWhile alw).length + 1) := by omega
        rw [e]
      · rw [if_neg h1, if_neg h1]
        have h1' : alw c = false := by simpa using h1
        rw [h1']
        rfl
theorem shp_scan {s : Seg} (h : sl1 s = true) : shpE s = rscan 0 s := by
  rw [scan_eq s 0 0 trivial]
  unfold shpE
  rw [if_pos h]
  cases pds 0 0 (s.takeWhile alw) with
  | error i => rfl
  | ok l =>
    simp only [isErr, fstB, Nat.zero_add]
theorem pds_idx : ∀ (r : Seg) (k i j : Nat) (x : Seg), pds k i r = .ok x → pds k j r = .ok x
  | [], k, i, j, x, h => by cases k <;> exact h
  | c :: r, k + 1, i, j, x, h => by
    rw [pds] at h ⊢
    exact pds_idx r k (i + 1) (j + 1) x h
  | c :: r, 0, i, j, x, h => by
    rw [pds] at h ⊢
    split at h
    · rename_i hc
      rw [if_pos hc]
      split at h
      · rename_i b hb
        cases hr : pds 2 (i + 1) r with
        | error e => rw [hr] at h; cases h
        | ok y =>
          rw [hr] at h
          rw [pds_idx r 2 (i + 1) (j + 1) y hr]
          exact h
      · cases h
    · rename_i hc
      rw [if_neg hc]
      cases hr : pds 0 (i + 1) r with
      | error e => rw [hr] at h; cases h
      | ok y =>
        rw [hr] at h
        rw [pds_idx r 0 (i + 1) (j + 1) y hr]
        exact h
def okP (k : Nat) (r : Seg) : Prop := ∃ x, pds k 0 r = .ok x
theorem okP_of {k i : Nat} {r : Seg} {x : Seg} (h : pds k i r = .ok x) : okP k r := ⟨x, pds_idx r k i 0 x h⟩
theorem tri_spl {r : Seg} {b : UInt8} (h : tri r = some b) : ∃ h' t', spl r = h' :: t' ∧ tri h' = some b := by
  match r with
  | [] => cases h
  | [_] => cases h
  | x :: y :: t =>
    rw [tri_cons] at h
    split at h
    · rename_i hh
      have n1 := (hex_alw hh.1).2.2
      have n2 := (hex_alw hh.2).2.2
      rw [spl, if_neg n1, spl, if_neg n2]
      cases hs : spl t with
      | nil => exact absurd hs (spl_ne t)
      | cons a q =>
        refine ⟨x :: y :: a, q, rfl, ?_⟩
        rw [tri_cons, if_pos hh]
        exact h
    · cases h
theorem spl_okP : ∀ (r : Seg) (k : Nat), Hx k r → okP k r → ∃ h t, spl r = h :: t ∧ okP k h ∧ ∀ q ∈ t, okP 0 q
  | [], k, _, hk => ⟨[], [], rfl, hk, fun q h => nomatch h⟩
  | c :: r, k + 1, hx, ⟨x, hk⟩ => by
    rw [pds] at hk
    obtain ⟨h, t, h1, ⟨y, h2⟩, h3⟩ := spl_okP r k hx.2 (okP_of hk)
    have n := (hex_alw hx.1).2.2
    refine ⟨c :: h, t, by rw [spl, if_neg n, h1]; rfl, ⟨y, ?_⟩, h3⟩
    rw [pds]
    exact pds_idx _ _ _ _ _ h2
  | c :: r, 0, _, ⟨x, hk⟩ => by
    rw [pds] at hk
    split at hk
    · rename_i hc
      split at hk
      · rename_i b hb
        cases hr : pds 2 (0 + 1) r with
        | error e => rw [hr] at hk; cases hk
        | ok y =>
          obtain ⟨h, t, h1, ⟨z, h2⟩, h3⟩ := spl_okP r 2 (tri_hx hb) (okP_of hr)
          obtain ⟨h', t', g1, g2⟩ := tri_spl hb
          rw [h1] at g1
          cases g1
          have n : ¬ c = 47 := by rw [hc]; decide
          refine ⟨c :: h, t, by rw [spl, if_neg n, h1]; rfl, ⟨b :: z, ?_⟩, h3⟩
          rw [pds, if_pos hc, g2]
          dsimp only
          rw [pds_idx _ _ _ _ _ h2]
          rfl
      · cases hk
    · rename_i hc
      cases hr : pds 0 (0 + 1) r with
      | error e => rw [hr] at hk; cases hk
      | ok y =>
        obtain ⟨h, t, h1, ⟨z, h2⟩, h3⟩ := spl_okP r 0 trivial (okP_of hr)
        by_cases h47 : c = 47
        · refine ⟨[], h :: t, by rw [spl, if_pos h47, h1], ⟨[], rfl⟩, ?_⟩
          intro q hq
          rcases List.mem_cons.1 hq with rfl | hq
          · exact ⟨z, h2⟩
          · exact h3 q hq
        · refine ⟨c :: h, t, by rw [spl, if_neg h47, h1]; rfl, ⟨c :: z, ?_⟩, h3⟩
          rw [pds, if_neg hc, pds_idx _ _ _ _ _ h2]
          rfl
def posL : List Seg → Nat → List Nat
  | [], _ => []
  | r :: rs, n => n :: posL rs (n + r.length + 1)
theorem rdcd_dcd : ∀ (raw : List Seg) (n : Nat), (∀ r ∈ raw, okP 0 r) → rdcd raw n = (dcd raw n).map fun l => (l, posL raw n)
  | [], n, _ => rfl
  | r :: rs, n, h => by
    obtain ⟨d, hd⟩ := h r (by simp)
    have ih := rdcd_dcd rs (n + r.length + 1) (fun q hq => h q (by simp [hq]))
    have h0 : dec0 r = d := by unfold dec0; rw [hd]
    rw [rdcd, dcd, hd, h0, ih]
    dsimp only
    split
    · rfl
    · cases dcd rs (n + r.length + 1) <;> rfl
theorem posL_get : ∀ (raw : List Seg) (n k : Nat), k < raw.length → (posL raw n).getD k 0 = n + lens (raw.take k) + k
  | r :: rs, n, 0, _ => by simp [posL, lens]
  | r :: rs, n, k + 1, h => by
    have ih := posL_get rs (n + r.length + 1) k (by simpa using h)
    rw [posL, List.getD_cons_succ, ih, List.take_succ_cons, lens_cons]
    omega
theorem join_len (l : List Seg) (h : 0 < l.length) : (joinS l).length + 1 = lens l + l.length := by
  cases l with
  | nil => cases h
  | cons x r =>
    have := flat_len r
    rw [joinS, List.length_append, this, lens_cons, List.length_cons]; omega
theorem raw_okP {s : Seg} (hsl : sl1 s = true) (h : shpE s = none) : ∀ r ∈ rawL s, okP 0 r := by
  unfold shpE at h
  rw [if_pos hsl] at h
  cases hp : pds 0 0 (s.takeWhile alw) with
  | error i => rw [hp] at h; cases h
  | ok x =>
    rw [hp] at h
    dsimp only at h
    unfold fstB at h
    split at h
    · rename_i hall
      rw [tw_all alw s hall] at hp
      cases s with
      | nil => cases hsl
      | cons c r =>
        have hc : c = 47 := by simpa [sl1] using hsl
        subst hc
        rw [pds, if_neg (by decide)] at hp
        cases hr : pds 0 (0 + 1) r with
        | error e => rw [hr] at hp; cases hp
        | ok y =>
          obtain ⟨h, t, h1, h2, h3⟩ := spl_okP r 0 trivial (okP_of hr)
          unfold rawL
          rw [if_pos hsl]
          simp only [List.drop_succ_cons, List.drop_zero, h1]
          intro q hq
          rcases List.mem_cons.1 hq with rfl | hq
          · exact h2
          · exact h3 q hq
    · cases h
theorem rpar_eq (s : Seg) : rparS s = parS s := by
  unfold rparS parS
  cases hsl : sl1 s with
  | false =>
    have : shpE s = some 0 := by unfold shpE; rw [if_neg (by rw [hsl]; simp)]
    rw [this]
    rfl
  | true =>
    rw [if_pos rfl, shp_scan hsl]
    cases hr : rscan 0 s with
    | some i => rfl
    | none =>
      dsimp only
      have hok := raw_okP hsl (by rw [shp_scan hsl, hr])
      rw [rdcd_dcd _ _ hok]
      cases hd : dcd (rawL s) 1 with
      | error i => rfl
      | ok l =>
        have hlen := dcd_len _ _ _ hd
        simp only [Except.map]
        cases hc : clnS [] l 0 with
        | ok st => rfl
        | error k =>
          have hk := cln_err _ _ _ _ hc
          dsimp only
          rw [posL_get _ _ _ (by omega)]
          congr 1
          rcases Nat.eq_zero_or_pos k with rfl | hk0
          · simp [joinS, lens]
          · have hl : ((rawL s).take k).length = k := by rw [List.length_take]; omega
            have := join_len ((rawL s).take k) (by omega)
            rw [hl] at this
            have hm : min k 1 = 1 := by omega
            omega
end Go.Eng.S
