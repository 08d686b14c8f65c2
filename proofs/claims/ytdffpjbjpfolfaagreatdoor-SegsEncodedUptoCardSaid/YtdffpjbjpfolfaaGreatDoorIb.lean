/- A byte that needs no encoding, encoded: the same path. No condition. -/
import Derived.Test.YtdffpjbjpfolfaaGreatDoorGy
namespace Go.Eng.S
open Go Go.Eng
/-- No percent sign in the last two bytes. -/
def free (u : Seg) : Prop := ∀ j, u.length ≤ j + 2 → u[j]? ≠ some 37
theorem free_tail {a : UInt8} {u : Seg} (h : free (a :: u)) : free u := by
  intro j hj
  have := h (j + 1) (by rw [List.length_cons]; omega)
  rwa [List.getElem?_cons_succ] at this
theorem free_head {u : Seg} (h : free (37 :: u)) : 2 ≤ u.length := by
  refine Nat.le_of_not_lt fun hlt => ?_
  exact h 0 (by rw [List.length_cons]; omega) rfl
theorem tri_app {u : Seg} (h : 2 ≤ u.length) (w : Seg) : tri (u ++ w) = tri u := by
  match u, h with
  | a :: b :: r, _ => rw [List.cons_append, List.cons_append, tri_cons, tri_cons]
theorem map_ok {x : Except Nat (List UInt8)} {f : List UInt8 → List UInt8} {y : List UInt8} (h : x.map f = .ok y) : ∃ z, x = .ok z ∧ y = f z := by
  cases x with
  | error e => cases h
  | ok z => cases h; exact ⟨z, rfl, rfl⟩
theorem pds_swap {w1 w2 : Seg} (hw : ∀ j y, pds 0 j w1 = .ok y → pds 0 j w2 = .ok y) : ∀ (u : Seg) (k i : Nat) (x : Seg), k ≤ u.length → free u → pds k i (u ++ w1) = .ok x → pds k i (u ++ w2) = .ok x
  | [], k, i, x, hk, _, h => by
    have : k = 0 := by simpa using hk
    subst this
    exact hw i x h
  | a :: u, k + 1, i, x, hk, hf, h => by
    rw [List.cons_append, pds] at h ⊢
    exact pds_swap hw u k (i + 1) x (by simpa using hk) (free_tail hf) h
  | a :: u, 0, i, x, hk, hf, h => by
    rw [List.cons_append, pds] at h ⊢
    by_cases ha : a = 37
    · subst ha
      have h2 := free_head hf
      rw [if_pos rfl, tri_app h2] at h ⊢
      cases ht : tri u with
      | none => rw [ht] at h; cases h
      | some b =>
        rw [ht] at h
        dsimp only at h ⊢
        obtain ⟨z, hz, rfl⟩ := map_ok h
        rw [pds_swap hw u 2 (i + 1) z h2 (free_tail hf) hz]
        rfl
    · rw [if_neg ha] at h ⊢
      obtain ⟨z, hz, rfl⟩ := map_ok h
      rw [pds_swap hw u 0 (i + 1) z (by omega) (free_tail hf) hz]
      rfl
theorem pds_one {c p q : UInt8} (hc : c ≠ 37) (ht : tri [p, q] = some c) (v : Seg) (j : Nat) (y : Seg) (h : pds 0 j (c :: v) = .ok y) : pds 0 j (37 :: p :: q :: v) = .ok y := by
  have ht' : tri (p :: q :: v) = some c := by rw [← ht, tri_cons, tri_cons]
  rw [pds, if_neg hc] at h
  obtain ⟨z, hz, rfl⟩ := map_ok h
  rw [pds, if_pos rfl, ht']
  dsimp only
  rw [pds, pds, pds_idx _ _ _ _ _ hz]
  rfl
/-- What the one decodes to, the other does too. -/
def Le (a b : Seg) : Prop := ∀ x, pds 0 0 a = .ok x → pds 0 0 b = .ok x
def LeL : List Seg → List Seg → Prop
  | [], [] => True
  | a :: l, b :: m => Le a b ∧ LeL l m
  | _, _ => False
theorem LeL.refl : ∀ l : List Seg, LeL l l
  | [] => trivial
  | _ :: l => ⟨fun _ h => h, LeL.refl l⟩
theorem dcd_le : ∀ (l m : List Seg) (n k : Nat) (x : List Seg), LeL l m → dcd l n = .ok x → dcd m k = .ok x
  | [], [], n, k, x, _, h => h
  | a :: l, b :: m, n, k, x, hl, h => by
    rw [dcd] at h ⊢
    split at h
    · rename_i d hd
      rw [hl.1 d hd]
      dsimp only
      split at h
      · cases h
      · rename_i hb
        rw [if_neg hb]
        cases hr : dcd l (n + a.length + 1) with
        | error e => rw [hr] at h; cases h
        | ok z =>
          rw [hr] at h
          cases h
          rw [dcd_le l m _ (k + b.length + 1) z hl.2 hr]
          rfl
    · cases h
  | [], _ :: _, _, _, _, h, _ => h.elim
  | _ :: _, [], _, _, _, h, _ => h.elim
theorem spl_le {c p q : UInt8} (v : Seg) (hc : c ≠ 37) (hc47 : c ≠ 47) (hp : p ≠ 47) (hq : q ≠ 47) (ht : tri [p, q] = some c) : ∀ u : Seg, free u →
    ∃ a b t s, spl (u ++ c :: v) = a :: t ∧ spl (u ++ 37 :: p :: q :: v) = b :: s ∧ LeL t s ∧ (a = b ∨ ∃ r, a = u ++ c :: r ∧ b = u ++ 37 :: p :: q :: r)
  | [], _ => by
    cases hs : spl v with
    | nil => exact absurd hs (spl_ne v)
    | cons r t =>
      refine ⟨c :: r, 37 :: p :: q :: r, t, t, ?_, ?_, LeL.refl t, .inr ⟨r, rfl, rfl⟩⟩
      · rw [List.nil_append, spl, if_neg hc47, hs]; rfl
      · rw [List.nil_append, spl, if_neg (by decide), spl, if_neg hp, spl, if_neg hq, hs]; rfl
  | x :: u, hf => by
    obtain ⟨a, b, t, s, h1, h2, h3, h4⟩ := spl_le v hc hc47 hp hq ht u (free_tail hf)
    rw [List.cons_append, List.cons_append, spl, spl, h1, h2]
    by_cases hx : x = 47
    · rw [if_pos hx, if_pos hx]
      refine ⟨[], [], a :: t, b :: s, rfl, rfl, ⟨?_, h3⟩, .inl rfl⟩
      rcases h4 with rfl | ⟨r, rfl, rfl⟩
      · exact fun _ h => h
      · exact fun y hy => pds_swap (fun j z hz => pds_one hc ht r j z hz) u 0 0 y (Nat.zero_le _) (free_tail hf) hy
    · rw [if_neg hx, if_neg hx]
      refine ⟨x :: a, x :: b, t, s, rfl, rfl, h3, ?_⟩
      rcases h4 with rfl | ⟨r, rfl, rfl⟩
      · exact .inl rfl
      · exact .inr ⟨r, rfl, rfl⟩
theorem par_one {c p q : UInt8} {u v : Seg} (hc : c ≠ 37) (hc47 : c ≠ 47) (hp : p ≠ 47) (hq : q ≠ 47) (hpa : alw p = true) (hqa : alw q = true) (ht : tri [p, q] = some c) (hf : free u) {r : List Seg × Bool} (h : parS (u ++ c :: v) = .ok r) :
    parS (u ++ 37 :: p :: q :: v) = .ok r := by
  have h37 : alw 37 = true := by decide
  unfold parS at h
  cases hsh : shpE (u ++ c :: v) with
  | some i => rw [hsh] at h; cases h
  | none =>
    rw [hsh] at h
    dsimp only at h
    unfold shpE at hsh
    split at hsh
    · rename_i hsl
      cases hp0 : pds 0 0 ((u ++ c :: v).takeWhile alw) with
      | error i => rw [hp0] at hsh; cases hsh
      | ok x =>
        rw [hp0] at hsh
        unfold fstB at hsh
        dsimp only at hsh
        split at hsh
        · rename_i hall
          rw [tw_all alw _ hall] at hp0
          have hall2 : (u ++ 37 :: p :: q :: v).all alw = true := by
            rw [List.all_append, List.all_cons, Bool.and_eq_true, Bool.and_eq_true] at hall
            rw [List.all_append, List.all_cons, List.all_cons, List.all_cons, hall.1, hall.2.2, h37, hpa, hqa]; rfl
          cases u with
          | nil =>
            rw [List.nil_append] at hsl
            have : c = 47 := by simpa [sl1] using hsl
            exact absurd this hc47
          | cons a u =>
            have ha : a = 47 := by simpa [sl1] using hsl
            subst ha
            have hp2 := pds_swap (fun j z hz => pds_one hc ht v j z hz) (47 :: u) 0 0 x (Nat.zero_le _) hf hp0
            have hsl2 : sl1 (47 :: u ++ 37 :: p :: q :: v) = true := by simp [sl1]
            have hsh2 : shpE (47 :: u ++ 37 :: p :: q :: v) = none := by
              unfold shpE
              rw [if_pos hsl2, tw_all alw _ hall2, hp2]
              unfold fstB
              rw [if_pos hall2]
            obtain ⟨a, b, t, s, h1, h2, h3, h4⟩ := spl_le v hc hc47 hp hq ht u (free_tail hf)
            have hr1 : rawL (47 :: u ++ c :: v) = a :: t := by
              unfold rawL
              rw [if_pos hsl, List.cons_append, List.drop_succ_cons, List.drop_zero, h1]
            have hr2 : rawL (47 :: u ++ 37 :: p :: q :: v) = b :: s := by
              unfold rawL
              rw [if_pos hsl2, List.cons_append, List.drop_succ_cons, List.drop_zero, h2]
            have hle : LeL (a :: t) (b :: s) := by
              refine ⟨?_, h3⟩
              rcases h4 with rfl | ⟨r, rfl, rfl⟩
              · exact fun _ h => h
              · exact fun y hy => pds_swap (fun j z hz => pds_one hc ht r j z hz) u 0 0 y (Nat.zero_le _) (free_tail hf) hy
            rw [hr1] at h
            unfold parS
            rw [hsh2, hr2]
            dsimp only
            cases hd : dcd (a :: t) 1 with
            | error i => rw [hd] at h; cases h
            | ok l =>
              rw [hd] at h
              rw [dcd_le _ _ 1 1 l hle hd]
              dsimp only at h ⊢
              cases hcl : clnS [] l 0 with
              | ok st => rw [hcl] at h; exact h
              | error k => rw [hcl] at h; cases h
        · cases hsh
    · cases hsh
end Go.Eng.S
