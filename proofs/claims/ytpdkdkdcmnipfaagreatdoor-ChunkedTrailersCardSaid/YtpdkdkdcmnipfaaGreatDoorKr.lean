/- The reference's Read: chunks. No condition. -/
import Derived.Test.YtpdkdkdcmnipfaaGreatDoorKq
namespace Go.Eng.S
open Go Go.Eng
theorem readR_k (l : Lim) (k at_ : Nat) (out s : List UInt8) : readR l (k + 1) at_ out s = match lineR l.line [] s with
    | .opn => .opn
    | .long j => .bad 400 (at_ + j)
    | .bad j => .bad 400 (at_ + j)
    | .ok x rest => match l.size x out.length with
      | .inl st => .bad st (at_ + x.length + 1)
      | .inr n => if n = 0 then trailR l out (k + 1) (at_ + x.length + 2) 0 0 rest else
        if rest.length < n then .opn else
        match crlfR (at_ + x.length + 2 + n) (rest.drop n) with
        | .inl r => r
        | .inr r2 => readR l k (at_ + x.length + 2 + n + 2) (out ++ rest.take n) r2 := by
  rw [readR]
  cases lineR l.line [] s with
  | opn => rfl
  | long j => rfl
  | bad j => rfl
  | ok x rest =>
    dsimp only
    cases l.size x out.length with
    | inl st => rfl
    | inr n =>
      dsimp only
      split
      · rfl
      · split
        · rfl
        · cases rest.drop n with
          | nil => rfl
          | cons c r1 =>
            unfold crlfR
            dsimp only
            by_cases hc : c ≠ 13
            · rw [if_pos hc, if_pos hc]
            · rw [if_neg hc, if_neg hc]
              cases r1 with
              | nil => rfl
              | cons e r2 =>
                dsimp only
                by_cases he : e ≠ 10
                · rw [if_pos he, if_pos he]
                · rw [if_neg he, if_neg he]
theorem bcells_take (n : Nat) (l : List UInt8) : (bcells l).take n = bcells (l.take n) := by simp [bcells, List.map_take]
theorem crlfR_split {a : Nat} {s r : List UInt8} (h : crlfR a s = .inr r) : s = 13 :: 10 :: r := by
  cases s with
  | nil => cases h
  | cons c r1 =>
    unfold crlfR at h
    dsimp only at h
    by_cases hc : c = 13
    · rw [if_neg (by simpa using hc)] at h
      cases r1 with
      | nil => cases h
      | cons e r2 =>
        dsimp only at h
        by_cases he : e = 10
        · rw [if_neg (by simpa using he)] at h
          cases h
          rw [hc, he]
        · rw [if_pos (by simpa using he)] at h; cases h
    · rw [if_pos (by simpa using hc)] at h; cases h
/-- The chunks were read: what is left is a trailer. -/
def chP (l : Lims) (L : Lm) (W : List UInt8) (r : Res) (x : XR) : Prop := rdPost r x ∨ ∃ e' H' k u s vo out, x = some (.exit 0, e', H') ∧ e'.get 0 = slV W ∧ e'.get 1 = .int .i64 (u.length : Nat) ∧ e'.get 5 = .ptr 0 0 0 ∧ e'.get 6 = .ptr 1 0 0 ∧ e'.get 7 = vo ∧
  W = u ++ s ∧ s.length < k ∧ H'[0]? = some (lmRaw l) ∧ H'[1]? = some rs0 ∧ Own H' vo out ∧ rowOf vo ≠ some 1 ∧ r = trailR L.lim out k u.length 0 0 s
set_option maxHeartbeats 2000000 in
theorem chk_loop {l : Lims} {L : Lm} (hL : LimOK l L) (hb : L.body ≤ 1099511627776) : ∀ (k : Nat) (u s W : List UInt8) (H : Heap) (vo : AV) (out : List UInt8), s.length < k → W = u ++ s → W.length < 10000 → H[0]? = some (lmRaw l) → H[1]? = some rs0 → Own H vo out → rowOf vo ≠ some 0 → rowOf vo ≠ some 1 → out.length ≤ u.length →
    chP l L W (readR L.lim k u.length out s) (XL T [0, 1, 5, 6, 7] L11_2 [(0, slV W), (1, .int .i64 u.length), (5, .ptr 0 0 0), (6, .ptr 1 0 0), (7, vo)] H)
  | 0, u, s, W, H, vo, out, hk, _, _, _, _, _, _, _, _ => absurd hk (Nat.not_lt_zero _)
  | k + 1, u, s, W, H, vo, out, hk, hW, hWl, h0, h1, ho, hr0, hr1, hol => by
    have hus : u.length + s.length < 10000 := by rw [hW] at hWl; simpa using hWl
    obtain ⟨ll, hln, hq⟩ := line_ok u s L.line (by omega)
    rw [← hW] at hln
    have i1 := hL.line
    have i2 := hL.body
    have hll : L.lim.line = L.line := rfl
    have hls : L.lim.size = dsz L.body := rfl
    have ih := chk_loop hL hb k
    rw [XL_eq, readR_k, hll, hls]
    generalize XL T [0, 1, 5, 6, 7] L11_2 = lp at *
    cases hlr : lineR L.line [] s with
    | opn =>
      rw [hlr] at hq
      obtain ⟨x, rfl⟩ := hq
      refine .inl (rdPost_of (H := H) (cells := [nls, .int .i64 0, .int .i64 0, .int .i64 0, .bool true]) ?_ h1 rfl ⟨_, rfl⟩)
      simp (disch := omega) [L11_2, hget_at h0, hset_at h1, i1, hln]
    | bad j =>
      rw [hlr] at hq
      obtain rfl := hq
      refine .inl (rdPost_of (H := H) (cells := [nls, .int .i64 0, .int .i64 400, .int .i64 (u.length + j : Nat), .bool false]) ?_ h1 rfl ⟨_, rfl⟩)
      simp (disch := omega) [L11_2, hget_at h0, hset_at h1, i1, hln]
    | long j =>
      rw [hlr] at hq
      obtain rfl := hq
      refine .inl (rdPost_of (H := H) (cells := [nls, .int .i64 0, .int .i64 400, .int .i64 (u.length + j : Nat), .bool false]) ?_ h1 rfl ⟨_, rfl⟩)
      simp (disch := omega) [L11_2, hget_at h0, hset_at h1, i1, hln]
    | ok x rest =>
      rw [hlr] at hq
      obtain rfl := hq
      have hsp := lineR_split hlr
      have hlen := lineR_len hlr
      simp only [List.nil_append, List.length_nil, Nat.zero_add] at hsp hlen
      dsimp only
      have hsz := rsize_ok x (by omega) L.body out.length hb (by omega)
      have esub : (u.length : Int) + x.length + 2 - 1 = u.length + x.length + 1 := by omega
      have ho' := ho
      cases hd : dsz L.body x out.length with
      | inl st =>
        rw [hd] at hsz
        simp only [rszV] at hsz
        have hst : ((st : Int) != 0) = true := by
          have : st = 400 ∨ st = 413 := by
            unfold dsz at hd
            repeat' split at hd
            all_goals first
              | (cases hd; simp; done)
              | cases hd
          rcases this with rfl | rfl <;> rfl
        refine .inl (rdPost_of (H := H) (cells := [nls, .int .i64 0, .int .i64 st, .int .i64 (u.length + x.length + 1 : Nat), .bool false]) ?_ h1 rfl ⟨_, rfl⟩)
        simp at hst
        rcases ho with ⟨rfl, rfl⟩ | ⟨kk, g, rfl, _, hr⟩ <;> (try simp at hsz) <;> simp (disch := omega) [L11_2, hget_at h0, hset_at h1, i1, i2, hln, hsz, esub]
      | inr n =>
        rw [hd] at hsz
        simp only [rszV] at hsz
        dsimp only
        by_cases hn : n = 0
        · rw [if_pos hn]
          subst hn
          refine .inr ?_
          have hx : ∃ e', seqK (X T L11_2 (Env.keep [0, 1, 5, 6, 7] [(0, slV W), (1, .int .i64 u.length), (5, .ptr 0 0 0), (6, .ptr 1 0 0), (7, vo)]) H) (fun e' H' => lp (Env.keep [0, 1, 5, 6, 7] e') H') = some (.exit 0, e', H) ∧ e'.get 0 = slV W ∧ e'.get 1 = .int .i64 (u.length + x.length + 2 : Nat) ∧ e'.get 5 = .ptr 0 0 0 ∧ e'.get 6 = .ptr 1 0 0 ∧ e'.get 7 = vo := by
            rcases ho with ⟨rfl, rfl⟩ | ⟨kk, g, rfl, _, hr⟩ <;> (try simp at hsz) <;> simp (disch := omega) [L11_2, hget_at h0, i1, i2, hln, hsz]
          obtain ⟨e', p1, p2, p3, p4, p5, p6⟩ := hx
          have el : (u ++ x ++ [13, 10]).length = u.length + x.length + 2 := by simp; omega
          refine ⟨e', H, k + 1, u ++ x ++ [13, 10], rest, vo, out, p1, p2, by rw [el]; exact p3, p4, p5, p6, by rw [hW, hsp]; simp, by omega, h0, h1, ho', hr1, by rw [el]⟩
        rw [if_neg hn]
        have hn' : ((n : Int) == 0) = false := by rw [beq_eq_false_iff_ne]; omega
        simp at hn'
        have hwl : W.length = u.length + (x.length + 2 + rest.length) := by rw [hW, hlen]; simp
        have hnb := dsz_le hd
        by_cases hlt : rest.length < n
        · rw [if_pos hlt]
          have g1 : (W.length : Int) < (u.length : Int) + x.length + 2 + n := by omega
          refine .inl (rdPost_of (H := H) (cells := [nls, .int .i64 0, .int .i64 0, .int .i64 0, .bool true]) ?_ h1 rfl ⟨_, rfl⟩)
          rcases ho with ⟨rfl, rfl⟩ | ⟨kk, g, rfl, _, hr⟩ <;> (try simp at hsz) <;> simp (disch := omega) [L11_2, hget_at h0, hset_at h1, i1, i2, hln, hsz, g1]
        rw [if_neg hlt]
        have g1 : ¬ (W.length : Int) < (u.length : Int) + x.length + 2 + n := by omega
        have hne : rest.take n ≠ [] := by
          intro e
          have := congrArg List.length e
          rw [List.length_take, List.length_nil] at this
          omega
        have htl : (rest.take n).length = n := by simp; omega
        obtain ⟨H', vo', ha, hov, hlen', hfr, hrow⟩ := ho.appendL (rest.take n) hne (by rw [htl]; omega)
        rw [htl] at ha
        have h0' := hfr 0 _ hr0 h0
        have h1' := hfr 1 _ hr1 h1
        have hH2 : 2 ≤ H.length := by have := (List.getElem?_eq_some_iff.1 h1).1; omega
        have hr0' : rowOf vo' ≠ some 0 := fun e => (hrow 0 e).elim hr0 (fun h => by omega)
        have hr1' : rowOf vo' ≠ some 1 := fun e => (hrow 1 e).elim hr1 (fun h => by omega)
        have hWu : W = (u ++ x ++ [13, 10]) ++ rest := by rw [hW, hsp]; simp
        have hsl : List.take n (List.drop (u.length + x.length + 2) (bcells W)) = bcells (rest.take n) := by
          have el : (bcells (u ++ x ++ [13, 10])).length = u.length + x.length + 2 := by simp [bcells]; omega
          rw [hWu, bcells_app, ← el, List.drop_left, bcells_take]
        have etn : ((u.length : Int) + x.length + 2).toNat = u.length + x.length + 2 := by omega
        have etn2 : ((u.length : Int) + x.length + 2 + n).toNat = u.length + x.length + 2 + n := by omega
        have en : u.length + x.length + 2 + n - (u.length + x.length + 2) = n := by omega
        have hWr : W = (u ++ x ++ [13, 10] ++ rest.take n) ++ rest.drop n := by rw [hWu, List.append_assoc _ (rest.take n), List.take_append_drop]
        have hcr := crlf_ok W (u ++ x ++ [13, 10] ++ rest.take n) (rest.drop n) hWr hWl H' h1' vo'
        have el : (u ++ x ++ [13, 10] ++ rest.take n).length = u.length + x.length + 2 + n := by
          rw [List.length_append, htl]; simp; omega
        rw [el] at hcr
        have e1 : ((u.length + x.length + 2 + n : Nat) : Int) = (u.length : Int) + x.length + 2 + n := by omega
        unfold rdEnv at hcr
        rw [e1] at hcr
        cases hcc : crlfR (u.length + x.length + 2 + n) (rest.drop n) with
        | inl r =>
          rw [hcc] at hcr
          refine .inl ?_
          obtain ⟨e', H2, cells, H3, p1, p2, p3, p4⟩ := hcr
          refine ⟨e', H2, cells, H3, ?_, p2, p3, p4⟩
          rcases ho with ⟨rfl, rfl⟩ | ⟨kk, g, rfl, _, hr⟩ <;> (try simp at hsz) <;> simp (disch := omega) [L11_2, hget_at h0, i1, i2, hln, hsz, g1, etn, etn2, en, hsl, ha, p1]
        | inr r2 =>
          rw [hcc] at hcr
          obtain ⟨e', p1, p2, p3, p4, p5, p6⟩ := hcr
          have hdr := crlfR_split hcc
          have hdl : (rest.drop n).length = r2.length + 2 := by rw [hdr]; simp
          rw [List.length_drop] at hdl
          have ih := ih (u ++ x ++ [13, 10] ++ rest.take n ++ [13, 10]) r2 W H' vo' (out ++ rest.take n) (by omega) (by rw [hWr, hdr]; simp) hWl h0' h1' hov hr0' hr1' (by rw [List.length_append, List.length_append, el, htl]; simp; omega)
          have el2 : (u ++ x ++ [13, 10] ++ rest.take n ++ [13, 10]).length = u.length + x.length + 2 + n + 2 := by rw [List.length_append, el]; rfl
          rw [el2] at ih
          rw [el] at p3
          have hx : seqK (X T L11_2 (Env.keep [0, 1, 5, 6, 7] [(0, slV W), (1, .int .i64 u.length), (5, .ptr 0 0 0), (6, .ptr 1 0 0), (7, vo)]) H) (fun e' H' => lp (Env.keep [0, 1, 5, 6, 7] e') H') = lp [(0, slV W), (1, .int .i64 (u.length + x.length + 2 + n + 2 : Nat)), (5, .ptr 0 0 0), (6, .ptr 1 0 0), (7, vo')] H' := by
            rcases ho with ⟨rfl, rfl⟩ | ⟨kk, g, rfl, _, hr⟩ <;> (try simp at hsz) <;> simp (disch := omega) [L11_2, hget_at h0, i1, i2, hln, hsz, g1, etn, etn2, en, hsl, ha, p1, p2, p3, p4, p5, p6]
          rw [hx]
          exact ih
end Go.Eng.S
