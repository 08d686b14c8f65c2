/- The reference's Read: trailers. No condition. -/
import Derived.Test.YtpdkdkdcmnipfaaGreatDoorKo
namespace Go.Eng.S
open Go Go.Eng
theorem Own.appendL {H : Heap} {v : AV} {s : List UInt8} (h : Own H v s) (ys : List UInt8) (hy : ys ≠ []) (hl : s.length + ys.length < 1000000000) :
    ∃ H' v', aappend H 1 1 v ys.length (bcells ys) = some (v', H') ∧ Own H' v' (s ++ ys) ∧ H.length ≤ H'.length ∧ (∀ k o, rowOf v ≠ some k → H[k]? = some o → H'[k]? = some o) ∧ (∀ k, rowOf v' = some k → rowOf v = some k ∨ H.length ≤ k) := by
  have hn : ys.length ≠ 0 := by simpa using hy
  have hcs : (bcells ys).all AV.isCell = true := by simp [bcells]
  rcases h with ⟨rfl, rfl⟩ | ⟨k, g, rfl, h0, hr⟩
  · have hlim : ys.length * 2 ≤ LIM := by simp at hl; unfold LIM; omega
    refine ⟨H ++ [⟨bcells ys, 0, true⟩], .ms H.length 0 ys.length 1 0, ?_, .inr ⟨_, _, rfl, by simp; omega, by simp⟩, by simp, fun k o _ hk => app_get hk, fun k hk => by cases hk; exact .inr (Nat.le_refl _)⟩
    unfold aappend
    rw [if_neg hn]
    simp [hcs, hlim, hnew]
  · have hkl := (List.getElem?_eq_some_iff.1 hr).1
    have ht : List.take s.length (bcells s) = bcells s := List.take_of_length_le (by simp [bcells])
    have hlim : (s.length + ys.length) * 2 ≤ LIM := by unfold LIM; omega
    refine ⟨H.set k ⟨bcells (s ++ ys), g + 1, true⟩, .ms k 0 (s.length + ys.length) 1 (g + 1), ?_, .inr ⟨k, g + 1, by simp, by simp; omega, by simp [hkl]⟩, by simp, fun k' o hk' hr' => ?_, fun k' hk' => .inl hk'⟩
    · unfold aappend
      rw [if_neg hn]
      simp [hcs, hlim, hr, bcells_len, ht]
      rw [bcells_app]
    · have : k ≠ k' := fun e => hk' (by rw [e]; rfl)
      rw [List.getElem?_set_ne this, hr']
theorem lineR_split {most : Nat} : ∀ {s p x rest : List UInt8}, lineR most p s = .ok x rest → p ++ s = x ++ 13 :: 10 :: rest
  | [], p, x, rest, h => by cases h
  | c :: s, p, x, rest, h => by
    rw [lineR_c] at h
    by_cases h10 : c = 10
    · rw [if_pos h10] at h; cases h
    rw [if_neg h10] at h
    by_cases h13 : c = 13
    · rw [if_pos h13] at h
      cases s with
      | nil => cases h
      | cons e s =>
        simp only at h
        by_cases he : e = 10
        · rw [if_pos he] at h; cases h; rw [h13, he]
        · rw [if_neg he] at h; cases h
    rw [if_neg h13] at h
    by_cases hm : p.length = most
    · rw [if_pos hm] at h; cases h
    rw [if_neg hm] at h
    have := lineR_split h
    simpa using this
abbrev lmRaw (l : Lims) : AObj := ⟨[.int .i64 l.line, .int .i64 l.head, .int .i64 l.fields, .int .i64 l.body], 0, true⟩
abbrev rs0 : AObj := ⟨[nls, .int .i64 0, .int .i64 0, .int .i64 0, .bool false], 0, true⟩
/-- What Read returns. -/
def resV : Res → AV
  | .opn => .agg [nls, .int .i64 0, .int .i64 0, .int .i64 0, .bool true]
  | .bad st a => .agg [nls, .int .i64 0, .int .i64 st, .int .i64 a, .bool false]
  | .ok data n => .agg [byV data, .int .i64 n, .int .i64 0, .int .i64 0, .bool false]
def rdPost (r : Res) (x : XR) : Prop := ∃ e' H' cells H'', x = some (.ret, e', H') ∧ e'.get 6 = .ptr 1 0 0 ∧ hget H' 1 0 5 0 = some cells ∧ snap 12 H' (.agg cells) = some (resV r, H'')
theorem rdPost_of {r : Res} {x : XR} {H : Heap} {cells : List AV} (hx : ∃ e', x = some (.ret, e', H.set 1 ⟨cells, 0, true⟩) ∧ e'.get 6 = .ptr 1 0 0) (h1 : H[1]? = some rs0) (hc : cells.length = 5) (hs : ∃ H'', snap 12 (H.set 1 ⟨cells, 0, true⟩) (.agg cells) = some (resV r, H'')) : rdPost r x := by
  obtain ⟨H'', hs⟩ := hs
  obtain ⟨e', hx, h6⟩ := hx
  refine ⟨e', _, cells, H'', hx, h6, ?_, hs⟩
  have ht : cells.take 5 = cells := List.take_of_length_le (by omega)
  rw [hget_sa h1]
  simp [hc, ht]
structure LimOK (l : Lims) (L : Lm) : Prop where
  line : ∀ H, C T 23 [.int .i64 l.line] H = some (.int .i64 L.line, H)
  head : ∀ H, C T 23 [.int .i64 l.head] H = some (.int .i64 L.head, H)
  fields : ∀ H, C T 23 [.int .i64 l.fields] H = some (.int .i64 L.fields, H)
  body : ∀ H, C T 23 [.int .i64 l.body] H = some (.int .i64 L.body, H)
theorem limOK (l : Lims) : LimOK l l.lm := ⟨limit_ok l.line, limit_ok l.head, limit_ok l.fields, limit_ok l.body⟩
set_option maxHeartbeats 2000000 in
theorem trl_loop {l : Lims} {L : Lm} (hL : LimOK l L) : ∀ (k : Nat) (u s W : List UInt8) (H : Heap) (vo : AV) (out : List UInt8) (f b : Nat), s.length < k → W = u ++ s → W.length < 10000 → H[0]? = some (lmRaw l) → H[1]? = some rs0 → Own H vo out → rowOf vo ≠ some 1 → f ≤ u.length → b ≤ u.length →
    rdPost (trailR L.lim out k u.length f b s) (XL T [0, 1, 5, 6, 7, 14, 15] L11_0 [(0, slV W), (1, .int .i64 u.length), (5, .ptr 0 0 0), (6, .ptr 1 0 0), (7, vo), (14, .int .i64 f), (15, .int .i64 b)] H)
  | 0, u, s, W, H, vo, out, f, b, hk, _, _, _, _, _, _, _, _ => absurd hk (Nat.not_lt_zero _)
  | k + 1, u, s, W, H, vo, out, f, b, hk, hW, hWl, h0, h1, ho, hr1, hf, hb => by
    have hus : u.length + s.length < 10000 := by rw [hW] at hWl; simpa using hWl
    obtain ⟨ll, hln, hq⟩ := line_ok u s L.line (by omega)
    rw [← hW] at hln
    have i1 := hL.line
    have i2 := hL.head
    have i3 := hL.fields
    have hll : L.lim.line = L.line := rfl
    have hlf : L.lim.fields = L.fields := rfl
    have hlh : L.lim.head = L.head := rfl
    have hlp : L.lim.field = fldOK := rfl
    have ih := trl_loop hL k
    rw [XL_eq, trailR, hll, hlf, hlh, hlp]
    generalize XL T [0, 1, 5, 6, 7, 14, 15] L11_0 = lp at *
    cases hlr : lineR L.line [] s with
    | opn =>
      rw [hlr] at hq
      obtain ⟨x, rfl⟩ := hq
      refine rdPost_of (H := H) (cells := [nls, .int .i64 0, .int .i64 0, .int .i64 0, .bool true]) ?_ h1 rfl ⟨_, rfl⟩
      simp (disch := omega) [L11_0, hget_at h0, hset_at h1, i1, hln]
    | bad j =>
      rw [hlr] at hq
      obtain rfl := hq
      refine rdPost_of (H := H) (cells := [nls, .int .i64 0, .int .i64 400, .int .i64 (u.length + j : Nat), .bool false]) ?_ h1 rfl ⟨_, rfl⟩
      simp (disch := omega) [L11_0, hget_at h0, hset_at h1, i1, hln]
    | long j =>
      rw [hlr] at hq
      obtain rfl := hq
      refine rdPost_of (H := H) (cells := [nls, .int .i64 0, .int .i64 431, .int .i64 (u.length + j : Nat), .bool false]) ?_ h1 rfl ⟨_, rfl⟩
      simp (disch := omega) [L11_0, hget_at h0, hset_at h1, i1, hln]
    | ok x rest =>
      rw [hlr] at hq
      obtain rfl := hq
      have hsp := lineR_split hlr
      have hlen := lineR_len hlr
      simp only [List.nil_append, List.length_nil, Nat.zero_add] at hsp hlen
      dsimp only
      by_cases hx : x = []
      · rw [if_pos hx]
        subst hx
        have hoc := ho.cell
        have hoc2 := cells_cell hoc
        refine rdPost_of (H := H) (cells := [vo, .int .i64 (u.length + 2 : Nat), .int .i64 0, .int .i64 0, .bool false]) ?_ h1 rfl ?_
        · simp (disch := omega) [L11_0, hget_at h0, hset_at h1, i1, hln, hoc, hoc2]
        · have hd : OwnD (H.set 1 ⟨[vo, .int .i64 (u.length + 2 : Nat), .int .i64 0, .int .i64 0, .bool false], 0, true⟩) vo out := (ho.mono fun k o hk hr => set_ne (fun e => hr1 (by rw [← e]; exact hk)) hr).d
          have hsn := snap_own hd 9
          refine ⟨frz (H.set 1 ⟨[vo, .int .i64 (u.length + 2 : Nat), .int .i64 0, .int .i64 0, .bool false], 0, true⟩) vo, ?_⟩
          rw [snap_agg, mapS_cons, hsn]
          rfl
      rw [if_neg hx]
      have hx' : (x == []) = false := by simpa using hx
      by_cases hov : f + 1 > L.fields ∨ b + (x.length + 2) > L.head
      · rw [if_pos hov]
        refine rdPost_of (H := H) (cells := [nls, .int .i64 0, .int .i64 431, .int .i64 (u.length + x.length + 1 : Nat), .bool false]) ?_ h1 rfl ⟨_, rfl⟩
        have esub : (u.length : Int) + x.length + 2 - 1 = u.length + x.length + 1 := by omega
        by_cases ho1 : f + 1 > L.fields
        · have g1 : (L.fields : Int) < (f : Int) + 1 := by omega
          simp (disch := omega) [L11_0, hget_at h0, hset_at h1, i1, i3, hln, hx', g1, esub]
        · have g1 : ¬ (L.fields : Int) < (f : Int) + 1 := by omega
          have g2 : (L.head : Int) < (b : Int) + x.length + 2 := by omega
          simp (disch := omega) [L11_0, hget_at h0, hset_at h1, i1, i2, i3, hln, hx', g1, g2, esub]
      · rw [if_neg hov]
        have g1 : ¬ (L.fields : Int) < (f : Int) + 1 := by omega
        have g2 : ¬ (L.head : Int) < (b : Int) + x.length + 2 := by omega
        have esub : (u.length : Int) + x.length + 2 - 1 = u.length + x.length + 1 := by omega
        obtain ⟨a1, a2, n, p1, p2, p3⟩ := rfparse_ok x (by omega)
        cases hfo : fldOK x with
        | false =>
          have hn := p3 hfo
          rw [if_neg (by simp)]
          refine rdPost_of (H := H ++ [⟨[.str a1, .str a2], 0, true⟩]) (cells := [nls, .int .i64 0, .int .i64 400, .int .i64 (u.length + x.length + 1 : Nat), .bool false]) ?_ (app_get h1) rfl ⟨_, rfl⟩
          simp (disch := omega) [L11_0, hget_at h0, hset_at (app_get h1), hset_tail0, hs0, i1, i2, i3, hln, hx', g1, g2, esub, p1]
        | true =>
          have hn := p2 hfo
          subst hn
          rw [if_pos rfl]
          have ih := ih (u ++ x ++ [13, 10]) rest W (H ++ [⟨[.str a1, .str a2], 0, true⟩]) vo out (f + 1) (b + (x.length + 2)) (by omega) (by rw [hW, hsp]; simp) hWl (app_get h0) (app_get h1) (ho.mono fun _ _ _ h => app_get h) hr1 (by simp; omega) (by simp; omega)
          have el : (u ++ x ++ [13, 10]).length = u.length + x.length + 2 := by simp; omega
          have e1 : ((u.length + x.length + 2 : Nat) : Int) = u.length + x.length + 2 := by omega
          have e2 : ((b + (x.length + 2) : Nat) : Int) = b + x.length + 2 := by omega
          have e3 : ((f + 1 : Nat) : Int) = f + 1 := by omega
          rw [el, e1, e2, e3] at ih
          simp (disch := omega) [L11_0, hget_at h0, hset_tail0, hs0, i1, i2, i3, hln, hx', g1, g2, p1]
          exact ih
end Go.Eng.S
