/- The reference reads a longer path. No condition. -/
import Derived.Test.YtdffpjbjpfolfaaGreatDoorGr
namespace Go.Eng.S
open Go Go.Eng
theorem rparse_big (s : Seg) (hs : s.length < 2000000) : ∃ y, (∀ H, C T 8 [.str s] H = some (y, H)) ∧ RParV (rparS s) y := by
  suffices h : ∃ y, C T 8 [.str s] [] = some (y, []) ∧ RParV (rparS s) y by
    obtain ⟨y, h1, h2⟩ := h
    exact ⟨y, fun H => anyH fd8 rfl rfl h1 H, h2⟩
  rw [q8]
  unfold rparS
  cases hb : sl1 s with
  | false =>
    refine ⟨.tup [.agg [nls, .bool false], .int .i64 0], ?_, rfl⟩
    cases s with
    | nil => simp [d8, hset, hget]
    | cons c r =>
      have hc : ¬ c = 47 := by simpa [sl1] using hb
      have hcb : ((c.toNat : Int) != 47) = true := by
        have := u8_eqlit c 47 47 rfl
        simp only [bne, this]
        simpa using hc
      simp only [List.length_cons] at hs
      simp (disch := omega) [d8, hset, hget, hcb]
  | true =>
    simp only [if_true]
    obtain ⟨c, r, rfl⟩ : ∃ c r, s = c :: r := by
      cases s with
      | nil => cases hb
      | cons c r => exact ⟨c, r, rfl⟩
    have hc : c = 47 := by simpa [sl1] using hb
    subst hc
    have hl1 := rsc_loop (47 :: r) (by omega) (47 :: r).length 0 (by omega)
    simp only [List.drop_zero, Int.natCast_zero] at hl1
    obtain ⟨hl1, hl2⟩ := hl1
    have hraw := rraw_ok (47 :: r) (by omega)
    have hrv : rawV (47 :: r) = slS (rawL (47 :: r)) := if_pos hb
    rw [hrv] at hraw
    have hll := lens_raw (47 :: r)
    have hd := rd_loop (rawL (47 :: r)) (by omega) (rawL (47 :: r)).length 0 1 [] [] [pRow nls false] nls nls (by omega) (by simp) (by simp) (by simp only [List.drop_zero]; omega) rfl (.inl ⟨rfl, rfl⟩) (.inl ⟨rfl, rfl⟩) (fun j h => by cases h)
    simp only [List.drop_zero, Int.natCast_zero, Int.natCast_one] at hd
    have hlen0 : ((r.length : Int) + 1) > 0 := by omega
    generalize hS : (47 :: r : Seg) = S at *
    have hidx : S[0]? = some 47 := by rw [← hS]; rfl
    have hne : (S == []) = false := by rw [← hS]; rfl
    have hlS : 0 < S.length := by rw [← hS]; simp
    have hidx' : ∀ h : 0 < S.length, S[0] = 47 := by
      intro h
      rw [List.getElem?_eq_getElem h] at hidx
      exact Option.some.inj hidx
    cases hrs : rscan 0 S with
    | some i =>
      rw [hrs] at hl1
      obtain ⟨e', x1, x2, x3⟩ := hl1
      refine ⟨_, ?_, rfl⟩
      have hg : hget [pRow nls false] 0 0 2 0 = some [nls, .bool false] := rfl
      simp (disch := omega) [d8, hne, hidx', x1, x2, x3, hg]
    | none =>
      rw [hrs] at hl1
      obtain ⟨e', x1, x2⟩ := hl1
      have x3 := hl2 hrs e' _ x1
      cases hrd : rdcd (rawL S) 1 with
      | error i =>
        rw [hrd] at hd
        obtain ⟨e2, H2, y1, y2, y3, y4⟩ := hd
        refine ⟨_, ?_, rfl⟩
        simp (disch := omega) [d8, hne, hidx', x1, x2, x3, hraw, y1, y2, y3, hget_at y4]
      | ok p =>
        obtain ⟨l, ats⟩ := p
        rw [hrd] at hd
        obtain ⟨e2, H2, v, w, y1, y2, y3, y4, y5, y6, y7, y8⟩ := hd
        simp only [List.nil_append] at y6 y7
        obtain ⟨hle1, hle2⟩ := rdcd_len _ _ _ _ hrd
        obtain ⟨z, H3, z1, z2, z3, z4⟩ := rclean_own y6 (by omega)
        have h03 : H3[0]? = some (pRow nls false) := z4 _ _ (fun e => by have := (y6.lt e).2; omega) y5
        have hnew := hset_new (H := H3) nls (.bool false)
        have h04 : ∀ o : AObj, (H3 ++ [o])[0]? = some (pRow nls false) := fun o => app_get h03
        dsimp only
        cases hcl : clnS [] l 0 with
        | ok st =>
          rw [hcl] at z2
          obtain ⟨b, rfl, hb2⟩ := z2
          refine ⟨.tup [.agg [b, .bool (dirR false l)], .int .i64 (-1)], ?_, b, rfl, hb2⟩
          have hbc := hb2.cell
          have hsb := fun k H => snap_names hb2 k H
          have hg2 := hget_new (H := H3) b (.bool (dirR false l))
          have hs2 := hset_at (h04 ⟨[b, .bool (dirR false l)], 0, true, .no⟩) 0 [b, .bool (dirR false l)]
          have hg3 := hget_at (set_self (x := pRow b (dirR false l)) (h04 ⟨[b, .bool (dirR false l)], 0, true, .no⟩)) 0 2
          simp (disch := omega) [d8, hne, hidx', x1, x2, x3, hraw, y1, y2, y3, y4, z1, hnew, hbc, hg2, hs2, hg3, hsb]
        | error k =>
          rw [hcl] at z2
          obtain rfl := z2
          refine ⟨_, ?_, rfl⟩
          have hk := cln_err _ _ _ _ hcl
          have hka : k < ats.length := by omega
          have y9 : OwnC H3 w (ints ats) := y7.mono fun j o hj _ hr => z4 j o (fun e => y8 j e hj) hr
          have hil : (ints ats).length = ats.length := by simp [ints]
          rcases y9 with ⟨e, _⟩ | ⟨q, g, cs, rfl, q1, q2, q3, q4⟩
          · have : ats.length = 0 := by rw [← hil, e]; rfl
            omega
          · rw [hil] at q3 q4
            have hcs : (cs.drop k).take 1 = [.int .i64 (ats.getD k 0 : Nat)] := by
              have h6 : (cs.take ats.length)[k]? = cs[k]? := by rw [List.getElem?_take, if_pos hka]
              have h7 : cs[k]? = some (.int .i64 (ats.getD k 0 : Nat)) := by
                rw [← h6, q3]
                unfold ints
                rw [List.getElem?_map, List.getElem?_eq_getElem hka]
                simp [List.getD, hka]
              obtain ⟨hlt, he⟩ := List.getElem?_eq_some_iff.1 h7
              rw [List.drop_eq_getElem_cons hlt, he]
              rfl
            have g1 := hget_at (app_get (G := [⟨[nls, .bool false], 0, true, .no⟩]) q2) k 1
            have hs2 := hset_at (h04 ⟨[nls, .bool false], 0, true, .no⟩) 0 [nls, .bool false]
            have g2 := hget_at (set_ne (x := pRow nls false) (show q ≠ 0 by omega) (app_get (G := [⟨[nls, .bool false], 0, true, .no⟩]) q2)) k 1
            have hg3 := hget_at (set_self (x := pRow nls false) (h04 ⟨[nls, .bool false], 0, true, .no⟩)) 0 2
            have hkc : k + 1 ≤ cs.length := by omega
            rw [if_pos hkc, hcs] at g1 g2
            rw [hil] at y4
            have hai : ∀ (n : Nat) (q : IntKind) (x : Int), aveq (n + 1) (.int q x) (.int q x) = true := by intro n q x; simp [aveq]
            have hkI : (k : Int) < (ats.length : Int) := by omega
            generalize ats.getD k 0 = A at *
            simp (disch := omega) [d8, hne, hidx', x1, x2, x3, hraw, y1, y2, y3, y4, z1, hnew, g1, g2, hs2, hg3, hkI, hai]
end Go.Eng.S
