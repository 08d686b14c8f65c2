/- The reference's path: its second loop, and all. No condition. -/
import Derived.Test.YtdffpjbjpfolfaaGreatDoorGq
namespace Go.Eng.S
open Go Go.Eng
/-- What is decoded, or nothing. -/
def dec0 (r : Seg) : Seg := match pds 0 0 r with
  | .ok d => d
  | .error _ => []
def rdcd : List Seg → Nat → Except Nat (List Seg × List Nat)
  | [], _ => .ok ([], [])
  | r :: rs, n => if (dec0 r).any isSL = true then .error n else (rdcd rs (n + r.length + 1)).map fun p => (dec0 r :: p.1, n :: p.2)
def ints (l : List Nat) : List AV := l.map fun (n : Nat) => .int .i64 (n : Int)
theorem dec0_len (r : Seg) : (dec0 r).length ≤ r.length := by
  unfold dec0
  cases h : pds 0 0 r with
  | ok d => exact pds_len _ _ _ _ h
  | error i => exact Nat.zero_le _
theorem rdecode_fst (s : Seg) (hs : s.length < 100000000) : ∃ k : Int, ∀ H, C T 27 [.str s] H = some (.tup [.str (dec0 s), .int .i64 k], H) := by
  unfold dec0
  cases h : pds 0 0 s with
  | ok d => exact ⟨-1, fun H => by rw [rdecode_ok s hs, h]; rfl⟩
  | error i => exact ⟨i, fun H => by rw [rdecode_ok s hs, h]; rfl⟩
theorem in47 (s : Seg) (hs : s.length < 1000000000) (H : Heap) : C T 28 [.int .u8 47, .str s] H = some (.bool (decide ((47 : UInt8) ∈ s)), H) := in_ok 47 s (by unfold LIM; omega) H
theorem in92 (s : Seg) (hs : s.length < 1000000000) (H : Heap) : C T 28 [.int .u8 92, .str s] H = some (.bool (decide ((92 : UInt8) ∈ s)), H) := in_ok 92 s (by unfold LIM; omega) H
theorem in0 (s : Seg) (hs : s.length < 1000000000) (H : Heap) : C T 28 [.int .u8 0, .str s] H = some (.bool (decide ((0 : UInt8) ∈ s)), H) := in_ok 0 s (by unfold LIM; omega) H
def rdP (out : List Seg) (ats : List Nat) (r : Except Nat (List Seg × List Nat)) (x : XR) : Prop := match r with
  | .ok (l, a) => ∃ e' H' v w, x = some (.exit 2, e', H') ∧ e'.get 2 = .ptr 0 0 0 ∧ e'.get 6 = v ∧ e'.get 7 = w ∧ H'[0]? = some (pRow nls false) ∧ OwnC H' v (scells (out ++ l)) ∧ OwnC H' w (ints (ats ++ a)) ∧ ∀ j, rowOf v = some j → rowOf w ≠ some j
  | .error j => ∃ e' H', x = some (.ret, e', H') ∧ e'.get 2 = .ptr 0 0 0 ∧ e'.get 3 = .int .i64 j ∧ H'[0]? = some (pRow nls false)
theorem rd_loop (raw : List Seg) (hl : raw.length < 10000000) : ∀ (k i n : Nat) (out : List Seg) (ats : List Nat) (H : Heap) (v w : AV), i + k = raw.length → out.length ≤ i → ats.length ≤ i → n + lens (raw.drop i) + k < 50000000 →
    H[0]? = some (pRow nls false) → OwnC H v (scells out) → OwnC H w (ints ats) → (∀ j, rowOf v = some j → rowOf w ≠ some j) →
    rdP out ats (rdcd (raw.drop i) n) (XL T [2, 5, 6, 7, 8, 9] L8_0 [(2, .ptr 0 0 0), (5, slS raw), (6, v), (7, w), (8, .int .i64 n), (9, .int .i64 i)] H)
  | 0, i, n, out, ats, H, v, w, hk, ho, ha, hn, h0, hO, hA, hd => by
    have hdr : raw.drop i = [] := List.drop_eq_nil_of_le (by omega)
    rw [hdr, XL_eq]
    have hx : ∃ e', seqK (X T L8_0 (Env.keep [2, 5, 6, 7, 8, 9] [(2, .ptr 0 0 0), (5, slS raw), (6, v), (7, w), (8, .int .i64 n), (9, .int .i64 i)]) H) (fun e' H' => XL T [2, 5, 6, 7, 8, 9] L8_0 (Env.keep [2, 5, 6, 7, 8, 9] e') H') = some (.exit 2, e', H) ∧ e'.get 2 = .ptr 0 0 0 ∧ e'.get 6 = v ∧ e'.get 7 = w := by
      simp (disch := omega) [L8_0]
    obtain ⟨e', x1, x2, x3, x4⟩ := hx
    exact ⟨e', H, v, w, x1, x2, x3, x4, h0, by simpa using hO, by simpa using hA, hd⟩
  | k + 1, i, n, out, ats, H, v, w, hk, ho, ha, hn, h0, hO, hA, hd => by
    have hlt : i < raw.length := by omega
    have hdr : raw.drop i = raw[i] :: raw.drop (i + 1) := List.drop_eq_getElem_cons hlt
    rw [hdr, lens_cons] at hn
    have hsd := sc_drop raw i hlt
    obtain ⟨q, hdc⟩ := rdecode_fst raw[i] (by omega)
    have hdl := dec0_len raw[i]
    rw [hdr, XL_eq, rdcd]
    have ih := rd_loop raw hl k (i + 1) (n + raw[i].length + 1)
    push_cast at ih
    have i1 := in47 (dec0 raw[i]) (by omega)
    have i2 := in92 (dec0 raw[i]) (by omega)
    have i3 := in0 (dec0 raw[i]) (by omega)
    have ham := any_mem (dec0 raw[i])
    generalize XL T [2, 5, 6, 7, 8, 9] L8_0 = lp at *
    generalize hB1 : decide ((47 : UInt8) ∈ dec0 raw[i]) = B1 at *
    generalize hB2 : decide ((92 : UInt8) ∈ dec0 raw[i]) = B2 at *
    generalize hB3 : decide ((0 : UInt8) ∈ dec0 raw[i]) = B3 at *
    have hset0 : hset H 0 0 0 [nls, .bool false] = some (H.set 0 (pRow nls false)) := by rw [hset_at h0]; rfl
    have hs0 : (H.set 0 (pRow nls false))[0]? = some (pRow nls false) := set_self h0
    by_cases hbad : (B1 || B2 || B3) = true
    · rw [ham, if_pos hbad]
      cases B1
      · cases B2
        · cases B3
          · cases hbad
          · simp (disch := omega) [L8_0, hsd, hdc, i1, i2, i3, hset0, rdP]
            exact ⟨_, _, ⟨rfl, rfl⟩, rfl, rfl, hs0⟩
        · simp (disch := omega) [L8_0, hsd, hdc, i1, i2, hset0, rdP]
          exact ⟨_, _, ⟨rfl, rfl⟩, rfl, rfl, hs0⟩
      · simp (disch := omega) [L8_0, hsd, hdc, i1, hset0, rdP]
        exact ⟨_, _, ⟨rfl, rfl⟩, rfl, rfl, hs0⟩
    · have hbf : (B1 || B2 || B3) = false := by simpa using hbad
      rw [ham, if_neg hbad]
      simp only [Bool.or_eq_false_iff] at hbf
      obtain ⟨⟨rfl, rfl⟩, rfl⟩ := hbf
      have hH : 1 ≤ H.length := (List.getElem?_eq_some_iff.1 h0).1
      obtain ⟨H1, v', p1, p2, p3, p4, p5⟩ := hO.append 16 (by omega) (.str (dec0 raw[i])) rfl (by rw [sc_len]; omega) hH
      have hA1 : OwnC H1 w (ints ats) := hA.mono fun j o hj h1 hr => p4 j o (fun e => hd j e hj) hr
      obtain ⟨H2, w', q1, q2, q3, q4, q5⟩ := hA1.append 8 (by omega) (.int .i64 n) rfl (by simp [ints]; omega) (by omega)
      have hwv : ∀ j, rowOf v' = some j → rowOf w ≠ some j := by
        intro j hj hw
        rcases p5 j hj with e | e
        · exact hd j e hw
        · have := (hA.lt hw).1; omega
      have hO2 : OwnC H2 v' (scells out ++ [.str (dec0 raw[i])]) := p2.mono fun j o hj h1 hr => q4 j o (hwv j hj) hr
      have h02 : H2[0]? = some (pRow nls false) := q4 _ _ (fun e => by have := (hA1.lt e).2; omega) (p4 _ _ (fun e => by have := (hO.lt e).2; omega) h0)
      have hd2 : ∀ j, rowOf v' = some j → rowOf w' ≠ some j := by
        intro j hj hw
        rcases q5 j hw with e | e
        · exact hwv j hj e
        · have := (p2.lt hj).1; omega
      have ih := ih (out ++ [dec0 raw[i]]) (ats ++ [n]) H2 v' w' (by omega) (by simp; omega) (by simp; omega) (by omega) h02 (by rw [sc_app]; exact hO2) (by simp only [ints, List.map_append] at q2 ⊢; exact q2) hd2
      simp (disch := omega) [L8_0, hsd, hdc, i1, i2, i3, p1, q1]
      cases hr : rdcd (raw.drop (i + 1)) (n + raw[i].length + 1) with
      | ok p =>
        obtain ⟨l, a⟩ := p
        rw [hr] at ih
        simpa [rdP, Except.map] using ih
      | error j =>
        rw [hr] at ih
        simpa [rdP, Except.map] using ih
def rparS (s : Seg) : Except Nat (List Seg × Bool) := if sl1 s = true then (match rscan 0 s with
  | some i => .error i
  | none => match rdcd (rawL s) 1 with
    | .error i => .error i
    | .ok (l, ats) => match clnS [] l 0 with
      | .ok st => .ok (st, dirR false l)
      | .error k => .error (ats.getD k 0)) else .error 0
def RParV (r : Except Nat (List Seg × Bool)) (y : AV) : Prop := match r with
  | .ok (st, d) => ∃ a, y = .tup [.agg [a, .bool d], .int .i64 (-1)] ∧ Names a st
  | .error i => y = .tup [.agg [nls, .bool false], .int .i64 i]
theorem rdcd_len : ∀ (raw : List Seg) (n : Nat) (l : List Seg) (a : List Nat), rdcd raw n = .ok (l, a) → l.length = raw.length ∧ a.length = raw.length
  | [], n, l, a, h => by cases h; exact ⟨rfl, rfl⟩
  | r :: rs, n, l, a, h => by
    rw [rdcd] at h
    split at h
    · cases h
    · cases hr : rdcd rs (n + r.length + 1) with
      | error j => rw [hr] at h; cases h
      | ok p =>
        obtain ⟨l', a'⟩ := p
        rw [hr] at h
        cases h
        have := rdcd_len rs _ l' a' hr
        simp [this]
theorem freeze_set (H : Heap) (k j : Nat) : ∃ f : AObj → AObj, (freeze H k)[j]? = (H[j]?).map f ∧ (j ≠ k → f = id) ∧ ∀ o, (f o).cells = o.cells ∧ (f o).gen = o.gen := by
  unfold freeze
  split
  · rename_i o ho
    by_cases e : j = k
    · subst e
      refine ⟨fun o => { o with live := false }, ?_, fun h => absurd rfl h, fun o => ⟨rfl, rfl⟩⟩
      rw [set_self ho, ho]; rfl
    · refine ⟨id, ?_, fun _ => rfl, fun o => ⟨rfl, rfl⟩⟩
      rw [List.getElem?_set_ne (fun h => e h.symm)]; simp
  · exact ⟨id, by simp, fun _ => rfl, fun o => ⟨rfl, rfl⟩⟩
theorem rclean_own {H : Heap} {v : AV} {l : List Seg} (h : OwnC H v (scells l)) (hl : l.length < 10000000) : ∃ y H', C T 29 [v] H = some (y, H') ∧ WalkV (dirR false l) (clnS [] l 0) y ∧ H'.length = H.length ∧ ∀ (k : Nat) (o : AObj), rowOf v ≠ some k → H[k]? = some o → H'[k]? = some o := by
  rcases h with ⟨hc, rfl⟩ | ⟨k, g, cs, rfl, h2, h3, h4, h5⟩
  · have hl0 : l = [] := by simpa [scells] using hc
    subst hl0
    obtain ⟨y, hy, hv⟩ := rclean_ok (a := nls) (l := []) (.inl ⟨rfl, rfl⟩) (by simp)
    exact ⟨y, H, hy H, hv, rfl, fun _ _ _ h => h⟩
  · obtain ⟨y, hy, hv⟩ := rclean_ok (a := slS l) (l := l) (.inr rfl) (by omega)
    rw [sc_len] at h4 h5
    have hg : hget H k 0 (l.length * 1) g = some (scells l) := by rw [hget_at h3]; simp [h5, h4]
    refine ⟨y, freeze H k, viaS fd29 rfl (args' := [slS l]) ?_ ?_ (hy []), hv, ?_, fun j o hj hr => freeze_get hr (fun e => hj (by rw [e]; rfl))⟩
    · have e1 : snap 64 H (.ms k 0 (scells l).length 1 g) = some (slS l, freeze H k) := by
        rw [snap_ms, sc_len, hg]
        simp only [mapS_sc]
      simp [e1]
    · have e2 := snap_slS 63 [] false l l.length
      simp [e2]
    · unfold freeze; split <;> simp
theorem rparse_ok (s : Seg) (hs : s.length < 1000000) : ∃ y, (∀ H, C T 8 [.str s] H = some (y, H)) ∧ RParV (rparS s) y := by
  suffices h : ∃ y, C T 8 [.str s] [] = some (y, []) ∧ RParV (rparS s) y by
    obtain ⟨y, h1, h2⟩ := h
    exact ⟨y, fun H => anyH fd8 rfl rfl h1 H, h2⟩
  rw [q8]
  unfold rparS
  cases hb : sl1 s with
  | false =>
    refine ⟨.tup [.agg [nls, .bool false], .int .i64 0], ?_, rfl⟩
    cases s with
    | nil => simp [d8, hset, hget]
    | cons c r =>
      have hc : ¬ c = 47 := by simpa [sl1] using hb
      have hcb : ((c.toNat : Int) != 47) = true := by
        have := u8_eqlit c 47 47 rfl
        simp only [bne, this]
        simpa using hc
      simp only [List.length_cons] at hs
      simp (disch := omega) [d8, hset, hget, hcb]
  | true =>
    simp only [if_true]
    obtain ⟨c, r, rfl⟩ : ∃ c r, s = c :: r := by
      cases s with
      | nil => cases hb
      | cons c r => exact ⟨c, r, rfl⟩
    have hc : c = 47 := by simpa [sl1] using hb
    subst hc
    have hl1 := rsc_loop (47 :: r) (by omega) (47 :: r).length 0 (by omega)
    simp only [List.drop_zero, Int.natCast_zero] at hl1
    obtain ⟨hl1, hl2⟩ := hl1
    have hraw := rraw_ok (47 :: r) (by omega)
    have hrv : rawV (47 :: r) = slS (rawL (47 :: r)) := if_pos hb
    rw [hrv] at hraw
    have hll := lens_raw (47 :: r)
    have hd := rd_loop (rawL (47 :: r)) (by omega) (rawL (47 :: r)).length 0 1 [] [] [pRow nls false] nls nls (by omega) (by simp) (by simp) (by simp only [List.drop_zero]; omega) rfl (.inl ⟨rfl, rfl⟩) (.inl ⟨rfl, rfl⟩) (fun j h => by cases h)
    simp only [List.drop_zero, Int.natCast_zero, Int.natCast_one] at hd
    have hlen0 : ((r.length : Int) + 1) > 0 := by omega
    generalize hS : (47 :: r : Seg) = S at *
    have hidx : S[0]? = some 47 := by rw [← hS]; rfl
    have hne : (S == []) = false := by rw [← hS]; rfl
    have hlS : 0 < S.length := by rw [← hS]; simp
    have hidx' : ∀ h : 0 < S.length, S[0] = 47 := by
      intro h
      rw [List.getElem?_eq_getElem h] at hidx
      exact Option.some.inj hidx
    cases hrs : rscan 0 S with
    | some i =>
      rw [hrs] at hl1
      obtain ⟨e', x1, x2, x3⟩ := hl1
      refine ⟨_, ?_, rfl⟩
      have hg : hget [pRow nls false] 0 0 2 0 = some [nls, .bool false] := rfl
      simp (disch := omega) [d8, hne, hidx', x1, x2, x3, hg]
    | none =>
      rw [hrs] at hl1
      obtain ⟨e', x1, x2⟩ := hl1
      have x3 := hl2 hrs e' _ x1
      cases hrd : rdcd (rawL S) 1 with
      | error i =>
        rw [hrd] at hd
        obtain ⟨e2, H2, y1, y2, y3, y4⟩ := hd
        refine ⟨_, ?_, rfl⟩
        simp (disch := omega) [d8, hne, hidx', x1, x2, x3, hraw, y1, y2, y3, hget_at y4]
      | ok p =>
        obtain ⟨l, ats⟩ := p
        rw [hrd] at hd
        obtain ⟨e2, H2, v, w, y1, y2, y3, y4, y5, y6, y7, y8⟩ := hd
        simp only [List.nil_append] at y6 y7
        obtain ⟨hle1, hle2⟩ := rdcd_len _ _ _ _ hrd
        obtain ⟨z, H3, z1, z2, z3, z4⟩ := rclean_own y6 (by omega)
        have h03 : H3[0]? = some (pRow nls false) := z4 _ _ (fun e => by have := (y6.lt e).2; omega) y5
        have hnew := hset_new (H := H3) nls (.bool false)
        have h04 : ∀ o : AObj, (H3 ++ [o])[0]? = some (pRow nls false) := fun o => app_get h03
        dsimp only
        cases hcl : clnS [] l 0 with
        | ok st =>
          rw [hcl] at z2
          obtain ⟨b, rfl, hb2⟩ := z2
          refine ⟨.tup [.agg [b, .bool (dirR false l)], .int .i64 (-1)], ?_, b, rfl, hb2⟩
          have hbc := hb2.cell
          have hsb := fun k H => snap_names hb2 k H
          have hg2 := hget_new (H := H3) b (.bool (dirR false l))
          have hs2 := hset_at (h04 ⟨[b, .bool (dirR false l)], 0, true, .no⟩) 0 [b, .bool (dirR false l)]
          have hg3 := hget_at (set_self (x := pRow b (dirR false l)) (h04 ⟨[b, .bool (dirR false l)], 0, true, .no⟩)) 0 2
          simp (disch := omega) [d8, hne, hidx', x1, x2, x3, hraw, y1, y2, y3, y4, z1, hnew, hbc, hg2, hs2, hg3, hsb]
        | error k =>
          rw [hcl] at z2
          obtain rfl := z2
          refine ⟨_, ?_, rfl⟩
          have hk := cln_err _ _ _ _ hcl
          have hka : k < ats.length := by omega
          have y9 : OwnC H3 w (ints ats) := y7.mono fun j o hj _ hr => z4 j o (fun e => y8 j e hj) hr
          have hil : (ints ats).length = ats.length := by simp [ints]
          rcases y9 with ⟨e, _⟩ | ⟨q, g, cs, rfl, q1, q2, q3, q4⟩
          · have : ats.length = 0 := by rw [← hil, e]; rfl
            omega
          · rw [hil] at q3 q4
            have hcs : (cs.drop k).take 1 = [.int .i64 (ats.getD k 0 : Nat)] := by
              have h6 : (cs.take ats.length)[k]? = cs[k]? := by rw [List.getElem?_take, if_pos hka]
              have h7 : cs[k]? = some (.int .i64 (ats.getD k 0 : Nat)) := by
                rw [← h6, q3]
                unfold ints
                rw [List.getElem?_map, List.getElem?_eq_getElem hka]
                simp [List.getD, hka]
              obtain ⟨hlt, he⟩ := List.getElem?_eq_some_iff.1 h7
              rw [List.drop_eq_getElem_cons hlt, he]
              rfl
            have g1 := hget_at (app_get (G := [⟨[nls, .bool false], 0, true, .no⟩]) q2) k 1
            have hs2 := hset_at (h04 ⟨[nls, .bool false], 0, true, .no⟩) 0 [nls, .bool false]
            have g2 := hget_at (set_ne (x := pRow nls false) (show q ≠ 0 by omega) (app_get (G := [⟨[nls, .bool false], 0, true, .no⟩]) q2)) k 1
            have hg3 := hget_at (set_self (x := pRow nls false) (h04 ⟨[nls, .bool false], 0, true, .no⟩)) 0 2
            have hkc : k + 1 ≤ cs.length := by omega
            rw [if_pos hkc, hcs] at g1 g2
            rw [hil] at y4
            have hai : ∀ (n : Nat) (q : IntKind) (x : Int), aveq (n + 1) (.int q x) (.int q x) = true := by intro n q x; simp [aveq]
            have hkI : (k : Int) < (ats.length : Int) := by omega
            generalize ats.getD k 0 = A at *
            simp (disch := omega) [d8, hne, hidx', x1, x2, x3, hraw, y1, y2, y3, y4, z1, hnew, g1, g2, hs2, hg3, hai]
end Go.Eng.S
