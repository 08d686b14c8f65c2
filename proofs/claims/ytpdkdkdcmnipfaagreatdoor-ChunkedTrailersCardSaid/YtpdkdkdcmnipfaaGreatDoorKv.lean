/- ChunkedSteps, the plain law. No condition. -/
import Derived.Test.YtpdkdkdcmnipfaaGreatDoorKu
namespace Go.Eng.S
open Go Go.Eng
theorem put_stuck {L : Lm} {H : Heap} {i j : Nat} {vo : AV} {d : DS} (hdec : H[i]? = some (dcRow L j vo d)) (h0 : d.state ≠ 0) (c : UInt8) : C T 14 [.ptr i 0 0, .int .u8 c.toNat] H = some (.int .i64 d.state, H) := by
  rw [q14]
  have h0' : ((d.state : Int) != 0) = true := by rw [bne_iff_ne]; omega
  simp at h0'
  simp [d14, hget_at hdec, h0, aeq]
theorem err_at {L : Lm} {H : Heap} {i j : Nat} {vo : AV} {d : DS} (hdec : H[i]? = some (dcRow L j vo d)) : C T 15 [.ptr i 0 0] H = some (verr d.err, H) := by
  rw [q15]
  simp [d15, aeq_pn, hget_at hdec]
theorem data_at {L : Lm} {H : Heap} {i j : Nat} {vo : AV} {d : DS} (hdec : H[i]? = some (dcRow L j vo d)) (hs : d.state ≠ 1) : C T 16 [.ptr i 0 0] H = some (nls, H) := by
  rw [q16]
  have e : ((d.state : Int) != 1) = true := by rw [bne_iff_ne]; omega
  simp at e
  simp [d16, aeq_pn, hget_at hdec, e]
/-- The decoder in row 3, the result of Read in row 4. -/
def StP (L : Lm) (H : Heap) (rr : AObj) (d : DS) : Prop := H[4]? = some rr ∧ ∃ vo, rowOf vo ≠ some 4 ∧ rowOf vo ≠ some 3 ∧ H[3]? = some (dcRow L 2 vo d) ∧ OwnD H vo d.out ∧ (d.state = 0 → ∃ vb, Rep L H 3 2 vo vb d ∧ rowOf vb ≠ some 4)
theorem StP.put {L : Lm} (hL : L.body ≤ 1099511627776) {H : Heap} {rr : AObj} {d : DS} (h : StP L H rr d) (hi : Inv d) (ht : d.state = 0 → d.taken < 100000) (c : UInt8) :
    ∃ H', C T 14 [.ptr 3 0 0, .int .u8 c.toNat] H = some (.int .i64 (d.put L.lim c).state, H') ∧ StP L H' rr (d.put L.lim c) := by
  obtain ⟨h4, vo, r4, r3, hdec, hown, hrep⟩ := h
  by_cases h0 : d.state = 0
  · obtain ⟨vb, hr, rb⟩ := hrep h0
    obtain ⟨H', vo', vb', p1, p2, p3⟩ := dput_ok hL hr hi (ht h0) c
    have hlen := (List.getElem?_eq_some_iff.1 h4).1
    refine ⟨H', p1, p3.fr 4 rr (by decide) (by decide) r4 rb h4, vo', fun e => ?_, p2.oi, p2.dec, p2.out.d, fun _ => ⟨vb', p2, fun e => ?_⟩⟩
    · exact (p3.ro 4 e).elim r4 (fun h => by omega)
    · exact (p3.rb 4 e).elim rb (fun h => by omega)
  · have hp : d.put L.lim c = d := by unfold DS.put; rw [if_pos h0]
    rw [hp]
    exact ⟨H, put_stuck hdec h0 c, h4, vo, r4, r3, hdec, hown, hrep⟩
theorem frz_get {H : Heap} {v : AV} {k : Nat} {o : AObj} (h : H[k]? = some o) (hk : rowOf v ≠ some k) : (frz H v)[k]? = some o := by
  unfold frz
  split
  · rename_i k' _ _ _ _
    have hne : k' ≠ k := fun e => hk (by rw [e]; rfl)
    unfold freeze
    split
    · rw [List.getElem?_set_ne hne, h]
    · exact h
  · exact h
theorem frz_own {H : Heap} {v : AV} {s : List UInt8} (h : OwnD H v s) : OwnD (frz H v) v s := by
  rcases h with ⟨h1, rfl⟩ | ⟨k, g, l, rfl, h0, hr⟩
  · exact .inl ⟨h1, rfl⟩
  · refine .inr ⟨k, g, false, rfl, h0, ?_⟩
    unfold frz freeze
    simp only [hr]
    exact set_self hr
theorem StP.data {L : Lm} {H : Heap} {rr : AObj} {d : DS} (h : StP L H rr d) (hs : d.state = 1) (hl : d.out.length < 1000000000) :
    ∃ H', C T 16 [.ptr 3 0 0] H = some (byV d.out, H') ∧ StP L H' rr d := by
  obtain ⟨h4, vo, r4, r3, hdec, hown, hrep⟩ := h
  refine ⟨frz H vo, data_done hdec ⟨_, _, _, _, _, _, _, _, _, _, _, _, _, rfl, by rw [hs]; rfl⟩ hown hl, frz_get h4 r4, vo, r4, r3, frz_get hdec r3, frz_own hown, fun h => by omega⟩
theorem all_snoc (l : Lim) : ∀ (d : DS) (s : List UInt8) (c : UInt8), d.all l (s ++ [c]) = (d.all l s).put l c
  | _, [], _ => rfl
  | d, a :: s, c => by
    show DS.all l (d.put l a) (s ++ [c]) = _
    rw [all_snoc l _ s c]
    rfl
theorem all_inv {L : Lm} (hL : L.body ≤ 1099511627776) : ∀ (s : List UInt8) (d : DS), Inv d → Inv (d.all L.lim s)
  | [], _, h => h
  | c :: r, _d, h => all_inv hL r _ (h.put hL c)
theorem all_taken (l : Lim) : ∀ (s : List UInt8) (d : DS), (d.all l s).taken ≤ d.taken + s.length
  | [], d => Nat.le_refl _
  | c :: r, d => by
    have := all_taken l r (d.put l c)
    have h2 : (d.put l c).taken ≤ d.taken + 1 := by
      by_cases h : d.state = 0
      · rw [put_taken l d c h]; exact Nat.le_refl _
      · unfold DS.put; rw [if_pos h]; omega
    show ((d.put l c).all l r).taken ≤ _
    simp
    omega
abbrev resCells : Res → List AV
  | .opn => [nls, .int .i64 0, .int .i64 0, .int .i64 0, .bool true]
  | .bad st a => [nls, .int .i64 0, .int .i64 st, .int .i64 a, .bool false]
  | .ok data n => [byV data, .int .i64 n, .int .i64 0, .int .i64 0, .bool false]
set_option maxHeartbeats 2000000 in
theorem steps_loop {L : Lm} (hL : L.body ≤ 1099511627776) (b : List UInt8) (hb : b.length ≤ 600) (x : Res) (hx : x = DS.run L.lim ds0 b) (hst : ∀ st a, x = .bad st a → stOK st) : ∀ (k i : Nat) (H : Heap), i + k = b.length → StP L H ⟨resCells x, 0, true⟩ (ds0.all L.lim (b.take i)) →
    ∃ e' H', XL T [0, 5, 6, 7] L4_0 [(0, slV b), (5, .ptr 3 0 0), (6, .ptr 4 0 0), (7, .int .i64 i)] H = some (.exit 0, e', H')
  | 0, i, H, hk, hS => by
    rw [XL_eq]
    have hn : ¬ ((i : Int) < b.length) := by omega
    simp [L4_0, hn]
  | k + 1, i, H, hk, hS => by
    have hlt : i < b.length := by omega
    have hlt' : ((i : Int) < b.length) := by omega
    have htk : b.take (i + 1) = b.take i ++ [b[i]] := List.take_succ_eq_append_getElem hlt
    have hok := steps_ok L.lim b ds0 rfl rfl (i + 1) (by omega)
    rw [← hx] at hok
    have hcell := bc_drop b i hlt
    have hinv := all_inv hL (b.take i) ds0 inv0
    have hinv1 := all_inv hL (b.take (i + 1)) ds0 inv0
    have htak := all_taken L.lim (b.take i) ds0
    have htak1 := all_taken L.lim (b.take (i + 1)) ds0
    have e0 : ds0.taken = 0 := rfl
    simp only [e0, Nat.zero_add, List.length_take] at htak htak1 hok
    have hout := hinv1.o
    obtain ⟨H1, p1, hS1⟩ := hS.put hL hinv (fun _ => by omega) b[i]
    rw [← all_snoc, ← htk] at p1 hS1
    have ih := steps_loop hL b hb x hx hst k (i + 1)
    generalize ds0.all L.lim (b.take (i + 1)) = d at *
    rw [XL_eq]
    generalize XL T [0, 5, 6, 7] L4_0 = lp at *
    have h4 := hS.1
    have h41 := hS1.1
    obtain ⟨_, vo, r4, r3, hdec, hown, hrep⟩ := id hS1
    have her := err_at hdec
    have hdn := data_at hdec
    have ih1 := ih H1 (by omega) hS1
    push_cast at ih1
    cases x with
    | opn =>
      obtain ⟨s0, se⟩ := hok
      rw [s0] at p1
      rw [se] at her
      simp only [verr] at her
      have hdn := hdn (by omega)
      simp at p1
      simp (disch := omega) [L4_0, hlt', hcell, hget_at h4, p1, her, hdn]
      exact ih1
    | bad st a =>
      have hst := hst st a rfl
      have hne := stOK_ne hst
      simp at hne
      have hw := wrong_ok14 hst a a
      by_cases hia : i + 1 ≤ a
      · obtain ⟨s0, se⟩ := hok.1 (by omega)
        rw [s0] at p1
        rw [se] at her
        simp only [verr] at her
        have hdn := hdn (by omega)
        have hn : ¬ ((a : Int) ≤ i) := by omega
        simp at p1
        simp (disch := omega) [L4_0, hlt', hcell, hget_at h4, p1, her, hdn, hn]
        exact ih1
      · obtain ⟨s0, se⟩ := hok.2 (by omega)
        rw [s0] at p1
        rw [se] at her
        simp only [verr] at her
        have hdn := hdn (by omega)
        have hn : ((a : Int) ≤ i) := by omega
        simp at p1
        simp (disch := omega) [L4_0, hlt', hcell, hget_at h4, hget_at h41, p1, her, hdn, hn, hw]
        exact ih1
    | ok data m =>
      by_cases him : i + 1 < m
      · obtain ⟨s0, se⟩ := hok.1 (by omega)
        rw [s0] at p1
        rw [se] at her
        simp only [verr] at her
        have hdn := hdn (by omega)
        have hn : ¬ ((m : Int) ≤ (i : Int) + 1) := by omega
        simp at p1
        simp (disch := omega) [L4_0, hlt', hcell, hget_at h4, p1, her, hdn, hn]
        exact ih1
      · obtain ⟨s0, so, se⟩ := hok.2 (by omega)
        rw [s0] at p1
        rw [se] at her
        simp only [verr] at her
        have hn : ((m : Int) ≤ (i : Int) + 1) := by omega
        obtain ⟨H2, q1, hS2⟩ := hS1.data s0 (by omega)
        rw [so] at q1
        have h42 := hS2.1
        have ih2 := ih H2 (by omega) hS2
        push_cast at ih2
        simp at p1
        by_cases hd : data = []
        · subst hd
          have e : byV [] = nls := rfl
          rw [e] at q1
          have hc0 : resCells (.ok [] m) = [nls, .int .i64 m, .int .i64 0, .int .i64 0, .bool false] := rfl
          rw [hc0] at h4 h41 h42
          simp (disch := omega) [L4_0, hlt', hcell, hget_at h4, hget_at h41, hget_at h42, p1, her, hn, q1, bytesOf]
          exact ih2
        · have e : byV data = .sl false data.length 1 (bcells data) := if_neg hd
          rw [e] at q1
          have hc0 : resCells (.ok data m) = [.sl false data.length 1 (bcells data), .int .i64 m, .int .i64 0, .int .i64 0, .bool false] := by show [byV data, _, _, _, _] = _; rw [e]
          rw [hc0] at h4 h41 h42
          simp (disch := omega) [L4_0, hlt', hcell, hget_at h4, hget_at h41, hget_at h42, p1, her, hn, q1, bytesOf_bcells]
          exact ih2
theorem resV_cells (r : Res) : resV r = .agg (resCells r) := by cases r <;> rfl
theorem resCells_cell (r : Res) : (resCells r).all AV.isCell = true := by
  cases r with
  | opn => rfl
  | bad => rfl
  | ok data n => simp [byV_cell]
theorem resCells_len (r : Res) : (resCells r).length = 5 := by cases r <;> rfl
set_option maxHeartbeats 1000000 in
theorem chunkedSteps (a : AV) (b : List UInt8) (ha : Bytes a b) (l : Lims) : C T 4 [a, l.av] [] = some (.bool true, []) := by
  rw [q4]
  have hsn := snap_bytes ha
  have hri := right_ok l
  by_cases hb : 600 < b.length
  · have hb' : (600 : Int) < b.length := by omega
    unfold Lims.av
    rcases ha with ⟨rfl, rfl⟩ | rfl
    · simp at hb
    · simp [d4, hsn, awake14_ok, hb']
  have hb' : ¬ (600 : Int) < b.length := by omega
  cases hs : l.small with
  | false =>
    rw [hs] at hri
    unfold Lims.av at *
    rcases ha with ⟨rfl, rfl⟩ | rfl <;> simp at hb' <;> simp [d4, hsn, awake14_ok, hb', hri, hget]
  | true =>
    rw [hs] at hri
    have hbody : l.body ≤ 1099511627776 := by unfold Lims.small at hs; simp at hs; exact hs.2
    have hL : l.lm.body ≤ 1099511627776 := by unfold Lims.lm; simp only; omega
    have hread := read_ok a b ha (by omega) l hbody
    have hst := @readR_st l.lm (b.length + 1) 0 [] b
    have hx := run_read l.lm.lim b
    generalize readR l.lm.lim (b.length + 1) 0 [] b = r at *
    rw [resV_cells] at hread
    have hrc := resCells_cell r
    have hrl := resCells_len r
    have hnew : C T 13 [l.av] [lmRaw l] = some (.ptr 3 0 0, newH l.lm [lmRaw l]) := dnew_ok l _
    have hrep := rep0 l.lm [lmRaw l]
    have hS : StP l.lm (newH l.lm [lmRaw l] ++ [⟨resCells r, 0, true⟩]) ⟨resCells r, 0, true⟩ ds0 :=
      ⟨rfl, nls, (by intro e; cases e), (by intro e; cases e), rfl, .inl ⟨rfl, rfl⟩, fun _ => ⟨nls, hrep.app _, by intro e; cases e⟩⟩
    have hlp := steps_loop hL b (by omega) r hx.symm (fun st a e => hst e) b.length 0 _ (by omega) hS
    simp only [Int.natCast_zero] at hlp
    obtain ⟨e', H', g1⟩ := hlp
    have hspl : splice [nls, .int .i64 0, .int .i64 0, .int .i64 0, .bool false] 0 (resCells r) = resCells r := by
      unfold splice
      rw [hrl]
      simp
    unfold Lims.av at *
    rcases ha with ⟨rfl, rfl⟩ | rfl
    · have hx0 : ∀ H, ∃ e', XL T [0, 5, 6, 7] L4_0 [(0, nls), (5, .ptr 3 0 0), (6, .ptr 4 0 0), (7, .int .i64 0)] H = some (.exit 0, e', H) := fun H => by
        rw [XL_eq]
        simp [L4_0]
      obtain ⟨e0, hx0⟩ := hx0 (newH l.lm [lmRaw l] ++ [⟨resCells r, 0, true⟩])
      simp at hx0 hnew
      simp [d4, hsn, awake14_ok, hri, hread, hget, hset, hnew, hrl, hrc, aeq_pn, hx0]
    · simp at g1 hnew
      simp [d4, hsn, awake14_ok, hb', hri, hread, hget, hset, hnew, hrl, hrc, aeq_pn, g1]
end Go.Eng.S
