/- The decoder of chunked bodies: Put. No condition. -/
import Derived.Test.YtpdkdkdcmnipfaaGreatDoorKg
namespace Go.Eng.S
open Go Go.Eng
abbrev stgs : List AV := [.fn (.func 42) [] [], .fn (.func 43) [] [], .fn (.func 44) [] [], .fn (.func 45) [] []]
theorem stages_ok (H : Heap) : C T 29 [] H = some (.agg stgs, H) := anyH fd29 rfl rfl (C_of 9 (by kernel_rfl)) H
theorem stg_ok {L : Lm} (hL : L.body ≤ 1099511627776) {H : Heap} {i j : Nat} {vo vb : AV} {d : DS} (h : Rep L H i j vo vb d) (hi : Inv d) (ht : d.taken < 100000) (c : UInt8) :
    ∃ f, stgs[d.stage]? = some (.fn (.func f) [] []) ∧ stgP L H i j vo vb (d.stp L.lim c).1 (d.stp L.lim c).2 (C T f [.ptr i 0 0, .int .u8 c.toNat] H) := by
  have h1 := hi.b
  have h2 := hi.o
  have h3 := hi.f
  obtain ⟨_, p2⟩ := rd_inv (most := L.line) (c := c) hi.b hi.ln
  have hcase : d.stage = 0 ∨ d.stage = 1 ∨ d.stage = 2 ∨ d.stage = 3 := by have := hi.sg; omega
  rcases hcase with hs | hs | hs | hs
  · exact ⟨_, by rw [hs]; rfl, size_ok h c hs (by omega) (by omega) hi.st (by omega) hL⟩
  · exact ⟨_, by rw [hs]; rfl, data_ok h c hs (by omega) (hi.l1 hs).1 (hi.l1 hs).2⟩
  · exact ⟨_, by rw [hs]; rfl, end_ok h c hs (hi.l2 hs)⟩
  · exact ⟨_, by rw [hs]; rfl, trailer_ok h c hs (by omega) (by omega) hi.st (by omega) (by omega)⟩
theorem aeq_pn {T : Tab} {c : Bool} {i o g : Nat} : aeq T 9 .nptr c (.ptr i o g) (.cst (.pointer none)) = some false := rfl
abbrev zRow : AObj := ⟨[.int .i64 0], 0, true⟩
def dputP (L : Lm) (H : Heap) (i j : Nat) (vo vb : AV) (d' : DS) (r : Option (AV × Heap)) : Prop :=
  ∃ H' vo' vb', r = some (.int .i64 d'.state, H') ∧ Rep L H' i j vo' vb' d' ∧ Nx H H' i j vo vb vo' vb'
set_option maxHeartbeats 1000000 in
theorem dput_ok {L : Lm} (hL : L.body ≤ 1099511627776) {H : Heap} {i j : Nat} {vo vb : AV} {d : DS} (h : Rep L H i j vo vb d) (hi : Inv d) (ht : d.taken < 100000) (c : UInt8) :
    dputP L H i j vo vb (d.put L.lim c) (C T 14 [.ptr i 0 0, .int .u8 c.toNat] H) := by
  rw [q14]
  have hdec := h.dec
  by_cases h0 : d.state = 0
  · obtain ⟨f, hf, H1, vo1, vb1, v, r1, r2, r3, r4⟩ := stg_ok hL h hi ht c
    have htk := stp_taken L.lim d c
    have hsg := hi.sg
    have hput : d.put L.lim c = match d.stp L.lim c with
      | (d', none) => { d' with taken := d.taken + 1 }
      | (d', some st) => { d' with state := 2, err := some (st, d.taken), taken := d.taken + 1 } := by
      unfold DS.put
      rw [if_neg (by omega)]
      rfl
    rw [hput]
    cases hq : d.stp L.lim c with
    | mk d' e =>
      rw [hq] at r2 r3 htk
      simp only at r2 r3 htk ⊢
      have r5 := r3.app [zRow]
      have hst := stages_ok H
      cases e with
      | none =>
        have hv : v = .cst .nilIface := r2
        subst hv
        have hdec2 := r5.dec
        have has := as_nil (.iface 72 (.ptr H1.length 0 0)) (H1 ++ [zRow])
        refine ⟨(H1 ++ [zRow]).set i (dcRow L j vo1 { d' with taken := d.taken + 1 }), vo1, vb1, ?_, r5.set _ rfl rfl, (r4.trans (Nx.app ..)).trans (Nx.set ..)⟩
        simp (disch := omega) [d14, aeq_pn, hget_at hdec, h0, hst, hf, r1, has, hget_at hdec2, hset_at hdec2, hget_sa hdec2, htk]
        rfl
      | some st =>
        have has : ∃ G, C T 30 [v, .iface 72 (.ptr H1.length 0 0)] (H1 ++ [zRow]) = some (.bool true, H1 ++ ⟨[.int .i64 st], 0, true⟩ :: G) := by
          rcases r2 with rfl | ⟨a, rfl⟩
          · exact as_status H1 st 0
          · exact as_fault H1 st a 0
        obtain ⟨G, has⟩ := has
        have r6 := r3.app (⟨[.int .i64 st], 0, true⟩ :: G)
        have hdec2 := r6.dec
        have hnew := new_ok st d.taken
        have hl1 := hget_tail0 H1 (⟨[.int .i64 st], 0, true⟩ :: G)
        refine ⟨(H1 ++ ⟨[.int .i64 st], 0, true⟩ :: G).set i (dcRow L j vo1 { d' with state := 2, err := some (st, d.taken), taken := d.taken + 1 }), vo1, vb1, ?_, r6.set _ rfl rfl, (r4.trans (Nx.app ..)).trans (Nx.set ..)⟩
        simp (disch := omega) [d14, aeq_pn, hget_at hdec, h0, hst, hf, r1, has, hl1, hg0, hnew, hget_at hdec2, hset_at hdec2, hget_sa hdec2, hset_sa hdec2, htk]
        rfl
  · have hp : d.put L.lim c = d := by unfold DS.put; rw [if_pos h0]
    rw [hp]
    have h0' : ((d.state : Int) != 0) = true := by rw [bne_iff_ne]; omega
    refine ⟨H, vo, vb, ?_, h, Nx.refl ..⟩
    simp at h0'
    simp [d14, hget_at hdec, h0, aeq]
end Go.Eng.S
