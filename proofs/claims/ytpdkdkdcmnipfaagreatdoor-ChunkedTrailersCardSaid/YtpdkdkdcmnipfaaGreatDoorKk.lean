/- chunked.Decode: its loop. No condition. -/
import Derived.Test.YtpdkdkdcmnipfaaGreatDoorKj
namespace Go.Eng.S
open Go Go.Eng
theorem bc_drop (b : List UInt8) (i : Nat) (h : i < b.length) : (bcells b).drop i = .int .u8 (b[i].toNat : Nat) :: (bcells b).drop (i + 1) := by
  rw [List.drop_eq_getElem_cons (by simpa [bcells] using h)]
  simp [bcells]
def decP (v : AV) : Res → XR → Prop
  | .opn, r => ∃ e' H', r = some (.exit 0, e', H') ∧ e'.get 0 = v
  | .bad st a, r => ∃ e' H', r = some (.ret, e', H') ∧ e'.get 4 = nls ∧ e'.get 5 = .int .i64 0 ∧ e'.get 6 = flt st a
  | .ok data n, r => ∃ e' H', r = some (.ret, e', H') ∧ e'.get 4 = byV data ∧ e'.get 5 = .int .i64 n ∧ e'.get 6 = .cst .nilIface
abbrev slV (b : List UInt8) : AV := .sl false b.length 1 (bcells b)
set_option maxHeartbeats 1000000 in
theorem dec_loop {L : Lm} (hL : L.body ≤ 1099511627776) (b : List UInt8) (hb : b.length < 10000) : ∀ (k idx : Nat) (H : Heap) (i j : Nat) (vo vb : AV) (d : DS), idx + k = b.length → Rep L H i j vo vb d → Inv d → d.state = 0 → d.taken = idx → d.err = none →
    decP (slV b) (DS.run L.lim d (b.drop idx)) (XL T [0, 7, 12, 13, 14] L10_0 [(0, slV b), (7, .ptr i 0 0), (12, slV b), (13, .int .i64 b.length), (14, .int .i64 idx)] H)
  | 0, idx, H, i, j, vo, vb, d, hk, hr, hi, h0, ht, he => by
    have hd : b.drop idx = [] := List.drop_eq_nil_of_le (by omega)
    rw [hd, XL_eq]
    have hn : ¬ ((idx : Int) < b.length) := by omega
    simp [L10_0, DS.run, decP, hn]
  | k + 1, idx, H, i, j, vo, vb, d, hk, hr, hi, h0, ht, he => by
    have hlt : idx < b.length := by omega
    have hd : b.drop idx = b[idx] :: b.drop (idx + 1) := List.drop_eq_getElem_cons hlt
    have hlt' : ((idx : Int) < b.length) := by omega
    obtain ⟨H1, vo1, vb1, h1, h2, h3⟩ := dput_ok hL hr hi (by omega) b[idx]
    have hi1 := hi.put hL b[idx]
    have ht1 := put_taken L.lim d b[idx] h0
    have hcell := bc_drop b idx hlt
    have ih := dec_loop hL b hb k (idx + 1) H1 i j vo1 vb1 (d.put L.lim b[idx]) (by omega) h2 hi1
    have hpc := put_cases L.lim d b[idx] h0
    rw [hd, XL_eq, DS.run]
    generalize XL T [0, 7, 12, 13, 14] L10_0 = lp at *
    generalize b.drop (idx + 1) = R at *
    generalize d.put L.lim b[idx] = d1 at *
    rcases hpc with ⟨hs, hee⟩ | ⟨hs, hee⟩ | ⟨hs, st, hee⟩
    · have ih := ih hs (by omega) (by rw [hee, he])
      push_cast at ih
      rw [hs] at h1 ⊢
      simp at h1
      simp only
      simp (disch := omega) [L10_0, hlt', hcell, h1]
      exact ih
    · rw [hs] at h1 ⊢
      simp at h1
      have hdt := data_done (i := i) h2.dec ⟨_, _, _, _, _, _, _, _, _, _, _, _, _, rfl, by rw [hs]; rfl⟩ h2.out.d (by have := hi1.o; omega)
      simp only
      simp (disch := omega) [L10_0, hlt', hcell, h1, hdt, decP]
      omega
    · rw [hs] at h1 ⊢
      simp at h1
      have her := err_ok h2
      rw [hee] at her ⊢
      simp only [verr] at her
      simp only
      simp (disch := omega) [L10_0, hlt', hcell, h1, her, decP]
/-- What Decode returns. -/
def decV (n : Nat) : Res → List AV
  | .opn => [nls, .int .i64 0, flt 400 n]
  | .bad st a => [nls, .int .i64 0, flt st a]
  | .ok data n => [byV data, .int .i64 n, .cst .nilIface]
theorem decode_ok (a : AV) (b : List UInt8) (ha : Bytes a b) (hb : b.length < 10000) (l : Lims) (hl : l.body ≤ 1099511627776) (H : Heap) :
    C T 10 [a, l.av] H = some (.tup (decV b.length (DS.run l.lm.lim ds0 b)), H) := by
  refine anyH fd10 rfl (by have := ha.closed; simp [closedL, Lims.av, this]) ?_ H
  rw [q10]
  have hnew := dnew_ok l [lmRow ⟨0, 0, 0, 0⟩]
  have hnw : C T 13 [l.av] [⟨[.int .i64 l.line, .int .i64 l.head, .int .i64 l.fields, .int .i64 l.body], 0, true⟩] = some (.ptr 3 0 0, newH l.lm [⟨[.int .i64 l.line, .int .i64 l.head, .int .i64 l.fields, .int .i64 l.body], 0, true⟩]) := dnew_ok l _
  have hrep := rep0 l.lm [⟨[.int .i64 l.line, .int .i64 l.head, .int .i64 l.fields, .int .i64 l.body], 0, true⟩]
  have hf := new_ok 400 b.length
  unfold Lims.av at *
  rcases ha with ⟨rfl, rfl⟩ | rfl
  · have hx : ∀ e H, (XL T [0, 7, 12, 13, 14] L10_0 [(0, nls), (7, e), (12, nls), (13, .int .i64 0), (14, .int .i64 0)] H) = some (.exit 0, [(15, .bool false), (0, nls), (7, e), (12, nls), (13, .int .i64 0), (14, .int .i64 0)], H) := fun e H => by
      rw [XL_eq]
      simp [L10_0]
    simp at hf
    simp [d10, hget, hnw, hx, hf, decV, DS.run]
  · have hlp := dec_loop (L := l.lm) (by unfold Lims.lm; simp only; omega) b hb b.length 0 _ _ _ _ _ ds0 (by omega) hrep inv0 rfl rfl rfl
    have hsn := fun k H => snap_sl k H false b
    have hby := fun k H s => snap_byV k H s
    simp only [List.drop_zero, Int.natCast_zero] at hlp
    cases hres : DS.run l.lm.lim ds0 b with
    | opn =>
      rw [hres] at hlp
      obtain ⟨e', H', g1, g2⟩ := hlp
      simp at g1
      simp [d10, hget, hnw, hsn, g1, g2, hf, decV]
    | bad st a =>
      rw [hres] at hlp
      obtain ⟨e', H', g1, g2, g3, g4⟩ := hlp
      simp at g1
      simp [d10, hget, hnw, hsn, g1, g2, g3, g4, decV]
    | ok data n =>
      rw [hres] at hlp
      obtain ⟨e', H', g1, g2, g3, g4⟩ := hlp
      simp at g1
      simp [d10, hget, hnw, hsn, hby, g1, g2, g3, g4, decV]
end Go.Eng.S
