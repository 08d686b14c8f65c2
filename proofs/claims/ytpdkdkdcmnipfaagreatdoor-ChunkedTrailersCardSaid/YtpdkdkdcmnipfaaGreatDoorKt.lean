/- The reference's Read; both are the same. No condition. -/
import Derived.Test.YtpdkdkdcmnipfaaGreatDoorKr
namespace Go.Eng.S
open Go Go.Eng
theorem resV_snap (r : Res) (H : Heap) : snap 12 H (resV r) = some (resV r, H) := by
  cases r with
  | opn => rfl
  | bad => rfl
  | ok data n =>
    unfold resV
    rw [snap_agg, mapS_cons, snap_byV]
    rfl
theorem line_nil (most : Nat) (H : Heap) : C T 22 [nls, .int .i64 0, .int .i64 most] H = some (.tup [.str [], .int .i64 0, .int .i64 3], H) := by
  refine anyH fd22 rfl rfl ?_ H
  rw [q22]
  have hx : ∃ e', XL T [0, 1, 2, 9] L22_0 [(0, nls), (1, .int .i64 0), (2, .int .i64 most), (9, .int .i64 0)] [] = some (.exit 0, e', []) ∧ e'.get 0 = nls ∧ e'.get 1 = .int .i64 0 ∧ e'.get 9 = .int .i64 0 := by
    rw [XL_eq]
    simp [L22_0]
  obtain ⟨e', h1, h2, h3, h4⟩ := hx
  simp [d22, h1, h2, h3, h4]
theorem read_ok (a : AV) (b : List UInt8) (ha : Bytes a b) (hb : b.length < 10000) (l : Lims) (hl : l.body ≤ 1099511627776) (H : Heap) :
    C T 11 [a, .int .i64 0, l.av] H = some (resV (readR l.lm.lim (b.length + 1) 0 [] b), H) := by
  refine anyH fd11 rfl (by have := ha.closed; simp [closedL, Lims.av, this]) ?_ H
  rw [q11]
  have hL := limOK l
  have i1 := hL.line
  generalize hLm : l.lm = L at *
  have hbd : L.body ≤ 1099511627776 := by rw [← hLm]; unfold Lims.lm; simp only; omega
  rcases ha with ⟨rfl, rfl⟩ | rfl
  · have hln := line_nil L.line
    have hx : ∃ e' H', XL T [0, 1, 5, 6, 7] L11_2 [(0, nls), (1, .int .i64 0), (5, .ptr 0 0 0), (6, .ptr 1 0 0), (7, nls)] [lmRaw l, rs0] = some (.ret, e', [lmRaw l, ⟨[nls, .int .i64 0, .int .i64 0, .int .i64 0, .bool true], 0, true⟩]) ∧ e'.get 6 = .ptr 1 0 0 ∧ H' = 0 := by
      rw [XL_eq]
      simp [L11_2, hget, hset, i1, hln]
    obtain ⟨e', _, h1, h2, _⟩ := hx
    unfold Lims.av
    have hr : readR L.lim (([] : List UInt8).length + 1) 0 [] [] = .opn := rfl
    rw [hr]
    simp [d11, h1, h2, hget, resV]
  · have hsn := fun k H => snap_sl k H false b
    have hlp := chk_loop hL hbd (b.length + 1) [] b b [lmRaw l, rs0] nls [] (by omega) rfl hb rfl rfl (.inl ⟨rfl, rfl⟩) (by intro e; cases e) (by intro e; cases e) (Nat.le_refl _)
    simp only [List.length_nil, Int.natCast_zero] at hlp
    have hrs := resV_snap (readR L.lim (b.length + 1) 0 [] b)
    unfold Lims.av
    rcases hlp with ⟨e', H', cells, H'', p1, p2, p3, p4⟩ | ⟨e', H', k, u, s, vo, out, p1, p2, p3, p4, p5, p6, p7, p8, p9, p10, p11, p12, p13⟩
    · generalize readR L.lim (b.length + 1) 0 [] b = r at *
      simp [d11, hsn, p1, p2, p3]
      exact ⟨_, p4⟩
    · have ht := trl_loop hL k u s b H' vo out 0 0 p8 p7 hb p9 p10 p11 p12 (Nat.zero_le _) (Nat.zero_le _)
      rw [← p13] at ht
      obtain ⟨e2, H2, cells, H'', q1, q2, q3, q4⟩ := ht
      generalize readR L.lim (b.length + 1) 0 [] b = r at *
      simp only [Int.natCast_zero] at q1
      simp [d11, hsn, p1, p2, p3, p4, p5, p6, q1, q2, q3]
      exact ⟨_, q4⟩
/-- The decoder over all bytes is the reading at once. -/
theorem run_read (l : Lim) (s : List UInt8) : DS.run l ds0 s = readR l (s.length + 1) 0 [] s := by
  have h1 := line_run l s ds0 [] [] false 0 0 rfl (.inl rfl) rfl (.inl rfl) rfl
  have h2 := line_run l s ⟨0, 0, 0, ⟨[], [], false, false, 1⟩, 0, [], 0, 0, none⟩ [] [] false 1 0 rfl (.inl rfl) rfl (.inr rfl) rfl
  have h3 := read_run l (s.length + 1) s 0 [] false 0 [] none (by omega)
  rw [← h3, h2, h1]
  cases lineR l.line [] s <;> rfl
theorem wrong400_ok (a b : Int) (H : Heap) : C T 12 [flt 400 a, .int .i64 400, .int .i64 b] H = some (.bool (a == b), H) := anyH fd12 rfl rfl (C_of 60 (by kernel_rfl)) H
theorem wrong413_ok (a b : Int) (H : Heap) : C T 12 [flt 413 a, .int .i64 413, .int .i64 b] H = some (.bool (a == b), H) := anyH fd12 rfl rfl (C_of 60 (by kernel_rfl)) H
theorem wrong431_ok (a b : Int) (H : Heap) : C T 12 [flt 431 a, .int .i64 431, .int .i64 b] H = some (.bool (a == b), H) := anyH fd12 rfl rfl (C_of 60 (by kernel_rfl)) H
end Go.Eng.S
