/- The reference's reading of a response, whole. The reference: one response, all responses of bytes. The reference: all responses of bytes. No condition. -/
import Derived.Test.YtgjgcjhmaibblaaGreatDoorMf
namespace Go.Eng.S
open Go Go.Eng
set_option linter.unusedSectionVars false
variable [Sit]
set_option maxRecDepth 20000
theorem ftx_app (l m : List Fld) : ftx (l ++ m) = ftx l ++ ftx m := by unfold ftx; rw [List.flatMap_append]
theorem ftx_mem : ∀ {l : List Fld} {f : Fld}, f ∈ l → f.1.length + f.2.length ≤ (ftx l).length
  | g :: l, f, h => by
    rw [ftx_cons]
    simp only [List.length_append, fldT, List.length_cons, List.length_nil]
    rcases List.mem_cons.1 h with rfl | h
    · omega
    · have := ftx_mem h; omega
theorem stR_rng {s : Seg} {st : Int} (h : 0 ≤ st ∧ st ≤ 999) : 0 ≤ stR s st ∧ stR s st ≤ 999 := by
  unfold stR
  split
  · cases hd : decO 999 ((s.take 12).drop 9) with
    | none => exact ⟨by decide, by decide⟩
    | some n => exact decO_rng (by decide) hd
  · exact h
theorem rdS_spec : ∀ (b : Seg) (fst : Bool) (cur : Seg) (st : Int) (fs : List Fld), 0 ≤ st ∧ st ≤ 999 → (ftx (rdS fst cur st fs b).2).length ≤ (ftx fs).length + cur.length + 5 * b.length ∧ (rdS fst cur st fs b).2.length ≤ fs.length + b.length ∧ (0 ≤ (rdS fst cur st fs b).1 ∧ (rdS fst cur st fs b).1 ≤ 999)
  | [], fst, cur, st, fs, h => by refine ⟨?_, ?_, h⟩ <;> simp [rdS] <;> omega
  | [c], fst, cur, st, fs, h => by refine ⟨?_, ?_, h⟩ <;> simp [rdS] <;> omega
  | c :: d :: r, fst, cur, st, fs, h => by
    by_cases hc : c = 13 ∧ d = 10
    · rw [rdS, if_pos hc]
      cases fst with
      | true =>
        rw [if_pos rfl]
        obtain ⟨a1, a2, a3⟩ := rdS_spec r false [] (stR cur st) fs (stR_rng h)
        simp only [List.length_cons, List.length_nil] at *
        exact ⟨by omega, by omega, a3⟩
      | false =>
        rw [if_neg (by decide)]
        obtain ⟨a1, a2, a3⟩ := rdS_spec r false [] st (fs ++ [cut2 cur]) h
        have hs := cut2_sum cur
        rw [ftx_app, List.length_append] at a1
        have h1 : (ftx [cut2 cur]).length = (cut2 cur).1.length + (cut2 cur).2.length + 4 := by simp [ftx, fldT]; omega
        simp only [List.length_cons, List.length_nil, List.length_append] at *
        exact ⟨by omega, by omega, a3⟩
    · rw [rdS_ne hc]
      obtain ⟨a1, a2, a3⟩ := rdS_spec (d :: r) fst (cur ++ [c]) st fs h
      simp only [List.length_cons, List.length_append, List.length_nil] at *
      exact ⟨by omega, by omega, a3⟩
theorem small_of {l : List Fld} (h1 : (ftx l).length < 1000000000) (h2 : l.length < 100000000) : Small l := ⟨h2, fun f hf => by have := ftx_mem hf; omega⟩
def rdL (b : Seg) (en : Nat) : Int × List Fld := rdS true [] 0 [] (b.take en)
/-- A response whose lines end at an index, and whose body begins at another one. -/
def readL (b : Seg) (en at_ : Nat) (br : Bool) : Option (Rsp × Nat) :=
  if (if br = true then 0 else rlen (rdL b en).2) < 0 ∨ (at_ : Int) + (if br = true then 0 else rlen (rdL b en).2) > b.length then none else
    if rightB (rdL b en).1 (rdL b en).2 ((b.drop at_).take (if br = true then 0 else (rlen (rdL b en).2).toNat)) br = true ∧ outB (rdL b en).1 (rdL b en).2 ++ (b.drop at_).take (if br = true then 0 else (rlen (rdL b en).2).toNat) = b.take (at_ + if br = true then 0 else (rlen (rdL b en).2).toNat)
      then some (((rdL b en).1, (rdL b en).2, (b.drop at_).take (if br = true then 0 else (rlen (rdL b en).2).toNat)), at_ + if br = true then 0 else (rlen (rdL b en).2).toNat) else none
abbrev respW (r : Rsp) : AV := .agg [.int .i64 r.1, fldV r.2.1, slv r.2.2]
def readR (o : Option (Rsp × Nat)) : List AV := match o with
  | some (r, n) => [respW r, .int .i64 n]
  | none => [.agg [.int .i64 0, nls, nls], .int .i64 (-1)]
theorem resp_snapW {H : Heap} {v : AV} {l : List Fld} {b : Seg} (st : Int) (hv : AccD H v 2 l.length (fcells l)) (k : Nat) : ∃ H', snap (k + 3) H (.agg [.int .i64 st, v, slv b]) = some (respW (st, l, b), H') ∧ Kp H H' ∧ ∀ i o, rowN v ≠ some i → H[i]? = some o → H'[i]? = some o := by
  obtain ⟨H1, a1, a2, a3⟩ := hv.snap (k + 1) (fcells_snap k l)
  have hb := fun H => (BV.snap (a := slv b) (l := b) (.inr rfl) (k + 1) H)
  refine ⟨H1, ?_, a2, a3⟩
  simp only [slv] at hb
  simp [a1, fldV, hb]
theorem rlen_rng (l : List Fld) : -1 ≤ rlen l ∧ rlen l ≤ 1073741824 := by
  have := lenN_rng l
  unfold rlen
  split <;> omega
set_option maxHeartbeats 4000000 in
theorem read_ok (b : Seg) (hb : b.length < 1000000) (en at_ : Nat) (hen : en ≤ b.length) (hat : at_ ≤ b.length) (br : Bool) (H : Heap) : C T 56 [slv b, .int .i64 en, .int .i64 at_, .bool br] H = some (.tup (readR (readL b en at_ br)), H) := by
  have hbv : BV (slv b) b := .inr rfl
  refine anyH fd56 rfl (by simp [closedL, AV.closed, bcells_closed]) ?_ H
  rw [q56]
  have hs := hbv.snap 63 []
  have hR : RdI [zRow, zRow] 0 [] nls := ⟨rfl, rfl, .inl ⟨rfl, rfl, rfl⟩, by simp [rowN], by simp [rowN]⟩
  have hstore : hset [zRow, zRow] 1 0 0 [.int .i64 0, nls, nls] = some [zRow, zRow] := rfl
  obtain ⟨e', H', v', x1, g0, g2, g3, g8, g10, hR2⟩ := rd_loop b hb en at_ hen br en 0 0 0 [] nls [zRow, zRow] (by omega) (by omega) (by omega) (by simp) hR
  have hz : decide ((0 : Nat) = 0) = true := rfl
  rw [hz] at hR2
  simp only [List.drop_zero, Int.natCast_zero, rdX, rdE, List.take_zero] at x1 hR2
  obtain ⟨s1, s2, s3⟩ := rdS_spec (b.take en) true [] 0 [] ⟨by decide, by decide⟩
  unfold readL
  rw [show rdS true [] 0 [] (b.take en) = rdL b en from rfl] at *
  generalize rdL b en = p at *
  obtain ⟨st, fs⟩ := p
  have htk : (b.take en).length = en := by simp; omega
  simp only [List.length_nil, Nat.zero_add, ftx, List.flatMap_nil] at s1 s2 s3 hR2 ⊢
  rw [show fs.flatMap (fun f => fldT f ++ cr) = ftx fs from rfl] at s1
  have hsm : Small fs := small_of (by omega) (by omega)
  have hlr := rlen_rng fs
  have q0 := hR2.r0
  have q1 := hR2.r1
  have r0 := hR2.n0
  have r1 := hR2.n1
  have hA := hR2.acc
  have hg1 : hget H' 1 1 1 0 = some [v'] := by rw [hget_at q1]; simp
  obtain ⟨H1, t1, k1, fr1⟩ := hA.d.snap 63 (fcells_snap 62 fs)
  have c28 : C T 28 [v'] H' = some (.int .i64 (rlen fs), H1) := by
    refine pure_snap fd28 rfl (args' := [fldV fs]) (by simp [t1, fldV]) ?_ (rlength_ok (fldV fs) fs (fldV_ok fs) hsm)
    have := (fldV_ok fs).snap 63 H1
    simp [this]
  have z1 := zfail (fr1 0 _ r0 q0)
  have hlen : ∀ H, lenK H (slv b) = some (.int .i64 b.length, H) := hbv.len
  obtain ⟨nn, hnn⟩ : ∃ nn : Int, (if br = true then 0 else rlen fs) = nn := ⟨_, rfl⟩
  have hnt : (if br = true then 0 else (rlen fs).toNat) = nn.toNat := by rw [← hnn]; split <;> rfl
  rw [hnn, hnt]
  have hnr : -1 ≤ nn ∧ nn ≤ 1073741824 := by rw [← hnn]; split <;> omega
  by_cases hgt : nn < 0 ∨ (at_ : Int) + nn > b.length
  · rw [if_pos hgt]
    have hmin : readR none = [.agg [.int .i64 0, nls, nls], .int .i64 (-1)] := rfl
    rw [hmin]
    have hw : IntKind.i64.wrap ((at_ : Int) + nn) = at_ + nn := wr64 (by omega) (by omega)
    cases br with
    | false =>
      have hN : rlen fs = nn := by simpa using hnn
      rw [hN] at c28
      by_cases hn0 : nn < 0
      · simp (disch := omega) [d56, hs, fillP, hstore, hnew, x1, g0, g2, g3, g8, g10, hg1, c28, hn0, z1]
      · have hgt2 : (b.length : Int) < at_ + nn := by omega
        simp (disch := omega) [d56, hs, fillP, hstore, hnew, x1, g0, g2, g3, g8, g10, hg1, c28, hn0, hlen, hw, hgt2, z1]
    | true =>
      have hN : nn = 0 := by simpa using hnn.symm
      subst hN
      have : ¬ ((0 : Int) < 0 ∨ (at_ : Int) + 0 > b.length) := by omega
      exact absurd hgt this
  · rw [if_neg hgt]
    obtain ⟨n, rfl⟩ := Int.eq_ofNat_of_zero_le (show 0 ≤ nn by omega)
    have hle : at_ + n ≤ b.length := by omega
    simp only [Int.toNat_natCast]
    have hbs := bslice b at_ n hle
    have hbs0 := bslice0 b (at_ + n) hle
    have hbl : ((b.drop at_).take n).length = n := by simp; omega
    generalize hbd : (b.drop at_).take n = bd at *
    have q12 := fr1 1 _ r1 q1
    have q02 := fr1 0 _ r0 q0
    have hst2 : hset H1 1 2 0 [slv bd] = some (H1.set 1 ⟨[.int .i64 st, v', slv bd], 0, true, .no⟩) := by rw [hset_at q12]; simp [splice]
    have q13 : (H1.set 1 ⟨[.int .i64 st, v', slv bd], 0, true, .no⟩)[1]? = some ⟨[.int .i64 st, v', slv bd], 0, true, .no⟩ := set_self q12
    have q03 : (H1.set 1 ⟨[.int .i64 st, v', slv bd], 0, true, .no⟩)[0]? = some zRow := set_ne (by decide) q02
    have v3 : AccD (H1.set 1 ⟨[.int .i64 st, v', slv bd], 0, true, .no⟩) v' 2 fs.length (fcells fs) := (hA.d.kp k1).set _ r1
    generalize H1.set 1 ⟨[.int .i64 st, v', slv bd], 0, true, .no⟩ = H3 at *
    have hg3 : hget H3 1 0 3 0 = some [.int .i64 st, v', slv bd] := by rw [hget_at q13]; simp
    obtain ⟨H4, s4, k4, fr4⟩ := resp_snapW (b := bd) st v3 61
    have c12 : C T 12 [.agg [.int .i64 st, v', slv bd], .bool br] H3 = some (.bool (rightB st fs bd br), H4) := by
      refine pure_snap fd12 rfl (args' := [respW (st, fs, bd), .bool br]) (by rw [mapS_cons, s4]; simp) ?_ (rright_ok st _ _ fs bd (fldV_ok fs) (.inr rfl) hsm (by omega) br)
      rw [mapS_cons, resp_self st _ _ fs bd (fldV_ok fs) (.inr rfl) 61]
      simp
    have q14 := fr4 1 _ r1 q13
    have q04 := fr4 0 _ r0 q03
    have z4 := zfail q04
    have hg4 : hget H4 1 0 3 0 = some [.int .i64 st, v', slv bd] := by rw [hget_at q14]; simp
    obtain ⟨H5, s5, k5, fr5⟩ := resp_snapW (b := bd) st (v3.kp k4) 61
    have hout := outB_len st fs
    have hfit : Fits st fs bd := ⟨by omega, by omega, hsm.len, by omega⟩
    have c10 : C T 10 [.agg [.int .i64 st, v', slv bd]] H4 = some (bytV (outB st fs ++ bd), H5) := by
      refine pure_snap fd10 rfl (args' := [respW (st, fs, bd)]) (by rw [mapS_cons, s5]; simp) ?_ (rbytes_ok st _ _ fs bd (fldV_ok fs) (.inr rfl) hfit)
      rw [mapS_cons, resp_self st _ _ fs bd (fldV_ok fs) (.inr rfl) 61]
      simp
    have q15 := fr5 1 _ r1 q14
    have q05 := fr5 0 _ r0 q04
    have z5 := zfail q05
    have hg5 : hget H5 1 0 3 0 = some [.int .i64 st, v', slv bd] := by rw [hget_at q15]; simp
    have hs6 : hset H5 0 0 0 [.int .i64 st, v', slv bd] = some (H5.set 0 ⟨[.int .i64 st, v', slv bd], 0, true, .no⟩) := by rw [hset_at q05]; simp [splice]
    have hg6 : hget (H5.set 0 ⟨[.int .i64 st, v', slv bd], 0, true, .no⟩) 0 0 3 0 = some [.int .i64 st, v', slv bd] := by rw [hget_at (set_self q05)]; simp
    obtain ⟨H7, s7, _⟩ := resp_snapW (b := bd) st (((v3.kp k4).kp k5).set (j := 0) ⟨[.int .i64 st, v', slv bd], 0, true, .no⟩ r0) 60
    have hvc := hA.cell
    have hob1 := (bytV_ok (outB st fs ++ bd)).ob
    have hob2 := fun H => obK_sl (H := H) (f := false) (b := b.take (at_ + n))
    generalize b.take (at_ + n) = bt at *
    generalize outB st fs ++ bd = ob at *
    generalize rightB st fs bd br = rb at *
    push_cast at hbs hbs0
    have hw : IntKind.i64.wrap ((at_ : Int) + n) = at_ + n := wr64 (by omega) (by omega)
    have hgt2 : ¬ (b.length : Int) < at_ + n := by omega
    have hn0 : ¬ (n : Int) < 0 := by omega
    have hmin : readR none = [.agg [.int .i64 0, nls, nls], .int .i64 (-1)] := rfl
    have hsome : readR (some ((st, fs, bd), at_ + n)) = [respW (st, fs, bd), .int .i64 (at_ + n : Nat)] := rfl
    cases br with
    | false =>
      have hN : rlen fs = n := by simpa using hnn
      rw [hN] at c28
      cases rb with
      | false => simp (disch := omega) [d56, hs, fillP, hstore, hnew, x1, g0, g2, g3, g8, g10, hg1, c28, hn0, hlen, hw, hgt2, hbs, hst2, hg3, c12, z4, hmin]
      | true =>
        by_cases hq2 : ob = bt
        · subst hq2
          simp (disch := omega) [d56, hs, fillP, hstore, hnew, x1, g0, g2, g3, g8, g10, hg1, c28, hn0, hlen, hw, hgt2, hbs, hbs0, hst2, hg3, c12, hg4, c10, hob1, hob2, hg5, hvc, hs6, hg6, s7, hsome]
        · have hq3 : (ob == bt) = false := by simpa using hq2
          simp (disch := omega) [d56, hs, fillP, hstore, hnew, x1, g0, g2, g3, g8, g10, hg1, c28, hn0, hlen, hw, hgt2, hbs, hbs0, hst2, hg3, c12, hg4, c10, hob1, hob2, hq2, hq3, z5, hmin]
    | true =>
      have hN : n = 0 := by simp at hnn; omega
      subst hN
      simp only [Int.natCast_zero, Int.add_zero, Nat.add_zero] at hbs hbs0 hw hgt2 hn0 hsome ⊢
      cases rb with
      | false => simp (disch := omega) [d56, hs, fillP, hstore, hnew, x1, g0, g2, g3, g8, g10, hg1, c28, hn0, hlen, hw, hgt2, hbs, hst2, hg3, c12, z4, hmin]
      | true =>
        by_cases hq2 : ob = bt
        · subst hq2
          simp (disch := omega) [d56, hs, fillP, hstore, hnew, x1, g0, g2, g3, g8, g10, hg1, c28, hn0, hlen, hw, hgt2, hbs, hbs0, hst2, hg3, c12, hg4, c10, hob1, hob2, hg5, hvc, hs6, hg6, s7, hsome]
        · have hq3 : (ob == bt) = false := by simpa using hq2
          simp (disch := omega) [d56, hs, fillP, hstore, hnew, x1, g0, g2, g3, g8, g10, hg1, c28, hn0, hlen, hw, hgt2, hbs, hbs0, hst2, hg3, c12, hg4, c10, hob1, hob2, hq2, hq3, z5, hmin]
end Go.Eng.S
namespace Go.Eng.S
open Go Go.Eng
set_option linter.unusedSectionVars false
variable [Sit]
set_option maxRecDepth 20000
abbrev crcr : Seg := [13, 10, 13, 10]
/-- Where an empty line begins. -/
def f4 : Nat → Seg → Option Nat
  | _i, [] => none
  | i, c :: r => if (c :: r).take 4 = crcr then some i else f4 (i + 1) r
theorem f4_short : ∀ (s : Seg) (i : Nat), s.length < 4 → f4 i s = none
  | [], _, _ => rfl
  | c :: r, i, h => by
    rw [f4, if_neg]
    · exact f4_short r (i + 1) (by simp at h; omega)
    · intro e
      have := congrArg List.length e
      simp at this h
      omega
theorem f4_spec : ∀ (s : Seg) (i j : Nat), f4 i s = some j → i ≤ j ∧ j + 4 ≤ i + s.length
  | [], _, _, h => by cases h
  | c :: r, i, j, h => by
    rw [f4] at h
    split at h
    · rename_i e
      cases h
      have := congrArg List.length e
      simp only [List.length_take, List.length_cons, List.length_nil] at this ⊢
      omega
    · have := f4_spec r (i + 1) j h
      simp only [List.length_cons]
      omega
def oneRL (b : Seg) (br : Bool) : Option (Rsp × Nat) := match f4 0 b with
  | some i => readL b (i + 2) (i + 4) br
  | none => none
def rowOfR (o : Option (Rsp × Nat)) : AObj := match o with
  | some (r, _) => ⟨[.int .i64 r.1, fldV r.2.1, slv r.2.2], 0, true, .no⟩
  | none => zRow
def numOfR (o : Option (Rsp × Nat)) : Int := match o with
  | some (_, n) => n
  | none => -1
set_option maxHeartbeats 1000000 in
theorem one34_loop (b : Seg) (hb : b.length < 1000000) (br : Bool) : ∀ (k i : Nat), b.length ≤ i + k → i ≤ b.length →
    ∃ e', XL T [0, 1, 4, 6] L34_0 [(0, slv b), (1, .bool br), (4, .ptr 0 0 0), (6, .int .i64 i)] [zRow] = some (if (f4 i (b.drop i)).isSome = true then .ret else .exit 0, e', [match f4 i (b.drop i) with
      | some j => rowOfR (readL b (j + 2) (j + 4) br)
      | none => zRow]) ∧ e'.get 4 = .ptr 0 0 0 ∧ (∀ j, f4 i (b.drop i) = some j → e'.get 5 = .int .i64 (numOfR (readL b (j + 2) (j + 4) br)))
  | k, i, hk, hi => by
    have hlen : ∀ H, lenK H (slv b) = some (.int .i64 b.length, H) := BV.len (.inr rfl)
    by_cases hlt : i + 4 ≤ b.length
    · match k, hk with
      | 0, hk => omega
      | k + 1, hk =>
      have hI : (i : Int) + 4 ≤ b.length := by omega
      have hw4 : IntKind.i64.wrap ((i : Int) + 4) = (i : Int) + 4 := wr64 (by omega) (by omega)
      have hw2 : IntKind.i64.wrap ((i : Int) + 2) = (i : Int) + 2 := wr64 (by omega) (by omega)
      have hw1 : IntKind.i64.wrap ((i : Int) + 1) = (i : Int) + 1 := wr64 (by omega) (by omega)
      have e4 : ((i + 4 : Nat) : Int) = (i : Int) + 4 := by omega
      have e2 : ((i + 2 : Nat) : Int) = (i : Int) + 2 := by omega
      have hsl := bslice b i 4 hlt [zRow]
      rw [e4] at hsl
      have hob := obK_sl (H := [zRow]) (f := false) (b := (b.drop i).take 4)
      have hd : b.drop i = b[i]'(by omega) :: b.drop (i + 1) := List.drop_eq_getElem_cons (by omega)
      have hf : f4 i (b.drop i) = if (b.drop i).take 4 = crcr then some i else f4 (i + 1) (b.drop (i + 1)) := by
        conv => lhs; rw [hd, f4]
        rw [← hd]
      rw [hf]
      by_cases hc : (b.drop i).take 4 = crcr
      · rw [if_pos hc]
        rw [hc] at hsl hob
        have hr := read_ok b hb (i + 2) (i + 4) (by omega) (by omega) br [zRow]
        rw [e4, e2] at hr
        have hx : ∃ e', XL T [0, 1, 4, 6] L34_0 [(0, slv b), (1, .bool br), (4, .ptr 0 0 0), (6, .int .i64 i)] [zRow] = some (.ret, e', [rowOfR (readL b (i + 2) (i + 4) br)]) ∧ e'.get 4 = .ptr 0 0 0 ∧ e'.get 5 = .int .i64 (numOfR (readL b (i + 2) (i + 4) br)) := by
          rw [XL_eq]
          generalize XL T [0, 1, 4, 6] L34_0 = lp at *
          cases ho : readL b (i + 2) (i + 4) br with
          | none =>
            rw [ho] at hr
            have hst : hset [zRow] 0 0 0 [.int .i64 0, nls, nls] = some [zRow] := rfl
            simp only [readR] at hr
            simp (disch := omega) [L34_0, hlen, hI, hw4, hw2, hsl, hob, hr, hst, rowOfR, numOfR]
          | some p =>
            obtain ⟨r, n⟩ := p
            rw [ho] at hr
            have hc1 := (fldV_ok r.2.1).cell
            have hst : hset [zRow] 0 0 0 [.int .i64 r.1, fldV r.2.1, slv r.2.2] = some [⟨[.int .i64 r.1, fldV r.2.1, slv r.2.2], 0, true, .no⟩] := rfl
            simp only [readR, respW] at hr
            simp (disch := omega) [L34_0, hlen, hI, hw4, hw2, hsl, hob, hr, hc1, hst, rowOfR, numOfR]
        obtain ⟨e', x1, x2, x3⟩ := hx
        exact ⟨e', by simpa using x1, x2, fun j hj => by cases hj; exact x3⟩
      · rw [if_neg hc]
        have ih := one34_loop b hb br k (i + 1) (by omega) (by omega)
        push_cast at ih
        have hcb : ((b.drop i).take 4 == crcr) = false := by simpa using hc
        have hx : XL T [0, 1, 4, 6] L34_0 [(0, slv b), (1, .bool br), (4, .ptr 0 0 0), (6, .int .i64 i)] [zRow] = XL T [0, 1, 4, 6] L34_0 [(0, slv b), (1, .bool br), (4, .ptr 0 0 0), (6, .int .i64 ((i : Int) + 1))] [zRow] := by
          rw [XL_eq]
          generalize XL T [0, 1, 4, 6] L34_0 = lp at *
          generalize (b.drop i).take 4 = w at *
          simp (disch := omega) [L34_0, hlen, hI, hw4, hw1, hsl, hob, hcb]
        rw [hx]
        exact ih
    · have hI : ¬ (i : Int) + 4 ≤ b.length := by omega
      have hw4 : IntKind.i64.wrap ((i : Int) + 4) = (i : Int) + 4 := wr64 (by omega) (by omega)
      rw [f4_short (b.drop i) i (by simp; omega), XL_eq]
      simp (disch := omega) [L34_0, hlen, hI, hw4]
theorem one34_ok (a : AV) (b : Seg) (ha : BV a b) (hb : b.length < 1000000) (br : Bool) (H : Heap) : C T 34 [a, .bool br] H = some (.tup (readR (oneRL b br)), H) := by
  refine anyH fd34 rfl (by simp [closedL, ha.closed, AV.closed]) ?_ H
  rw [q34]
  have hs := ha.snap 63 []
  have hz : hset [zRow] 0 0 0 [.int .i64 0, nls, nls] = some [zRow] := rfl
  have hzg : hget [zRow] 0 0 3 0 = some [.int .i64 0, nls, nls] := rfl
  have hmin : readR none = [.agg [.int .i64 0, nls, nls], .int .i64 (-1)] := rfl
  rcases ha with ⟨rfl, rfl⟩ | rfl
  · have hx : ∃ e', XL T [0, 1, 4, 6] L34_0 [(0, nls), (1, .bool br), (4, .ptr 0 0 0), (6, .int .i64 0)] [zRow] = some (.exit 0, e', [zRow]) ∧ e'.get 4 = .ptr 0 0 0 := by
      rw [XL_eq]
      simp [L34_0]
    obtain ⟨e', x1, x2⟩ := hx
    have ho : oneRL [] br = none := rfl
    rw [ho, hmin]
    simp [d34, hnew, x1, x2, fillP, hz, hzg]
  · obtain ⟨e', x1, x2, x3⟩ := one34_loop b hb br b.length 0 (by omega) (by omega)
    simp only [List.drop_zero, Int.natCast_zero] at x1 x3
    unfold oneRL
    cases hf : f4 0 b with
    | none =>
      rw [hf] at x1
      simp only [Option.isSome_none, Bool.false_eq_true, if_false] at x1
      rw [hmin]
      simp [d34, hs, hnew, x1, x2, fillP, hz, hzg]
    | some j =>
      rw [hf] at x1
      simp only [Option.isSome_some, if_true] at x1
      have x3 := x3 j hf
      simp only
      cases ho : readL b (j + 2) (j + 4) br with
      | none =>
        rw [ho] at x1 x3
        simp only [rowOfR, numOfR] at x1 x3
        rw [hmin]
        simp [d34, hs, hnew, x1, x2, x3, hzg]
      | some p =>
        obtain ⟨r, n⟩ := p
        rw [ho] at x1 x3
        simp only [rowOfR, numOfR] at x1 x3
        have hg : hget [⟨[.int .i64 r.1, fldV r.2.1, slv r.2.2], 0, true, .no⟩] 0 0 3 0 = some [.int .i64 r.1, fldV r.2.1, slv r.2.2] := rfl
        have hsr := resp_self r.1 _ _ r.2.1 r.2.2 (fldV_ok _) (.inr rfl) 60 [⟨[.int .i64 r.1, fldV r.2.1, slv r.2.2], 0, true, .no⟩]
        simp [d34, hs, hnew, x1, x2, x3, hg, hsr, readR]
end Go.Eng.S
namespace Go.Eng.S
open Go Go.Eng
set_option linter.unusedSectionVars false
variable [Sit]
set_option maxRecDepth 20000
def rcellW (r : Rsp) : List AV := [.int .i64 r.1, fldV r.2.1, slv r.2.2]
def rcellsW (L : List Rsp) : List AV := L.flatMap rcellW
theorem rcellsW_cons (r : Rsp) (L : List Rsp) : rcellsW (r :: L) = .int .i64 r.1 :: fldV r.2.1 :: slv r.2.2 :: rcellsW L := rfl
theorem rcellsW_app (L M : List Rsp) : rcellsW (L ++ M) = rcellsW L ++ rcellsW M := by unfold rcellsW; rw [List.flatMap_append]
theorem rcellsW_snap (k : Nat) : ∀ (L : List Rsp) (H : Heap), mapS (snap (k + 1)) H (rcellsW L) = some (rcellsW L, H)
  | [], H => rfl
  | r :: L, H => by
    have ih := rcellsW_snap k L H
    have h1 := (fldV_ok r.2.1).snap k H
    have h2 := BV.snap (a := slv r.2.2) (.inr rfl) k H
    simp only [slv] at h2
    rw [rcellsW_cons]
    simp [ih, h1, h2]
def rspsW (L : List Rsp) : AV := accV 3 L.length (rcellsW L)
theorem RCs.rcW : ∀ L : List Rsp, RCs (rcellsW L) L
  | [] => trivial
  | _r :: L => ⟨rfl, fldV_ok _, .inr rfl, RCs.rcW L⟩
theorem LV.rspsW (L : List Rsp) : LV (rspsW L) L := by
  unfold S.rspsW accV
  by_cases h : L.length = 0
  · rw [if_pos h]; exact .inl ⟨List.eq_nil_of_length_eq_zero h, rfl⟩
  · rw [if_neg h]; exact .inr ⟨_, rfl, RCs.rcW L⟩
theorem readL_n {b : Seg} {en at_ : Nat} {br : Bool} {r : Rsp} {n : Nat} (h : readL b en at_ br = some (r, n)) : at_ ≤ n ∧ n ≤ b.length := by
  unfold readL at h
  generalize hnn : (if br = true then 0 else rlen (rdL b en).2) = nn at h
  have hnt : (if br = true then 0 else (rlen (rdL b en).2).toNat) = nn.toNat := by rw [← hnn]; split <;> rfl
  rw [hnt] at h
  split at h
  · cases h
  · rename_i hgt
    split at h
    · cases h
      omega
    · cases h
theorem oneRL_n {b : Seg} {br : Bool} {r : Rsp} {n : Nat} (h : oneRL b br = some (r, n)) : 0 < n ∧ n ≤ b.length := by
  unfold oneRL at h
  split at h
  · rename_i i hf
    have := readL_n h
    omega
  · cases h
def splPW (o : Option (List Rsp)) (out : List Rsp) (x : XR) : Prop := match o with
  | some l => ∃ e' H' v', x = some (.exit 0, e', H') ∧ e'.get 6 = v' ∧ Acc H' v' 3 (out ++ l).length (rcellsW (out ++ l))
  | none => ∃ e' H', x = some (.ret, e', H') ∧ e'.get 4 = nls ∧ e'.get 5 = .bool false
set_option maxHeartbeats 1000000 in
theorem rsplit_loop (bare : List Bool) (ba : AV) (hba : BoV ba bare) (hbl : bare.length < 4611686018427387904) : ∀ (k : Nat) (b : Seg) (a : AV) (out : List Rsp) (v : AV) (H : Heap), b.length ≤ k → BV a b → b.length + out.length < 1000000 → Acc H v 3 out.length (rcellsW out) →
    splPW (splitL oneRL bare k out.length b) out (XL T [0, 1, 6] L17_0 [(0, a), (1, ba), (6, v)] H)
  | k, b, a, out, v, H, hk, hb, ho, hA => by
    have hlen := hb.len
    by_cases h0 : b = []
    · subst h0
      have hsl : splitL oneRL bare k out.length [] = some [] := by cases k <;> rfl
      rw [hsl, XL_eq]
      have hx : ∃ e', seqK (X T L17_0 (Env.keep [0, 1, 6] [(0, a), (1, ba), (6, v)]) H) (fun e' H' => XL T [0, 1, 6] L17_0 (Env.keep [0, 1, 6] e') H') = some (.exit 0, e', H) ∧ e'.get 6 = v := by
        simp [L17_0, hlen]
      obtain ⟨e', x1, x2⟩ := hx
      exact ⟨e', H, v, x1, x2, by simpa using hA⟩
    · have hpos : 0 < b.length := List.length_pos_iff.2 h0
      match k, hk with
      | 0, hk => omega
      | k + 1, hk =>
      have hpI : (0 : Int) < b.length := by omega
      have hlv := hA.lenK
      have hbal := hba.len
      have hbr : ∀ br, C T 34 [a, .bool br] H = some (.tup (readR (oneRL b br)), H) := fun br => one34_ok a b hb (by omega) br H
      have hbi := fun h => hba.ia H (i := out.length) h
      have hasl : a = slv b := by
        rcases hb with ⟨h, _⟩ | h
        · exact absurd h h0
        · exact h
      subst hasl
      have ih := rsplit_loop bare ba hba hbl k
      have hge : bare.getD out.length false = if h : out.length < bare.length then bare[out.length] else false := by
        by_cases h : out.length < bare.length <;> simp [h]
      rw [splitL, if_neg h0, XL_eq]
      generalize hbb : bare.getD out.length false = br at *
      have h1 := hbr br
      have hn := fun r n h => oneRL_n (b := b) (br := br) (r := r) (n := n) h
      generalize XL T [0, 1, 6] L17_0 = lp at *
      cases ho1 : oneRL b br with
      | none =>
        rw [ho1] at h1
        simp only [readR] at h1
        have hst : hset (H ++ [zRow]) H.length 0 0 [.int .i64 0, nls, nls] = some (H ++ [zRow]) := by
          rw [hset_at (cs := [.int .i64 0, nls, nls]) (kd := .no) (by simp)]
          simp [splice]
        show splPW none out _
        unfold splPW
        by_cases hlt : out.length < bare.length
        · have hltI : (out.length : Int) < bare.length := by omega
          have hbi := hbi hlt
          rw [dif_pos hlt] at hge
          rw [← hge] at hbi
          simp (disch := omega) [L17_0, hlen, hlv, hbal, hltI, hbi, h1, hst, hnew]
        · have hltI : ¬ (out.length : Int) < bare.length := by omega
          rw [dif_neg hlt] at hge
          subst hge
          simp (disch := omega) [L17_0, hlen, hlv, hbal, hltI, h1, hst, hnew]
      | some p =>
        obtain ⟨r, n⟩ := p
        rw [ho1] at h1
        simp only [readR] at h1
        obtain ⟨n1, n2⟩ := hn r n ho1
        simp only [respW] at h1
        have hc1 := (fldV_ok r.2.1).cell
        have hst : hset (H ++ [zRow]) H.length 0 0 [.int .i64 r.1, fldV r.2.1, slv r.2.2] = some (H ++ [⟨[.int .i64 r.1, fldV r.2.1, slv r.2.2], 0, true, .no⟩]) := by
          rw [hset_at (cs := [.int .i64 0, nls, nls]) (kd := .no) (by simp)]
          simp [splice]
        have hg : hget (H ++ [⟨[.int .i64 r.1, fldV r.2.1, slv r.2.2], 0, true, .no⟩]) H.length 0 3 0 = some [.int .i64 r.1, fldV r.2.1, slv r.2.2] := by
          rw [hget_at (cs := [.int .i64 r.1, fldV r.2.1, slv r.2.2]) (l := true) (kd := .no) (by simp)]
          simp
        obtain ⟨H2, v2, a1, a2, a3, a4, a5, a6⟩ := (hA.app [⟨[.int .i64 r.1, fldV r.2.1, slv r.2.2], 0, true, .no⟩]).append 56 1 [.int .i64 r.1, fldV r.2.1, slv r.2.2] (by omega) (by simp [hc1]) rfl (by unfold LIM; omega)
        have e1 : rcellsW out ++ [.int .i64 r.1, fldV r.2.1, slv r.2.2] = rcellsW (out ++ [r]) := by rw [rcellsW_app]; rfl
        rw [e1] at a2
        have hbs := bslice1 b n n2
        have hnz : ¬ (n : Int) < 0 := by omega
        have hdl : (b.drop n).length = b.length - n := by simp
        have ih := ih (b.drop n) (slv (b.drop n)) (out ++ [r]) v2 H2 (by omega) (.inr rfl) (by simp; omega) (by simpa using a2)
        have hlo : (out ++ [r]).length = out.length + 1 := by simp
        rw [hlo] at ih
        have hgoal : splPW ((splitL oneRL bare k (out.length + 1) (b.drop n)).map (r :: ·)) out (lp [(0, slv (b.drop n)), (1, ba), (6, v2)] H2) := by
          cases hq : splitL oneRL bare k (out.length + 1) (b.drop n) with
          | none => rw [hq] at ih; exact ih
          | some l =>
            rw [hq] at ih
            obtain ⟨e', H', v', x1, x2, x3⟩ := ih
            exact ⟨e', H', v', x1, x2, by simpa using x3⟩
        show splPW ((splitL oneRL bare k (out.length + 1) (b.drop n)).map (r :: ·)) out _
        have hred : seqK (X T L17_0 (Env.keep [0, 1, 6] [(0, slv b), (1, ba), (6, v)]) H) (fun e' H' => lp (Env.keep [0, 1, 6] e') H') = lp [(0, slv (b.drop n)), (1, ba), (6, v2)] H2 := by
          by_cases hlt : out.length < bare.length
          · have hltI : (out.length : Int) < bare.length := by omega
            have hbi := hbi hlt
            rw [dif_pos hlt] at hge
            rw [← hge] at hbi
            simp (disch := omega) [L17_0, hlen, hlv, hbal, hltI, hbi, h1, hst, hnew, hnz, hc1, hg, fillP, splice, reps, a1, hbs]
          · have hltI : ¬ (out.length : Int) < bare.length := by omega
            rw [dif_neg hlt] at hge
            subst hge
            simp (disch := omega) [L17_0, hlen, hlv, hbal, hltI, h1, hst, hnew, hnz, hc1, hg, fillP, splice, reps, a1, hbs]
        rw [hred]
        exact hgoal
def splVW (o : Option (List Rsp)) : List AV := match o with
  | some l => [rspsW l, .bool true]
  | none => [nls, .bool false]
theorem rsplit_ok (a : AV) (b : Seg) (hb : BV a b) (hl : b.length < 1000000) (ba : AV) (bare : List Bool) (hba : BoV ba bare) (hbl : bare.length < 4611686018427387904) (H : Heap) :
    C T 17 [a, ba] H = some (.tup (splVW (splitL oneRL bare b.length 0 b)), H) := by
  refine anyH fd17 rfl (by simp [closedL, hb.closed, hba.closed]) ?_ H
  rw [q17]
  have hs1 := hb.snap 63 []
  have hs2 := hba.snap 63 []
  have hlp := rsplit_loop bare ba hba hbl b.length b a [] nls [] (Nat.le_refl _) hb (by simpa using hl) (.inl ⟨rfl, rfl, rfl⟩)
  simp only [List.length_nil] at hlp
  cases hq : splitL oneRL bare b.length 0 b with
  | none =>
    rw [hq] at hlp
    obtain ⟨e', H', x1, x2, x3⟩ := hlp
    simp [d17, hs1, hs2, x1, x2, x3, splVW]
  | some l =>
    rw [hq] at hlp
    obtain ⟨e', H', v', x1, x2, x3⟩ := hlp
    obtain ⟨H2, x4⟩ := x3.snap 62 (rcellsW_snap 61 _)
    simp [d17, hs1, hs2, x1, x2, x4, splVW, rspsW]
end Go.Eng.S
