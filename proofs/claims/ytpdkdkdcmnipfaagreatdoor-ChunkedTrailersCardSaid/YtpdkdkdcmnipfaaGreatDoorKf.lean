/- The decoder of chunked bodies: size lines and trailers. No condition. -/
import Derived.Test.YtpdkdkdcmnipfaaGreatDoorKe
namespace Go.Eng.S
open Go Go.Eng
theorem rline_ok {H : Heap} {j most : Nat} {v : AV} {r : Rd} (hj : H[j]? = some (rdRow most v r)) : C T 56 [.ptr j 0 0] H = some (.str r.line, H) := by
  rw [q56]
  simp [d56, hget_at hj, aeq]
theorem put_st {most : Nat} {r : Rd} {c : UInt8} (h : r.st ≤ 3) : (r.put most c).st ≤ 3 := by
  unfold Rd.put
  repeat' split
  all_goals first
    | exact h
    | exact Nat.le_refl _
    | simp
theorem cut_parts (s : List UInt8) (hs : s.length < 1000000000) : ∃ text rest b, (∀ H, C T 55 [.str s, .str [59]] H = some (.tup [.str text, .str rest, .bool b], H)) ∧ (if 59 ∈ s then s.take (cutI 59 s) else s) = text ∧
    (if 59 ∈ s then (s.drop (cutI 59 s + 1)).all (clsB 5) else true) = rest.all (clsB 5) ∧ text.length ≤ s.length ∧ rest.length ≤ s.length := by
  have h := cut1_ok s hs 59
  unfold cutV at h
  by_cases hc : 59 ∈ s
  · simp only [hc, if_true] at h ⊢
    exact ⟨_, _, _, h, rfl, rfl, by simp; omega, by simp⟩
  · simp only [hc, if_false] at h ⊢
    exact ⟨_, _, _, h, rfl, rfl, Nat.le_refl _, by simp⟩
theorem cell_nil : AV.cells (.cst .nilIface) = [.cst .nilIface] := rfl
set_option maxHeartbeats 1000000 in
theorem size_ok {L : Lm} {H : Heap} {i j : Nat} {vo vb : AV} {d : DS} (h : Rep L H i j vo vb d) (c : UInt8) (hs : d.stage = 0) (hb : d.rd.buf.length < 1000000) (hln : (d.rd.put L.line c).line.length < 1000000) (hst : d.rd.st ≤ 3)
    (ho : d.out.length < 1000000000) (hL : L.body ≤ 1099511627776) :
    stgP L H i j vo vb (d.stp L.lim c).1 (d.stp L.lim c).2 (C T 42 [.ptr i 0 0, .int .u8 c.toNat] H) := by
  obtain ⟨H', vb', h1, h2, h3⟩ := put_ok h c 400 (by omega)
  have hst' := put_st (most := L.line) (c := c) hst
  obtain ⟨stage, state, taken, rd, left, out, fields, bytes, err⟩ := d
  simp only at hs hb hln hst ho h1 h2 hst'
  subst hs
  have hll : L.lim.line = L.line := rfl
  have hls : L.lim.size = dsz L.body := rfl
  rw [q42]
  unfold DS.stp
  simp only [hll, hls]
  generalize rd.put L.line c = r at *
  have hrl := rline_ok h2.rd
  have hdec := h2.dec
  by_cases c2 : r.st = 2
  · rw [if_pos c2]
    refine ⟨H', vo, vb', _, ?_, .inl rfl, h2, h3⟩
    simp only [c2, putV] at h1
    simp [d42, h1]
  by_cases c3 : r.st = 3
  · rw [if_neg c2, if_pos c3]
    refine ⟨H', vo, vb', _, ?_, .inl rfl, h2, h3⟩
    simp only [c3, putV] at h1
    simp at h1
    simp [d42, h1]
  by_cases c0 : r.st = 0
  · rw [if_neg c2, if_neg c3, if_pos c0]
    refine ⟨H', vo, vb', _, ?_, rfl, h2, h3⟩
    simp only [c0, putV] at h1
    simp at h1
    simp [d42, h1]
  rw [if_neg c2, if_neg c3, if_neg c0]
  simp only [putV, c2, c3, c0, if_false] at h1
  obtain ⟨text, rest, b, g1, g2, g3, g4, g5⟩ := cut_parts r.line (by omega)
  have hal := all_ok (fun c => field_ok c []) rest (by omega) H'
  have htr := trimRight_ok text (by omega) H'
  have htl := trimR_len _ text rfl
  have hph := parseHex_ok (trimR text) (by omega) L.body (by omega) (by omega) H'
  have hg1 := g1 H'
  unfold dsz
  simp only [g2, g3]
  generalize trimR text = t at *
  cases ha : rest.all (clsB 5) with
  | false =>
    rw [ha] at hal
    refine ⟨H', vo, vb', _, ?_, .inl rfl, h2, h3⟩
    simp [d42, h1, hget_at hdec, hrl, hg1, htr, hal]
  | true =>
    rw [ha] at hal
    simp only [Bool.true_eq_false, if_false]
    unfold numR at hph
    by_cases ht : t = []
    · rw [if_pos ht] at hph ⊢
      refine ⟨H', vo, vb', flt 400 0, ?_, .inr ⟨0, rfl⟩, h2, h3⟩
      simp [d42, h1, hget_at hdec, hrl, hg1, htr, hal, hph]
    rw [if_neg ht] at hph ⊢
    cases hf : firstBad hxB t 0 with
    | some q =>
      rw [hf] at hph
      refine ⟨H', vo, vb', flt 400 q, ?_, .inr ⟨q, rfl⟩, h2, h3⟩
      simp [d42, h1, hget_at hdec, hrl, hg1, htr, hal, hph]
    | none =>
      rw [hf] at hph
      simp only at hph ⊢
      cases hd : dv 16 L.body hxI t 0 with
      | none =>
        rw [hd] at hph
        refine ⟨H', vo, vb', flt 413 0, ?_, .inr ⟨0, rfl⟩, h2, h3⟩
        simp [d42, h1, hget_at hdec, hrl, hg1, htr, hal, hph]
      | some n =>
        rw [hd] at hph
        have hn1 := dv_le (by omega) hd
        have hn0 := dv_ge (by omega) rhexD.ge (Int.le_refl 0) hd
        have hsum := sum_ok out.length n L.body (by omega) hn0 (by omega) (by omega) hn1 (by omega) H'
        simp only
        by_cases hov : (L.body : Int) < out.length + n
        · rw [if_pos hov] at hsum ⊢
          refine ⟨H', vo, vb', _, ?_, .inl rfl, h2, h3⟩
          rcases h2.out with ⟨hh, hv⟩ | ⟨k, g, hv, hh, hr⟩ <;> subst hv <;> simp at hh <;> (first | subst hh | skip) <;> (try simp at hsum) <;> simp [d42, h1, hget_at hdec, hrl, hg1, htr, hal, hph, hsum]
        · rw [if_neg hov] at hsum ⊢
          obtain ⟨m, rfl⟩ : ∃ m : Nat, n = m := ⟨n.toNat, by omega⟩
          have e0 : ((m : Int)).toNat = m := rfl
          rw [e0]
          refine ⟨H'.set i (dcRow L j vo ⟨if m = 0 then 3 else 1, state, taken, r, m, out, fields, bytes, err⟩), vo, vb', .cst .nilIface, ?_, rfl, h2.set _ rfl rfl, h3.trans (Nx.set ..)⟩
          by_cases hm : m = 0
          · subst hm
            rcases h2.out with ⟨hh, hv⟩ | ⟨k, g, hv, hh, hr⟩ <;> subst hv <;> simp at hh <;> (first | subst hh | skip) <;> (try simp at hsum) <;> simp [d42, h1, hget_at hdec, hset_at hdec, hset_sa hdec, hrl, hg1, htr, hal, hph, hsum] <;> rfl
          · have hm' : ((m : Int) == 0) = false := by rw [beq_eq_false_iff_ne]; omega
            simp at hm'
            rcases h2.out with ⟨hh, hv⟩ | ⟨k, g, hv, hh, hr⟩ <;> subst hv <;> simp at hh <;> (first | subst hh | skip) <;> (try simp at hsum) <;> simp [d42, h1, hget_at hdec, hset_at hdec, hset_sa hdec, hrl, hg1, htr, hal, hph, hsum, hm] <;> rfl
set_option maxHeartbeats 1000000 in
theorem trailer_ok {L : Lm} {H : Heap} {i j : Nat} {vo vb : AV} {d : DS} (h : Rep L H i j vo vb d) (c : UInt8) (hs : d.stage = 3) (hb : d.rd.buf.length < 1000000) (hln : (d.rd.put L.line c).line.length < 1000000) (hst : d.rd.st ≤ 3)
    (hf0 : d.fields < 1000000000) (hb0 : d.bytes < 1000000000) :
    stgP L H i j vo vb (d.stp L.lim c).1 (d.stp L.lim c).2 (C T 45 [.ptr i 0 0, .int .u8 c.toNat] H) := by
  obtain ⟨H', vb', h1, h2, h3⟩ := put_ok h c 431 (by omega)
  have hst' := put_st (most := L.line) (c := c) hst
  obtain ⟨stage, state, taken, rd, left, out, fields, bytes, err⟩ := d
  simp only at hs hb hln hst hf0 hb0 h1 h2 hst'
  subst hs
  have hll : L.lim.line = L.line := rfl
  have hlf : L.lim.fields = L.fields := rfl
  have hlh : L.lim.head = L.head := rfl
  have hlp : L.lim.field = fldOK := rfl
  rw [q45]
  unfold DS.stp
  simp only [hll, hlf, hlh, hlp]
  generalize rd.put L.line c = r at *
  have hrl := rline_ok h2.rd
  have hdec := h2.dec
  by_cases c2 : r.st = 2
  · rw [if_pos c2]
    refine ⟨H', vo, vb', _, ?_, .inl rfl, h2, h3⟩
    simp only [c2, putV] at h1
    simp [d45, h1]
  by_cases c3 : r.st = 3
  · rw [if_neg c2, if_pos c3]
    refine ⟨H', vo, vb', _, ?_, .inl rfl, h2, h3⟩
    simp only [c3, putV] at h1
    simp at h1
    simp [d45, h1]
  by_cases c0 : r.st = 0
  · rw [if_neg c2, if_neg c3, if_pos c0]
    refine ⟨H', vo, vb', _, ?_, rfl, h2, h3⟩
    simp only [c0, putV] at h1
    simp at h1
    simp [d45, h1]
  rw [if_neg c2, if_neg c3, if_neg c0]
  simp only [putV, c2, c3, c0, if_false] at h1
  by_cases hn : r.line = []
  · rw [if_pos hn]
    refine ⟨H'.set i (dcRow L j vo ⟨3, 1, taken, r, left, out, fields, bytes, err⟩), vo, vb', .cst .nilIface, ?_, rfl, h2.set _ rfl rfl, h3.trans (Nx.set ..)⟩
    simp [d45, h1, hget_at hdec, hset_at hdec, hrl, hn] <;> rfl
  rw [if_neg hn]
  have hn' : (r.line == []) = false := by simpa using hn
  have hrow : ∀ H2 : Heap, H2 = H'.set i (dcRow L j vo ⟨3, state, taken, r, left, out, fields + 1, bytes + (r.line.length + 2), err⟩) → Rep L H2 i j vo vb' ⟨3, state, taken, r, left, out, fields + 1, bytes + (r.line.length + 2), err⟩ ∧ Nx H H2 i j vo vb vo vb' := fun H2 e => by
    subst e
    exact ⟨h2.set _ rfl rfl, h3.trans (Nx.set ..)⟩
  obtain ⟨hr1, hr2⟩ := hrow _ rfl
  by_cases hov : fields + 1 > L.fields ∨ bytes + (r.line.length + 2) > L.head
  · rw [if_pos hov]
    refine ⟨_, vo, vb', _, ?_, .inl rfl, hr1, hr2⟩
    by_cases ho1 : fields + 1 > L.fields
    · have g1 : (L.fields : Int) < (fields : Int) + 1 := by omega
      simp (disch := omega) [d45, h1, hget_at hdec, hset_at hdec, hget_sa hdec, hset_sa hdec, hrl, hn', g1] <;> rfl
    · have g1 : ¬ (L.fields : Int) < (fields : Int) + 1 := by omega
      have g2 : (L.head : Int) < (bytes : Int) + ((r.line.length : Int) + 2) := by omega
      simp (disch := omega) [d45, h1, hget_at hdec, hset_at hdec, hget_sa hdec, hset_sa hdec, hrl, hn', g1, g2] <;> rfl
  · rw [if_neg hov]
    have g1 : ¬ (L.fields : Int) < (fields : Int) + 1 := by omega
    have g2 : ¬ (L.head : Int) < (bytes : Int) + ((r.line.length : Int) + 2) := by omega
    obtain ⟨x, e, p1, p2, p3⟩ := fparse_ok r.line hln
    have he : errA (if fldOK r.line = true then none else some 400) e := by
      cases hfo : fldOK r.line with
      | true => rw [p2 hfo]; rfl
      | false => obtain ⟨a, ha⟩ := p3 hfo; rw [ha]; exact .inr ⟨a, rfl⟩
    refine ⟨_, vo, vb', e, ?_, he, hr1, hr2⟩
    simp (disch := omega) [d45, h1, hget_at hdec, hset_at hdec, hget_sa hdec, hset_sa hdec, hrl, hn', g1, g2, p1] <;> rfl
end Go.Eng.S
