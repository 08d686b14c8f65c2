/- The decoder of chunked bodies, a byte. No condition. -/
import Derived.Test.YtpdkdkdcmnipfaaGreatDoorKs
import Derived.Test.YtpdkdkdcmnipfaaGreatDoorKa
namespace Go.Eng.S
open Go Go.Eng
structure Lm where
  line : Nat
  head : Nat
  fields : Nat
  body : Nat
/-- The size of a size line, or a status. -/
def dsz (body : Nat) (s : List UInt8) (before : Nat) : Nat ⊕ Nat :=
  if (if 59 ∈ s then (s.drop (cutI 59 s + 1)).all (clsB 5) else true) = false then .inl 400 else
  if trimR (if 59 ∈ s then s.take (cutI 59 s) else s) = [] then .inl 400 else
  match firstBad hxB (trimR (if 59 ∈ s then s.take (cutI 59 s) else s)) 0 with
  | some _ => .inl 400
  | none => match dv 16 body hxI (trimR (if 59 ∈ s then s.take (cutI 59 s) else s)) 0 with
    | none => .inl 413
    | some n => if (body : Int) < before + n then .inl 413 else .inr n.toNat
def Lm.lim (L : Lm) : Lim := ⟨L.line, L.head, L.fields, dsz L.body, fldOK⟩
def verr : Option (Nat × Nat) → AV
  | none => .cst .nilIface
  | some (s, a) => flt s a
abbrev dcRow (L : Lm) (j : Nat) (vo : AV) (d : DS) : AObj := ⟨[.int .i64 L.line, .int .i64 L.head, .int .i64 L.fields, .int .i64 L.body, .int .i64 d.stage, .int .i64 d.state, .int .i64 d.taken, .ptr j 0 0, .int .i64 d.left, vo, .int .i64 d.fields, .int .i64 d.bytes, verr d.err], 0, true⟩
structure Rep (L : Lm) (H : Heap) (i j : Nat) (vo vb : AV) (d : DS) : Prop where
  dec : H[i]? = some (dcRow L j vo d)
  rd : H[j]? = some (rdRow L.line vb d.rd)
  out : Own H vo d.out
  buf : Own H vb d.rd.buf
  ij : i ≠ j
  oi : rowOf vo ≠ some i
  oj : rowOf vo ≠ some j
  bi : rowOf vb ≠ some i
  bj : rowOf vb ≠ some j
  ob : ∀ k, rowOf vo = some k → rowOf vb ≠ some k
structure Nx (H H' : Heap) (i j : Nat) (vo vb vo' vb' : AV) : Prop where
  len : H.length ≤ H'.length
  fr : ∀ k o, k ≠ i → k ≠ j → rowOf vo ≠ some k → rowOf vb ≠ some k → H[k]? = some o → H'[k]? = some o
  ro : ∀ k, rowOf vo' = some k → rowOf vo = some k ∨ H.length ≤ k
  rb : ∀ k, rowOf vb' = some k → rowOf vb = some k ∨ H.length ≤ k
theorem Nx.refl (H : Heap) (i j : Nat) (vo vb : AV) : Nx H H i j vo vb vo vb := ⟨Nat.le_refl _, fun _ _ _ _ _ _ h => h, fun _ h => .inl h, fun _ h => .inl h⟩
theorem Nx.trans {H H1 H2 : Heap} {i j : Nat} {vo vb vo1 vb1 vo2 vb2 : AV} (a : Nx H H1 i j vo vb vo1 vb1) (b : Nx H1 H2 i j vo1 vb1 vo2 vb2) : Nx H H2 i j vo vb vo2 vb2 where
  len := Nat.le_trans a.len b.len
  fr k o hi hj ho hb h := by
    have hk := (List.getElem?_eq_some_iff.1 h).1
    refine b.fr k o hi hj (fun e => ?_) (fun e => ?_) (a.fr k o hi hj ho hb h)
    · rcases a.ro k e with h | h
      · exact ho h
      · omega
    · rcases a.rb k e with h | h
      · exact hb h
      · omega
  ro k h := by
    rcases b.ro k h with h | h
    · exact a.ro k h
    · exact .inr (Nat.le_trans a.len h)
  rb k h := by
    rcases b.rb k h with h | h
    · exact a.rb k h
    · exact .inr (Nat.le_trans a.len h)
/-- A new row of the decoder, with the same reader and the same data. -/
theorem Rep.set {L : Lm} {H : Heap} {i j : Nat} {vo vb : AV} {d : DS} (h : Rep L H i j vo vb d) (d' : DS) (h1 : d'.rd = d.rd) (h2 : d'.out = d.out) : Rep L (H.set i (dcRow L j vo d')) i j vo vb d' where
  dec := set_self h.dec
  rd := by rw [h1]; exact set_ne (Ne.symm h.ij) h.rd
  out := by rw [h2]; exact h.out.mono fun k o hk hr => set_ne (fun e => h.oi (by rw [← e]; exact hk)) hr
  buf := by rw [h1]; exact h.buf.mono fun k o hk hr => set_ne (fun e => h.bi (by rw [← e]; exact hk)) hr
  ij := h.ij
  oi := h.oi
  oj := h.oj
  bi := h.bi
  bj := h.bj
  ob := h.ob
theorem Nx.set (H : Heap) (i j : Nat) (vo vb : AV) (o : AObj) : Nx H (H.set i o) i j vo vb vo vb := ⟨by simp, fun _ _ hi _ _ _ h => set_ne hi h, fun _ h => .inl h, fun _ h => .inl h⟩
theorem Rep.app {L : Lm} {H : Heap} {i j : Nat} {vo vb : AV} {d : DS} (h : Rep L H i j vo vb d) (G : Heap) : Rep L (H ++ G) i j vo vb d :=
  ⟨app_get h.dec, app_get h.rd, h.out.mono fun _ _ _ h => app_get h, h.buf.mono fun _ _ _ h => app_get h, h.ij, h.oi, h.oj, h.bi, h.bj, h.ob⟩
theorem Nx.app (H G : Heap) (i j : Nat) (vo vb : AV) : Nx H (H ++ G) i j vo vb vo vb := ⟨by simp, fun _ _ _ _ _ _ h => app_get h, fun _ h => .inl h, fun _ h => .inl h⟩

def putV (st : Int) (n : Nat) : List AV := if n = 2 then [.bool false, .iface 49 (.int .i64 400)] else if n = 3 then [.bool false, .iface 49 (.int .i64 st)] else if n = 0 then [.bool false, .cst .nilIface] else [.bool true, .cst .nilIface]
theorem put_ok {L : Lm} {H : Heap} {i j : Nat} {vo vb : AV} {d : DS} (h : Rep L H i j vo vb d) (c : UInt8) (st : Int) (hl : d.rd.buf.length < 1000000000) :
    ∃ H' vb', C T 54 [.ptr i 0 0, .int .u8 c.toNat, .int .i64 st] H = some (.tup (putV st (d.rd.put L.line c).st), H') ∧ Rep L H' i j vo vb' { d with rd := d.rd.put L.line c } ∧ Nx H H' i j vo vb vo vb' := by
  obtain ⟨H', vb', h1, h2, h3, h4, h5, h6⟩ := rdput_ok H j L.line vb d.rd c h.rd h.buf h.bj hl
  have hil := (List.getElem?_eq_some_iff.1 h.dec).1
  have hjl := (List.getElem?_eq_some_iff.1 h.rd).1
  refine ⟨H', vb', ?_, ?_, ?_⟩
  · rw [q54]
    have hdec := h.dec
    generalize hn : (d.rd.put L.line c).st = n at *
    unfold putV
    by_cases c2 : n = 2
    · simp [d54, hget_at hdec, h1, c2]
    · have c2' : ((n : Int) == 2) = false := by rw [beq_eq_false_iff_ne]; omega
      by_cases c3 : n = 3
      · simp [d54, hget_at hdec, h1, c3]
      · have c3' : ((n : Int) == 3) = false := by rw [beq_eq_false_iff_ne]; omega
        by_cases c0 : n = 0
        · simp [d54, hget_at hdec, h1, c0]
        · have c0' : ((n : Int) == 0) = false := by rw [beq_eq_false_iff_ne]; omega
          simp at c2' c3' c0'
          simp [d54, hget_at hdec, h1, c2, c2', c3, c3', c0]
  · exact ⟨h5 i _ h.ij h.bi h.dec, h2, h.out.mono fun k o hk hr => h5 k o (fun e => h.oj (by rw [← e]; exact hk)) (h.ob k hk) hr, h3, h.ij, h.oi, h.oj,
      fun e => (h6 i e).elim h.bi (fun h => by omega), fun e => (h6 j e).elim h.bj (fun h => by omega), fun k hk e => (h6 k e).elim (h.ob k hk) (fun hh => by have := h.out.lt hk; omega)⟩
  · exact ⟨h4, fun k o hi hj ho hb hr => h5 k o hj hb hr, fun k hk => .inl hk, fun k hk => h6 k hk⟩

/-- What a stage answers. -/
def errA : Option Nat → AV → Prop
  | none, v => v = .cst .nilIface
  | some s, v => v = .iface 49 (.int .i64 s) ∨ ∃ a, v = flt s a
def stgP (L : Lm) (H : Heap) (i j : Nat) (vo vb : AV) (d' : DS) (e : Option Nat) (r : Option (AV × Heap)) : Prop :=
  ∃ H' vo' vb' v, r = some (v, H') ∧ errA e v ∧ Rep L H' i j vo' vb' d' ∧ Nx H H' i j vo vb vo' vb'
theorem data_ok {L : Lm} {H : Heap} {i j : Nat} {vo vb : AV} {d : DS} (h : Rep L H i j vo vb d) (c : UInt8) (hs : d.stage = 1) (hl : d.out.length < 1000000000) (h1 : 1 ≤ d.left) (h2 : d.left ≤ 1099511627776) :
    stgP L H i j vo vb (d.stp L.lim c).1 (d.stp L.lim c).2 (C T 43 [.ptr i 0 0, .int .u8 c.toNat] H) := by
  obtain ⟨stage, state, taken, rd, left, out, fields, bytes, err⟩ := d
  simp only at hs hl h1 h2
  subst hs
  have hp : DS.stp L.lim ⟨1, state, taken, rd, left, out, fields, bytes, err⟩ c = (⟨if left - 1 = 0 then 2 else 1, state, taken, rd, left - 1, out ++ [c], fields, bytes, err⟩, none) := rfl
  rw [hp]
  obtain ⟨H', vo', ha, ho, hlen, hfr, hrow⟩ := h.out.append c hl
  have hil := (List.getElem?_eq_some_iff.1 h.dec).1
  have hjl := (List.getElem?_eq_some_iff.1 h.rd).1
  have hdec := h.dec
  have hdec' := hfr i _ h.oi h.dec
  have oi' : rowOf vo' ≠ some i := fun e => (hrow i e).elim h.oi (fun h => by omega)
  refine ⟨H'.set i (dcRow L j vo' ⟨if left - 1 = 0 then 2 else 1, state, taken, rd, left - 1, out ++ [c], fields, bytes, err⟩), vo', vb, .cst .nilIface, ?_, rfl, ?_, ⟨by simpa using hlen, fun k o hi hj ho' hb hr => set_ne hi (hfr k o ho' hr), hrow, fun k hk => .inl hk⟩⟩
  · rw [q43]
    have hc1 := ho.cell
    have hc2 := cells_cell hc1
    by_cases h0 : left - 1 = 0
    · rcases h.out with ⟨hh, hv⟩ | ⟨k, g, hv, _, hr⟩ <;> subst hv <;> simp (disch := omega) [d43, hget_at hdec, ha, hset_at hdec', hget_sa hdec', hset_sa hdec', hc1, hc2, h0] <;> rfl
    · have h0' : (left - 1 == 0) = false := by simpa using h0
      rcases h.out with ⟨hh, hv⟩ | ⟨k, g, hv, _, hr⟩ <;> subst hv <;> simp (disch := omega) [d43, hget_at hdec, ha, hset_at hdec', hget_sa hdec', hset_sa hdec', hc1, hc2, h0, h0'] <;> rfl
  · exact ⟨set_self hdec', set_ne (Ne.symm h.ij) (hfr j _ h.oj h.rd), ho.mono fun k o hk hr => set_ne (fun e => oi' (by rw [← e]; exact hk)) hr,
      h.buf.mono fun k o hk hr => set_ne (fun e => h.bi (by rw [← e]; exact hk)) (hfr k o (fun e => h.ob k e hk) hr), h.ij, oi', fun e => (hrow j e).elim h.oj (fun h => by omega), h.bi, h.bj,
      fun k hk e => (hrow k hk).elim (fun hh => h.ob k hh e) (fun hh => by have := h.buf.lt e; omega)⟩
theorem end_ok {L : Lm} {H : Heap} {i j : Nat} {vo vb : AV} {d : DS} (h : Rep L H i j vo vb d) (c : UInt8) (hs : d.stage = 2) (hl : d.left = 0 ∨ d.left = -1) :
    stgP L H i j vo vb (d.stp L.lim c).1 (d.stp L.lim c).2 (C T 44 [.ptr i 0 0, .int .u8 c.toNat] H) := by
  obtain ⟨stage, state, taken, rd, left, out, fields, bytes, err⟩ := d
  simp only at hs hl
  subst hs
  have hdec := h.dec
  rw [q44]
  have e10 := u8_eqlit c 10 10 rfl
  have e13 := u8_eqlit c 13 13 rfl
  rcases hl with rfl | rfl
  · by_cases hc : c = 13
    · have e1 : ((c.toNat : Int) != 13) = false := by rw [bne, e13, hc]; rfl
      have hp : DS.stp L.lim ⟨2, state, taken, rd, 0, out, fields, bytes, err⟩ c = (⟨2, state, taken, rd, -1, out, fields, bytes, err⟩, none) := by simp [DS.stp, hc]
      rw [hp]
      refine ⟨_, vo, vb, .cst .nilIface, ?_, rfl, h.set ⟨2, state, taken, rd, -1, out, fields, bytes, err⟩ rfl rfl, Nx.set ..⟩
      simp (disch := omega) [d44, hget_at hdec, hset_at hdec, hget_sa hdec, e1]
      rfl
    · have e1 : ((c.toNat : Int) != 13) = true := by rw [bne, e13]; simpa using hc
      have hp : DS.stp L.lim ⟨2, state, taken, rd, 0, out, fields, bytes, err⟩ c = (⟨2, state, taken, rd, 0, out, fields, bytes, err⟩, some 400) := by simp [DS.stp, hc]
      rw [hp]
      refine ⟨_, vo, vb, _, ?_, .inl rfl, h, Nx.refl ..⟩
      simp (disch := omega) [d44, hget_at hdec, e1]
  · by_cases hc : c = 10
    · have e1 : ((c.toNat : Int) != 10) = false := by rw [bne, e10, hc]; rfl
      have hp : DS.stp L.lim ⟨2, state, taken, rd, -1, out, fields, bytes, err⟩ c = (⟨0, state, taken, rd, -2, out, fields, bytes, err⟩, none) := by simp [DS.stp, hc]
      rw [hp]
      refine ⟨_, vo, vb, .cst .nilIface, ?_, rfl, h.set ⟨0, state, taken, rd, -2, out, fields, bytes, err⟩ rfl rfl, Nx.set ..⟩
      simp (disch := omega) [d44, hget_at hdec, hset_at hdec, hget_sa hdec, hset_sa hdec, e1]
      rfl
    · have e1 : ((c.toNat : Int) != 10) = true := by rw [bne, e10]; simpa using hc
      have hp : DS.stp L.lim ⟨2, state, taken, rd, -1, out, fields, bytes, err⟩ c = (⟨2, state, taken, rd, -1, out, fields, bytes, err⟩, some 400) := by simp [DS.stp, hc]
      rw [hp]
      refine ⟨_, vo, vb, _, ?_, .inl rfl, h, Nx.refl ..⟩
      simp (disch := omega) [d44, hget_at hdec, e1]
end Go.Eng.S
