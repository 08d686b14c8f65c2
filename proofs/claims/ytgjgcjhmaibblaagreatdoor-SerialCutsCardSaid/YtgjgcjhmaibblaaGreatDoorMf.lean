/- The reference's reading of a response: its lines. The reference's reading of a response: the loop over the lines. The reference's reading of a response: the lines, whole. No condition. -/
import Derived.Test.YtgjgcjhmaibblaaGreatDoorMe
namespace Go.Eng.S
open Go Go.Eng
set_option linter.unusedSectionVars false
variable [Sit]
set_option maxRecDepth 20000
theorem cut2_at (s : Seg) (j : Nat) (hj : j + 1 < s.length) (h : ixAt s 0 = ixAt s j) (hc : s[j] = 58 ∧ s[j + 1] = 32) : cut2 s = (s.take j, s.drop (j + 2)) := by
  rw [ixAt_step hj, if_pos hc, ixAt_zero] at h
  unfold cut2
  rw [h, if_pos (by omega)]
  simp
theorem cut2_no (s : Seg) (h : ixAt s 0 = -1) : cut2 s = (s, []) := by
  rw [ixAt_zero] at h
  unfold cut2
  rw [h, if_neg (by decide)]
theorem rcut_loop (a at_ en : AV) (br i : AV) (s : Seg) (hs : s.length < 1000000000) (q : Nat) : ∀ (k j : Nat) (H : Heap), s.length ≤ j + k → j ≤ s.length → ixAt s 0 = ixAt s j → H[q]? = some ⟨[.str s, .str []], 0, true, .no⟩ →
    ∃ e' H', XL T [0, 1, 2, 3, 8, 10, 12, 13, 17, 18] L56_0 [(0, a), (1, en), (2, at_), (3, br), (8, .ptr 0 0 0), (10, .ptr 1 0 0), (12, i), (13, .str s), (17, .ptr q 0 0), (18, .int .i64 j)] H = some (.exit 2, e', H') ∧
      e'.get 0 = a ∧ e'.get 1 = en ∧ e'.get 2 = at_ ∧ e'.get 3 = br ∧ e'.get 8 = .ptr 0 0 0 ∧ e'.get 10 = .ptr 1 0 0 ∧ e'.get 12 = i ∧ e'.get 17 = .ptr q 0 0 ∧
      H'[q]? = some ⟨[.str (cut2 s).1, .str (cut2 s).2], 0, true, .no⟩ ∧ H'.length = H.length ∧ ∀ (p : Nat) (o : AObj), p ≠ q → H[p]? = some o → H'[p]? = some o
  | k, j, H, hk, hjs, hix, hq => by
    by_cases hlt : j + 1 < s.length
    · match k, hk with
      | 0, hk => omega
      | k + 1, hk =>
      have hltI : (j : Int) + 1 < (s.length : Int) := by omega
      have hltJ : (j : Int) < (s.length : Int) := by omega
      have hg0 : s[j]? = some s[j] := List.getElem?_eq_getElem (by omega)
      have hg1 : s[j + 1]? = some s[j + 1] := List.getElem?_eq_getElem hlt
      have e58 := u8_eqlit s[j] 58 58 rfl
      have e32 := u8_eqlit s[j + 1] 32 32 rfl
      have hw : IntKind.i64.wrap ((j : Int) + 1) = (j : Int) + 1 := wr64 (by omega) (by omega)
      have hst := ixAt_step hlt
      by_cases hc : s[j] = 58 ∧ s[j + 1] = 32
      · have hcut := cut2_at s j hlt hix hc
        have hset2 : hset H q 0 0 [.str (s.take j), .str (s.drop (j + 2))] = some (H.set q ⟨[.str (s.take j), .str (s.drop (j + 2))], 0, true, .no⟩) := by rw [hset_at hq]; simp [splice]
        have t1 : ((s[j].toNat : Int) == 58) = true := by rw [e58]; simpa using hc.1
        have t2 : ((s[j + 1].toNat : Int) == 32) = true := by rw [e32]; simpa using hc.2
        have t1' : (s[j].toNat : Int) = 58 := by simpa using t1
        have t2' : (s[j + 1].toNat : Int) = 32 := by simpa using t2
        have hx : ∃ e', XL T [0, 1, 2, 3, 8, 10, 12, 13, 17, 18] L56_0 [(0, a), (1, en), (2, at_), (3, br), (8, .ptr 0 0 0), (10, .ptr 1 0 0), (12, i), (13, .str s), (17, .ptr q 0 0), (18, .int .i64 j)] H = some (.exit 2, e', H.set q ⟨[.str (s.take j), .str (s.drop (j + 2))], 0, true, .no⟩) ∧
            e'.get 0 = a ∧ e'.get 1 = en ∧ e'.get 2 = at_ ∧ e'.get 3 = br ∧ e'.get 8 = .ptr 0 0 0 ∧ e'.get 10 = .ptr 1 0 0 ∧ e'.get 12 = i ∧ e'.get 17 = .ptr q 0 0 := by
          rw [XL_eq]
          generalize XL T [0, 1, 2, 3, 8, 10, 12, 13, 17, 18] L56_0 = lp at *
          simp (disch := omega) [L56_0, hltI, t1', t2', hset2, fillP, splice]
        obtain ⟨e', x0, x1, x2, x3, x4, x5, x6, x7, x8⟩ := hx
        refine ⟨e', _, x0, x1, x2, x3, x4, x5, x6, x7, x8, ?_, by simp, fun p o hp h => set_ne hp h⟩
        rw [set_self hq, hcut]
      · rw [if_neg hc] at hst
        obtain ⟨e', H', y⟩ := rcut_loop a at_ en br i s hs q k (j + 1) H (by omega) (by omega) (hix.trans hst) hq
        push_cast at y
        have hx : XL T [0, 1, 2, 3, 8, 10, 12, 13, 17, 18] L56_0 [(0, a), (1, en), (2, at_), (3, br), (8, .ptr 0 0 0), (10, .ptr 1 0 0), (12, i), (13, .str s), (17, .ptr q 0 0), (18, .int .i64 j)] H = XL T [0, 1, 2, 3, 8, 10, 12, 13, 17, 18] L56_0 [(0, a), (1, en), (2, at_), (3, br), (8, .ptr 0 0 0), (10, .ptr 1 0 0), (12, i), (13, .str s), (17, .ptr q 0 0), (18, .int .i64 ((j : Int) + 1))] H := by
          rw [XL_eq]
          generalize XL T [0, 1, 2, 3, 8, 10, 12, 13, 17, 18] L56_0 = lp at *
          by_cases h1 : s[j] = 58
          · have h2 : ¬ s[j + 1] = 32 := fun h => hc ⟨h1, h⟩
            have t1 : ((s[j].toNat : Int) == 58) = true := by rw [e58]; simpa using h1
            have t2 : ((s[j + 1].toNat : Int) == 32) = false := by rw [e32]; simpa using h2
            have t1' : (s[j].toNat : Int) = 58 := by simpa using t1
            have t2' : ¬ (s[j + 1].toNat : Int) = 32 := by simpa using t2
            simp (disch := omega) [L56_0, hltI, t2, t1', hw]
          · have t1 : ((s[j].toNat : Int) == 58) = false := by rw [e58]; simpa using h1
            have t1' : ¬ (s[j].toNat : Int) = 58 := by simpa using t1
            simp (disch := omega) [L56_0, hltI, t1, hw]
        rw [hx]
        exact ⟨e', H', y⟩
    · have hltI : ¬ (j : Int) + 1 < (s.length : Int) := by omega
      have hcut := cut2_no s (by rw [hix, ixAt_end (by omega)])
      have hx : ∃ e', XL T [0, 1, 2, 3, 8, 10, 12, 13, 17, 18] L56_0 [(0, a), (1, en), (2, at_), (3, br), (8, .ptr 0 0 0), (10, .ptr 1 0 0), (12, i), (13, .str s), (17, .ptr q 0 0), (18, .int .i64 j)] H = some (.exit 2, e', H) ∧
            e'.get 0 = a ∧ e'.get 1 = en ∧ e'.get 2 = at_ ∧ e'.get 3 = br ∧ e'.get 8 = .ptr 0 0 0 ∧ e'.get 10 = .ptr 1 0 0 ∧ e'.get 12 = i ∧ e'.get 17 = .ptr q 0 0 := by
        rw [XL_eq]
        simp (disch := omega) [L56_0, hltI]
      obtain ⟨e', x0, x1, x2, x3, x4, x5, x6, x7, x8⟩ := hx
      refine ⟨e', _, x0, x1, x2, x3, x4, x5, x6, x7, x8, ?_, rfl, fun p o hp h => h⟩
      rw [hq, hcut]
end Go.Eng.S
namespace Go.Eng.S
open Go Go.Eng
set_option linter.unusedSectionVars false
variable [Sit]
set_option maxRecDepth 20000
/-- The status that the first line gives, if it is long enough. -/
def stR (s : Seg) (st : Int) : Int := if 12 ≤ s.length then (decO 999 ((s.take 12).drop 9)).getD 0 else st
/-- Status and fields: 'fst': no line is complete yet; 'cur': the line so far. -/
def rdS : Bool → Seg → Int → List Fld → Seg → Int × List Fld
  | _, _, st, fs, [] => (st, fs)
  | _, _, st, fs, [_] => (st, fs)
  | fst, cur, st, fs, c :: d :: r => if c = 13 ∧ d = 10 then (if fst = true then rdS false [] (stR cur st) fs r else rdS false [] st (fs ++ [cut2 cur]) r) else rdS fst (cur ++ [c]) st fs (d :: r)
theorem rdS_ne {fst : Bool} {cur : Seg} {st : Int} {fs : List Fld} {c d : UInt8} {r : Seg} (h : ¬ (c = 13 ∧ d = 10)) : rdS fst cur st fs (c :: d :: r) = rdS fst (cur ++ [c]) st fs (d :: r) := by
  rw [rdS, if_neg h]
/-- The record under way. -/
structure RdI (H : Heap) (st : Int) (fs : List Fld) (v : AV) : Prop where
  r0 : H[0]? = some zRow
  r1 : H[1]? = some ⟨[.int .i64 st, v, nls], 0, true, .no⟩
  acc : Acc H v 2 fs.length (fcells fs)
  n0 : rowN v ≠ some 0
  n1 : rowN v ≠ some 1
theorem RdI.len {H : Heap} {st : Int} {fs : List Fld} {v : AV} (h : RdI H st fs v) : 2 ≤ H.length := by
  have := (List.getElem?_eq_some_iff.1 h.r1).1
  omega
theorem RdI.status {H : Heap} {st : Int} {fs : List Fld} {v : AV} (h : RdI H st fs v) (st' : Int) : hset H 1 0 0 [.int .i64 st'] = some (H.set 1 ⟨[.int .i64 st', v, nls], 0, true, .no⟩) ∧ RdI (H.set 1 ⟨[.int .i64 st', v, nls], 0, true, .no⟩) st' fs v :=
  ⟨by rw [hset_at h.r1]; simp [splice], set_ne (by decide) h.r0, set_self h.r1, h.acc.mono fun k o hk ho => set_ne (fun e => h.n1 (by rw [← e]; exact hk)) ho, h.n0, h.n1⟩
/-- A field more. -/
theorem RdI.field {H : Heap} {st : Int} {fs : List Fld} {v : AV} (h : RdI H st fs v) (s : Seg) (hs : s.length < 1000000000) (hl : fs.length < 100000000) (a at_ en br i : AV) :
    ∃ e1 H1 v' H2 H3, XL T [0, 1, 2, 3, 8, 10, 12, 13, 17, 18] L56_0 [(0, a), (1, en), (2, at_), (3, br), (8, .ptr 0 0 0), (10, .ptr 1 0 0), (12, i), (13, .str s), (17, .ptr H.length 0 0), (18, .int .i64 0)] (H ++ [⟨[.str s, .str []], 0, true, .no⟩]) = some (.exit 2, e1, H1) ∧
      e1.get 0 = a ∧ e1.get 1 = en ∧ e1.get 2 = at_ ∧ e1.get 3 = br ∧ e1.get 8 = .ptr 0 0 0 ∧ e1.get 10 = .ptr 1 0 0 ∧ e1.get 12 = i ∧ e1.get 17 = .ptr H.length 0 0 ∧
      hget H1 1 1 1 0 = some [v] ∧ hget H1 H.length 0 2 0 = some [.str (cut2 s).1, .str (cut2 s).2] ∧ aappend .no H1 2 32 v 1 [.str (cut2 s).1, .str (cut2 s).2] = some (v', H2) ∧ v'.isCell = true ∧ hset H2 1 1 0 [v'] = some H3 ∧ RdI H3 st (fs ++ [cut2 s]) v' := by
  have h2 := h.len
  obtain ⟨e1, H1, x0, x1, x2, x3, x4, x5, x6, x7, x8, y1, y2, y3⟩ := rcut_loop a at_ en br i s hs H.length s.length 0 (H ++ [⟨[.str s, .str []], 0, true, .no⟩]) (by omega) (by omega) rfl (by simp)
  have q0 := y3 0 _ (by omega) (app_get h.r0)
  have q1 := y3 1 _ (by omega) (app_get h.r1)
  have hA : Acc H1 v 2 fs.length (fcells fs) := (h.acc.app [⟨[.str s, .str []], 0, true, .no⟩]).mono fun k o hk ho => y3 k o (fun e => by have := h.acc.lt hk; omega) ho
  obtain ⟨H2, v', p1, p2, p3, p4, p5, p6⟩ := hA.append 32 1 [.str (cut2 s).1, .str (cut2 s).2] (by omega) rfl rfl (by unfold LIM; omega)
  have e2 : fcells fs ++ [.str (cut2 s).1, .str (cut2 s).2] = fcells (fs ++ [cut2 s]) := by rw [fcells_app]; rfl
  rw [e2] at p2
  have w0 := p5 0 _ h.n0 q0
  have w1 := p5 1 _ h.n1 q1
  have m0 : rowN v' ≠ some 0 := fun e => (p6 0 e).elim h.n0 (fun h => by rw [y2] at h; simp only [List.length_append, List.length_cons, List.length_nil] at h; omega)
  have m1 : rowN v' ≠ some 1 := fun e => (p6 1 e).elim h.n1 (fun h => by rw [y2] at h; simp only [List.length_append, List.length_cons, List.length_nil] at h; omega)
  refine ⟨e1, H1, v', H2, H2.set 1 ⟨[.int .i64 st, v', nls], 0, true, .no⟩, x0, x1, x2, x3, x4, x5, x6, x7, x8, by rw [hget_at q1]; simp, by rw [hget_at y1]; simp, p1, p3, by rw [hset_at w1]; simp [splice], ?_⟩
  exact ⟨set_ne (by decide) w0, set_self w1, by simpa using p2.mono fun k o hk ho => set_ne (fun e => m1 (by rw [← e]; exact hk)) ho, m0, m1⟩
theorem bslice2 (b : Seg) (i j : Nat) (h : i ≤ j) (hj : j ≤ b.length) (H : Heap) : slK H (slv b) (some (.int .i64 (i : Nat))) (some (.int .i64 (j : Nat))) none = some (slv ((b.take j).drop i), H) := by
  have := bslice b i (j - i) (by omega) H
  rw [show i + (j - i) = j by omega] at this
  rw [this, List.drop_take]
end Go.Eng.S
namespace Go.Eng.S
open Go Go.Eng
set_option linter.unusedSectionVars false
variable [Sit]
set_option maxRecDepth 20000
abbrev rdE (b : Seg) (en at_ : Nat) (br : Bool) (fr i : Int) : Env := [(0, slv b), (1, .int .i64 en), (2, .int .i64 at_), (3, .bool br), (8, .ptr 0 0 0), (10, .ptr 1 0 0), (11, .int .i64 fr), (12, .int .i64 i)]
noncomputable abbrev rdX (b : Seg) (en at_ : Nat) (br : Bool) (fr i : Int) (H : Heap) : XR := XL T [0, 1, 2, 3, 8, 10, 11, 12] L56_1 (rdE b en at_ br fr i) H
/-- No end of a line here. -/
theorem rd_skip (b : Seg) (hb : b.length < 1000000) (en at_ : Nat) (hen : en ≤ b.length) (br : Bool) (fr : Nat) (i : Nat) (hi : i + 1 < en) (h : ¬ (b[i]'(by omega) = 13 ∧ b[i + 1]'(by omega) = 10)) (H : Heap) : rdX b en at_ br fr i H = rdX b en at_ br fr ((i : Int) + 1) H := by
  have hI : (i : Int) + 1 < en := by omega
  have hl0 : (i : Int) < b.length := by omega
  have hl1 : (i : Int) + 1 < b.length := by omega
  have hc0 := bc_at b i (by omega)
  have hc1 := bc_at b (i + 1) (by omega)
  have e13 := u8_eqlit (b[i]'(by omega)) 13 13 rfl
  have e10 := u8_eqlit (b[i + 1]'(by omega)) 10 10 rfl
  have hw : IntKind.i64.wrap ((i : Int) + 1) = (i : Int) + 1 := wr64 (by omega) (by omega)
  have hix1 : ix b.length (.int .i64 ((i : Int) + 1)) = some (i + 1) := by simp only [ix]; rw [if_pos ⟨by omega, hl1⟩]; simp
  unfold rdX
  rw [XL_eq]
  generalize XL T [0, 1, 2, 3, 8, 10, 11, 12] L56_1 = lp at *
  by_cases h1 : b[i]'(by omega) = 13
  · have h2 : ¬ b[i + 1]'(by omega) = 10 := fun h3 => h ⟨h1, h3⟩
    have t1 : ((b[i]'(by omega)).toNat : Int) = 13 := by rw [h1]; rfl
    have t2 : ¬ ((b[i + 1]'(by omega)).toNat : Int) = 10 := fun h3 => h2 (by
      have : ((b[i + 1]'(by omega)).toNat : Int) == 10 := by simpa using h3
      rw [e10] at this
      simpa using this)
    simp (disch := omega) [L56_1, hI, hc0, hc1, hix1, t1, hw]
  · have t1 : ¬ ((b[i]'(by omega)).toNat : Int) = 13 := fun h3 => h1 (by
      have : ((b[i]'(by omega)).toNat : Int) == 13 := by simpa using h3
      rw [e13] at this
      simpa using this)
    simp (disch := omega) [L56_1, hI, hc0, hw]
theorem rd_exit (b : Seg) (en at_ : Nat) (br : Bool) (fr : Int) (i : Nat) (hi : ¬ i + 1 < en) (hb : i < 1000000000) (H : Heap) : ∃ e', rdX b en at_ br fr i H = some (.exit 0, e', H) ∧ e'.get 0 = slv b ∧ e'.get 2 = .int .i64 at_ ∧ e'.get 3 = .bool br ∧ e'.get 8 = .ptr 0 0 0 ∧ e'.get 10 = .ptr 1 0 0 := by
  have hI : ¬ (i : Int) + 1 < en := by omega
  unfold rdX
  rw [XL_eq]
  simp (disch := omega) [L56_1, hI]
/-- The end of the first line. -/
theorem rd_first (b : Seg) (hb : b.length < 1000000) (en at_ : Nat) (hen : en ≤ b.length) (br : Bool) (i : Nat) (hi : i + 1 < en) (h13 : b[i]'(by omega) = 13) (h10 : b[i + 1]'(by omega) = 10) {H : Heap} {st : Int} {fs : List Fld} {v : AV} (hR : RdI H st fs v) :
    ∃ H3, rdX b en at_ br 0 i H = rdX b en at_ br ((i : Int) + 2) ((i : Int) + 1) H3 ∧ RdI H3 (stR (b.take i) st) fs v := by
  have hI : (i : Int) + 1 < en := by omega
  have hl0 : (i : Int) < b.length := by omega
  have hl1 : (i : Int) + 1 < b.length := by omega
  have hc0 := bc_at b i (by omega)
  have hc1 := bc_at b (i + 1) (by omega)
  have t1 : ((b[i]'(by omega)).toNat : Int) = 13 := by rw [h13]; rfl
  have t2 : ((b[i + 1]'(by omega)).toNat : Int) = 10 := by rw [h10]; rfl
  have hw : IntKind.i64.wrap ((i : Int) + 1) = (i : Int) + 1 := wr64 (by omega) (by omega)
  have hw2 : IntKind.i64.wrap ((i : Int) + 2) = (i : Int) + 2 := wr64 (by omega) (by omega)
  have hix1 : ix b.length (.int .i64 ((i : Int) + 1)) = some (i + 1) := by simp only [ix]; rw [if_pos ⟨by omega, hl1⟩]; simp
  have hsl := bslice2 b 0 i (by omega) (by omega) H
  rw [List.drop_zero] at hsl
  have hob := obK_sl (H := H) (f := false) (b := b.take i)
  have hsl' : (b.take i).length = i := by simp; omega
  have hp := rparse_ok (m := 999) rdec (by decide) (by decide) (((b.take i).take 12).drop 9) (by simp; omega) H
  have hp : C T 47 [.str (((b.take i).take 12).drop 9), .int .i64 10, .int .i64 999] H = some (.tup (rdR 999 (((b.take i).take 12).drop 9)), H) := hp
  unfold rdX
  rw [XL_eq]
  generalize XL T [0, 1, 2, 3, 8, 10, 11, 12] L56_1 = lp at *
  generalize b.take i = s at *
  simp only [Int.natCast_zero] at hsl
  unfold stR
  by_cases h12 : 12 ≤ s.length
  · rw [if_pos h12]
    have h12I : (12 : Int) ≤ s.length := by omega
    cases hd : decO 999 ((s.take 12).drop 9) with
    | none =>
      obtain ⟨a, c, h0, hr⟩ := rdR_none hd
      rw [hr] at hp
      obtain ⟨g1, g2⟩ := hR.status 0
      refine ⟨_, ?_, g2⟩
      simp (disch := omega) [L56_1, hI, hc0, hc1, hix1, t1, t2, hw, hw2, hsl, hob, h12I, hp, g1]
    | some n =>
      rw [rdR_some hd] at hp
      obtain ⟨g1, g2⟩ := hR.status n
      refine ⟨_, ?_, g2⟩
      simp (disch := omega) [L56_1, hI, hc0, hc1, hix1, t1, t2, hw, hw2, hsl, hob, h12I, hp, g1]
  · rw [if_neg h12]
    have h12I : ¬ (12 : Int) ≤ s.length := by omega
    refine ⟨H, ?_, hR⟩
    simp (disch := omega) [L56_1, hI, hc0, hc1, hix1, t1, t2, hw, hw2, hsl, hob, h12I]
/-- The end of another line. -/
theorem rd_line (b : Seg) (hb : b.length < 1000000) (en at_ : Nat) (hen : en ≤ b.length) (br : Bool) (fr : Nat) (hfr : 0 < fr) (i : Nat) (hfi : fr ≤ i) (hi : i + 1 < en) (h13 : b[i]'(by omega) = 13) (h10 : b[i + 1]'(by omega) = 10) {H : Heap} {st : Int} {fs : List Fld} {v : AV} (hR : RdI H st fs v) (hfl : fs.length < 100000000) :
    ∃ H3 v', rdX b en at_ br fr i H = rdX b en at_ br ((i : Int) + 2) ((i : Int) + 1) H3 ∧ RdI H3 st (fs ++ [cut2 ((b.take i).drop fr)]) v' := by
  have hI : (i : Int) + 1 < en := by omega
  have hl0 : (i : Int) < b.length := by omega
  have hl1 : (i : Int) + 1 < b.length := by omega
  have hc0 := bc_at b i (by omega)
  have hc1 := bc_at b (i + 1) (by omega)
  have t1 : ((b[i]'(by omega)).toNat : Int) = 13 := by rw [h13]; rfl
  have t2 : ((b[i + 1]'(by omega)).toNat : Int) = 10 := by rw [h10]; rfl
  have hw : IntKind.i64.wrap ((i : Int) + 1) = (i : Int) + 1 := wr64 (by omega) (by omega)
  have hw2 : IntKind.i64.wrap ((i : Int) + 2) = (i : Int) + 2 := wr64 (by omega) (by omega)
  have hix1 : ix b.length (.int .i64 ((i : Int) + 1)) = some (i + 1) := by simp only [ix]; rw [if_pos ⟨by omega, hl1⟩]; simp
  have hsl := bslice2 b fr i hfi (by omega) H
  have hob := obK_sl (H := H) (f := false) (b := (b.take i).drop fr)
  have hsl' : ((b.take i).drop fr).length < 1000000000 := by simp; omega
  have hfz : ¬ (fr : Int) = 0 := by omega
  have hfp : (0 : Int) < fr := by omega
  generalize (b.take i).drop fr = s at *
  obtain ⟨e1, H1, v', H2, H3, x0, x1, x2, x3, x4, x5, x6, x7, x8, y1, y2, y3, y4, y5, y6⟩ := hR.field s hsl' hfl (slv b) (.int .i64 at_) (.int .i64 en) (.bool br) (.int .i64 i)
  have hst : hset (H ++ [⟨[.str [], .str []], 0, true, .no⟩]) H.length 0 0 [.str s, .str []] = some (H ++ [⟨[.str s, .str []], 0, true, .no⟩]) := by
    rw [hset_at (cs := [.str [], .str []]) (kd := .no) (by simp)]
    simp [splice]
  have hc3 := cells_cell y4
  refine ⟨H3, v', ?_, y6⟩
  unfold rdX
  rw [XL_eq]
  generalize XL T [0, 1, 2, 3, 8, 10, 11, 12] L56_1 = lp at *
  simp (disch := omega) [L56_1, hI, hc0, hc1, hix1, t1, t2, hw, hw2, hsl, hob, hnew, hst, x0, x1, x2, x3, x4, x5, x6, x7, x8, y1, y2, y3, y4, hc3, y5, fillP, splice, reps]
theorem tk_drop (b : Seg) (en i : Nat) (hen : en ≤ b.length) (hi : i < en) : (b.take en).drop i = b[i]'(by omega) :: (b.take en).drop (i + 1) := by
  rw [List.drop_eq_getElem_cons (by simp; omega)]
  simp
theorem tk_cur (b : Seg) (fr i : Nat) (hf : fr ≤ i) (hi : i < b.length) : (b.take i).drop fr ++ [b[i]] = (b.take (i + 1)).drop fr := by
  rw [List.take_succ_eq_append_getElem hi, List.drop_append_of_le_length (by simp; omega)]
theorem rd_loop (b : Seg) (hb : b.length < 1000000) (en at_ : Nat) (hen : en ≤ b.length) (br : Bool) : ∀ (k i fr : Nat) (st : Int) (fs : List Fld) (v : AV) (H : Heap), en ≤ i + k → fr ≤ i → i ≤ en → fs.length ≤ i → RdI H st fs v →
    ∃ e' H' v', rdX b en at_ br fr i H = some (.exit 0, e', H') ∧ e'.get 0 = slv b ∧ e'.get 2 = .int .i64 at_ ∧ e'.get 3 = .bool br ∧ e'.get 8 = .ptr 0 0 0 ∧ e'.get 10 = .ptr 1 0 0 ∧
      RdI H' (rdS (decide (fr = 0)) ((b.take i).drop fr) st fs ((b.take en).drop i)).1 (rdS (decide (fr = 0)) ((b.take i).drop fr) st fs ((b.take en).drop i)).2 v'
  | k, i, fr, st, fs, v, H, hk, hfi, hie, hfl, hR => by
    by_cases hlt : i + 1 < en
    · match k, hk with
      | 0, hk => omega
      | k + 1, hk =>
      have hd0 := tk_drop b en i hen (by omega)
      have hd1 := tk_drop b en (i + 1) hen hlt
      rw [hd0, hd1]
      by_cases hc : b[i]'(by omega) = 13 ∧ b[i + 1]'(by omega) = 10
      · -- the end of a line
        have key : ∃ H3 v3 st3 fs3, rdX b en at_ br fr i H = rdX b en at_ br ((i : Int) + 2) ((i : Int) + 1) H3 ∧ RdI H3 st3 fs3 v3 ∧ fs3.length ≤ i + 1 ∧
            rdS (decide (fr = 0)) ((b.take i).drop fr) st fs (b[i]'(by omega) :: b[i + 1]'(by omega) :: (b.take en).drop (i + 1 + 1)) = rdS false [] st3 fs3 ((b.take en).drop (i + 2)) := by
          by_cases hf0 : fr = 0
          · subst hf0
            obtain ⟨H3, g1, g2⟩ := rd_first b hb en at_ hen br i hlt hc.1 hc.2 hR
            refine ⟨H3, v, _, _, g1, g2, by omega, ?_⟩
            rw [rdS, if_pos hc]
            simp
          · obtain ⟨H3, v3, g1, g2⟩ := rd_line b hb en at_ hen br fr (by omega) i hfi hlt hc.1 hc.2 hR (by omega)
            refine ⟨H3, v3, _, _, g1, g2, by simp; omega, ?_⟩
            rw [rdS, if_pos hc]
            simp [hf0]
        obtain ⟨H3, v3, st3, fs3, g1, g2, g3, g4⟩ := key
        rw [g1, g4]
        by_cases hl2 : i + 1 + 1 < en
        · have hns : ¬ (b[i + 1]'(by omega) = 13 ∧ b[i + 1 + 1]'(by omega) = 10) := fun h => by rw [hc.2] at h; exact absurd h.1 (by decide)
          have hsk := rd_skip b hb en at_ hen br (i + 2) (i + 1) hl2 hns H3
          push_cast at hsk
          rw [show (i : Int) + 1 + 1 = i + 2 by omega] at hsk
          rw [hsk]
          match k, hk with
          | 0, hk => omega
          | k + 1, hk =>
          have ih := rd_loop b hb en at_ hen br (k + 1) (i + 2) (i + 2) st3 fs3 v3 H3 (by omega) (by omega) (by omega) (by omega) g2
          have hcur : (b.take (i + 2)).drop (i + 2) = [] := List.drop_eq_nil_of_le (by simp; omega)
          have hz : decide (i + 2 = 0) = false := by simp
          rw [hcur, hz] at ih
          push_cast at ih
          exact ih
        · obtain ⟨e', x0, x1, x2, x3, x4, x5⟩ := rd_exit b en at_ br ((i : Int) + 2) (i + 1) hl2 (by omega) H3
          have hnil : (b.take en).drop (i + 2) = [] := List.drop_eq_nil_of_le (by simp; omega)
          push_cast at x0
          rw [hnil]
          exact ⟨e', H3, v3, x0, x1, x2, x3, x4, x5, g2⟩
      · rw [rdS_ne hc, ← hd1, rd_skip b hb en at_ hen br fr i hlt hc H]
        have ih := rd_loop b hb en at_ hen br k (i + 1) fr st fs v H (by omega) (by omega) (by omega) (by omega) hR
        rw [← tk_cur b fr i hfi (by omega)] at ih
        push_cast at ih
        exact ih
    · obtain ⟨e', x0, x1, x2, x3, x4, x5⟩ := rd_exit b en at_ br fr i hlt (by omega) H
      have hrs : rdS (decide (fr = 0)) ((b.take i).drop fr) st fs ((b.take en).drop i) = (st, fs) := by
        have hl : ((b.take en).drop i).length ≤ 1 := by simp; omega
        match hq : (b.take en).drop i, hl with
        | [], _ => rfl
        | [_], _ => rfl
      rw [hrs]
      exact ⟨e', H, v, x0, x1, x2, x3, x4, x5, hR⟩
end Go.Eng.S
