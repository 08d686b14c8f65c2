/- Bytes are split into responses: the code's. Responses one after the other: the code's Join. No condition. -/
import Derived.Test.YtgjgcjhmaibblaaGreatDoorMb
namespace Go.Eng.S
open Go Go.Eng
set_option linter.unusedSectionVars false
variable [Sit]
set_option maxRecDepth 20000
abbrev rsp8 : Seg := [114, 101, 115, 112, 111, 110, 115, 101]
/-- The error of bytes that are no responses. -/
abbrev badV : AV := .iface 88 (.agg [.str rsp8, sts 400])
theorem inr_ok (H : Heap) : C T 32 [.str rsp8, sts 400] H = some (badV, H) := anyH fd32 rfl rfl (C_of 9 (by kernel_rfl)) H
theorem m_UnwP : T.meth 88 "Unwrap" = some (123, none) := by kernel_rfl
theorem im_P1 : T.impl 94 88 = some false := by kernel_rfl
theorem im_P2 : T.impl 97 88 = some true := by kernel_rfl
theorem punw_ok (H : Heap) : C T 123 [.agg [.str rsp8, sts 400]] H = some (sts 400, H) := anyH fd123 rfl rfl (C_of 9 (by kernel_rfl)) H
theorem isP_ok (H : Heap) : C T 36 [badV, sts 400, .bool true] H = some (.bool true, H) := by
  refine anyH fd36 rfl rfl ?_ H
  have hx : ∃ e', XL T [0, 1, 2] L36_1 [(0, badV), (1, sts 400), (2, .bool true)] [] = some (.ret, e', []) ∧ e'.get 6 = .bool true := by
    have hu := punw_ok []
    rw [XL_eq]
    simp [L36_1, aeq, im_P1, im_P2, invokeM, m_UnwP, hu]
    rw [XL_eq]
    simp [aeq, eq_S]
  obtain ⟨e', h1, h2⟩ := hx
  rw [q36]
  simp [d36, h1, h2]
theorem IsP_ok (H : Heap) : C T 18 [badV, sts 400] H = some (.bool true, H) := by
  have hi := isP_ok
  refine anyH fd18 rfl rfl ?_ H
  rw [q18]
  simp [d18, hi, c_TypeOf, pTypeOf, RInfo.ty, R, invokeM, m_Comp, c_Comp, pComparable, compT, kindT, RInfo.unh, RInfo.h, aeq]
/-- Flags as a value. -/
def BoV (a : AV) (l : List Bool) : Prop := (l = [] ∧ a = nls) ∨ a = .sl false l.length 1 (l.map .bool)
theorem bools_closed : ∀ l : List Bool, closedL (l.map AV.bool) = true
  | [] => rfl
  | f :: l => by simp [closedL, AV.closed, bools_closed l]
theorem BoV.closed {a : AV} {l : List Bool} (h : BoV a l) : a.closed = true := by
  rcases h with ⟨_, rfl⟩ | rfl
  · rfl
  · simpa [AV.closed] using bools_closed l
theorem BoV.snap {a : AV} {l : List Bool} (h : BoV a l) (k : Nat) (H : Heap) : snap (k + 1) H a = some (a, H) := by
  rcases h with ⟨_, rfl⟩ | rfl
  · rfl
  · simp [Go.Eng.snap, bools_closed]
theorem BoV.len {a : AV} {l : List Bool} (h : BoV a l) (H : Heap) : lenK H a = some (.int .i64 l.length, H) := by
  rcases h with ⟨rfl, rfl⟩ | rfl <;> simp
theorem BoV.ia {a : AV} {l : List Bool} (h : BoV a l) (H : Heap) {i : Nat} (hi : i < l.length) : iaK 1 H a (.int .i64 i) = some (.ep (.bool l[i] :: (l.map .bool).drop (i + 1)), H) := by
  rcases h with ⟨rfl, rfl⟩ | rfl
  · simp at hi
  · have hix : ix l.length (.int .i64 (i : Int)) = some i := by simp only [ix]; rw [if_pos ⟨by omega, by omega⟩]; simp
    have hd : (l.map AV.bool).drop i = .bool l[i] :: (l.map .bool).drop (i + 1) := by
      rw [List.drop_eq_getElem_cons (by simpa using hi)]; simp
    simp [hix, hd]
def rcell (r : Rsp) : List AV := [.int .i64 r.1, fldV r.2.1, bytV r.2.2]
def rcells (L : List Rsp) : List AV := L.flatMap rcell
theorem rcells_cons (r : Rsp) (L : List Rsp) : rcells (r :: L) = .int .i64 r.1 :: fldV r.2.1 :: bytV r.2.2 :: rcells L := rfl
theorem rcells_app (L M : List Rsp) : rcells (L ++ M) = rcells L ++ rcells M := by unfold rcells; rw [List.flatMap_append]
theorem rcells_snap (k : Nat) : ∀ (L : List Rsp) (H : Heap), mapS (snap (k + 1)) H (rcells L) = some (rcells L, H)
  | [], H => rfl
  | r :: L, H => by
    have ih := rcells_snap k L H
    have h1 := (fldV_ok r.2.1).snap k H
    have h2 := (bytV_ok r.2.2).snap k H
    rw [rcells_cons]
    simp [ih, h1, h2]
/-- Responses as they are handed on. -/
def rspsV (L : List Rsp) : AV := accV 3 L.length (rcells L)
def splitL (one : Seg → Bool → Option (Rsp × Nat)) (bare : List Bool) : Nat → Nat → Seg → Option (List Rsp)
  | 0, _, b => if b = [] then some [] else none
  | k + 1, i, b => if b = [] then some [] else match one b (bare.getD i false) with
    | some (r, n) => (splitL one bare k (i + 1) (b.drop n)).map (r :: ·)
    | none => none
theorem oneL_n {b : Seg} {br : Bool} {r : Rsp} {n : Nat} (h : oneL b br = some (r, n)) : 0 < n ∧ n ≤ b.length := by
  unfold oneL at h
  split at h
  · rename_i f ls at_ hq
    obtain ⟨p1, p2, p3, p4⟩ := begL_spec hq
    generalize hnn : (if br = true then 0 else (lenN (ls.map cut2)).toNat) = nn at h
    split at h
    · cases h
    · rename_i hgt
      split at h
      · cases h
        have hr := lenN_rng (ls.map cut2)
        refine ⟨by omega, ?_⟩
        cases br with
        | true => simp at hnn; omega
        | false => simp at hgt hnn; omega
      · cases h
  · cases h
theorem bslice1 (b : Seg) (n : Nat) (h : n ≤ b.length) (H : Heap) : slK H (slv b) (some (.int .i64 (n : Nat))) none none = some (slv (b.drop n), H) := by
  have e1 : bnd b.length (.int .i64 (n : Nat)) = some n := bnd_n h
  have e4 : (b.drop n).length = b.length - n := by simp
  have e5 : ((bcells b).drop n).take (b.length - n) = bcells (b.drop n) := by
    rw [List.take_of_length_le (by simp [bcells])]
    simp [bcells, List.map_drop]
  unfold slv
  rw [e4, ← e5]
  simp only [slK, aslice, bndO, e1, if_true, Bool.false_and, Nat.mul_one, Option.map_some]
def splP (o : Option (List Rsp)) (out : List Rsp) (x : XR) : Prop := match o with
  | some l => ∃ e' H' v', x = some (.exit 0, e', H') ∧ e'.get 6 = v' ∧ Acc H' v' 3 (out ++ l).length (rcells (out ++ l))
  | none => ∃ e' H', x = some (.ret, e', H') ∧ e'.get 4 = nls ∧ e'.get 5 = badV
set_option maxHeartbeats 1000000 in
theorem split_loop (hx : Sit.ext = some (pureP pBy)) (bare : List Bool) (ba : AV) (hba : BoV ba bare) (hbl : bare.length < 4611686018427387904) : ∀ (k : Nat) (b : Seg) (a : AV) (out : List Rsp) (v : AV) (H : Heap), b.length ≤ k → BV a b → b.length + out.length < 1000000 → Acc H v 3 out.length (rcells out) →
    splP (splitL oneL bare k out.length b) out (XL T [0, 1, 6] L15_0 [(0, a), (1, ba), (6, v)] H)
  | k, b, a, out, v, H, hk, hb, ho, hA => by
    have hlen := hb.len
    by_cases h0 : b = []
    · subst h0
      have hsl : splitL oneL bare k out.length [] = some [] := by cases k <;> rfl
      rw [hsl, XL_eq]
      have hx : ∃ e', seqK (X T L15_0 (Env.keep [0, 1, 6] [(0, a), (1, ba), (6, v)]) H) (fun e' H' => XL T [0, 1, 6] L15_0 (Env.keep [0, 1, 6] e') H') = some (.exit 0, e', H) ∧ e'.get 6 = v := by
        simp [L15_0, hlen]
      obtain ⟨e', x1, x2⟩ := hx
      exact ⟨e', H, v, x1, x2, by simpa using hA⟩
    · have hpos : 0 < b.length := List.length_pos_iff.2 h0
      match k, hk with
      | 0, hk => omega
      | k + 1, hk =>
      have hpI : (0 : Int) < b.length := by omega
      have hlv := hA.lenK
      have hbal := hba.len
      have hbr : ∀ br, C T 31 [a, .bool br] H = some (.tup (oneR (oneL b br)), H) := fun br => sone_ok hx a b hb (by omega) br H
      have hbi := fun h => hba.ia H (i := out.length) h
      have hasl : a = slv b := by
        rcases hb with ⟨h, _⟩ | h
        · exact absurd h h0
        · exact h
      subst hasl
      have ih := split_loop hx bare ba hba hbl k
      have hge : bare.getD out.length false = if h : out.length < bare.length then bare[out.length] else false := by
        by_cases h : out.length < bare.length <;> simp [h]
      rw [splitL, if_neg h0, XL_eq]
      generalize hbb : bare.getD out.length false = br at *
      have h1 := hbr br
      have hn := fun r n h => oneL_n (b := b) (br := br) (r := r) (n := n) h
      generalize XL T [0, 1, 6] L15_0 = lp at *
      cases ho1 : oneL b br with
      | none =>
        rw [ho1] at h1
        simp only [oneR] at h1
        have hst : hset (H ++ [zRow]) H.length 0 0 [.int .i64 0, nls, nls] = some (H ++ [zRow]) := by
          rw [hset_at (cs := [.int .i64 0, nls, nls]) (kd := .no) (by simp)]
          simp [splice]
        have hin := inr_ok (H ++ [zRow])
        have hz : fldV [] = nls := rfl
        have hz2 : bytV [] = nls := rfl
        simp only [respV, hz, hz2] at h1
        show splP none out _
        unfold splP
        by_cases hlt : out.length < bare.length
        · have hltI : (out.length : Int) < bare.length := by omega
          have hbi := hbi hlt
          rw [dif_pos hlt] at hge
          rw [← hge] at hbi
          simp (disch := omega) [L15_0, hlen, hlv, hbal, hltI, hbi, h1, hst, hnew, hin]
        · have hltI : ¬ (out.length : Int) < bare.length := by omega
          rw [dif_neg hlt] at hge
          subst hge
          simp (disch := omega) [L15_0, hlen, hlv, hbal, hltI, h1, hst, hnew, hin]
      | some p =>
        obtain ⟨r, n⟩ := p
        rw [ho1] at h1
        simp only [oneR] at h1
        obtain ⟨n1, n2⟩ := hn r n ho1
        simp only [respV] at h1
        have hc1 := (fldV_ok r.2.1).cell
        have hc2 := (bytV_ok r.2.2).cell
        have hst : hset (H ++ [zRow]) H.length 0 0 [.int .i64 r.1, fldV r.2.1, bytV r.2.2] = some (H ++ [⟨[.int .i64 r.1, fldV r.2.1, bytV r.2.2], 0, true, .no⟩]) := by
          rw [hset_at (cs := [.int .i64 0, nls, nls]) (kd := .no) (by simp)]
          simp [splice]
        have hg : hget (H ++ [⟨[.int .i64 r.1, fldV r.2.1, bytV r.2.2], 0, true, .no⟩]) H.length 0 3 0 = some [.int .i64 r.1, fldV r.2.1, bytV r.2.2] := by
          rw [hget_at (cs := [.int .i64 r.1, fldV r.2.1, bytV r.2.2]) (l := true) (kd := .no) (by simp)]
          simp
        obtain ⟨H2, v2, a1, a2, a3, a4, a5, a6⟩ := (hA.app [⟨[.int .i64 r.1, fldV r.2.1, bytV r.2.2], 0, true, .no⟩]).append 56 1 [.int .i64 r.1, fldV r.2.1, bytV r.2.2] (by omega) (by simp [hc1, hc2]) rfl (by unfold LIM; omega)
        have e1 : rcells out ++ [.int .i64 r.1, fldV r.2.1, bytV r.2.2] = rcells (out ++ [r]) := by rw [rcells_app]; rfl
        rw [e1] at a2
        have hbs := bslice1 b n n2
        have hnz : ¬ (n : Int) = 0 := by omega
        have hdl : (b.drop n).length = b.length - n := by simp
        have ih := ih (b.drop n) (slv (b.drop n)) (out ++ [r]) v2 H2 (by omega) (.inr rfl) (by simp; omega) (by simpa using a2)
        have hlo : (out ++ [r]).length = out.length + 1 := by simp
        rw [hlo] at ih
        have hgoal : splP ((splitL oneL bare k (out.length + 1) (b.drop n)).map (r :: ·)) out (lp [(0, slv (b.drop n)), (1, ba), (6, v2)] H2) := by
          cases hq : splitL oneL bare k (out.length + 1) (b.drop n) with
          | none => rw [hq] at ih; exact ih
          | some l =>
            rw [hq] at ih
            obtain ⟨e', H', v', x1, x2, x3⟩ := ih
            exact ⟨e', H', v', x1, x2, by simpa using x3⟩
        show splP ((splitL oneL bare k (out.length + 1) (b.drop n)).map (r :: ·)) out _
        have hred : seqK (X T L15_0 (Env.keep [0, 1, 6] [(0, slv b), (1, ba), (6, v)]) H) (fun e' H' => lp (Env.keep [0, 1, 6] e') H') = lp [(0, slv (b.drop n)), (1, ba), (6, v2)] H2 := by
          by_cases hlt : out.length < bare.length
          · have hltI : (out.length : Int) < bare.length := by omega
            have hbi := hbi hlt
            rw [dif_pos hlt] at hge
            rw [← hge] at hbi
            simp (disch := omega) [L15_0, hlen, hlv, hbal, hltI, hbi, h1, hst, hnew, hc1, hc2, hg, viewOf, fillP, splice, a1, hbs]
          · have hltI : ¬ (out.length : Int) < bare.length := by omega
            rw [dif_neg hlt] at hge
            subst hge
            simp (disch := omega) [L15_0, hlen, hlv, hbal, hltI, h1, hst, hnew, hc1, hc2, hg, viewOf, fillP, splice, a1, hbs]
        rw [hred]
        exact hgoal
def splV (o : Option (List Rsp)) : List AV := match o with
  | some l => [rspsV l, .cst .nilIface]
  | none => [nls, badV]
theorem split_ok (hx : Sit.ext = some (pureP pBy)) (a : AV) (b : Seg) (hb : BV a b) (hl : b.length < 1000000) (ba : AV) (bare : List Bool) (hba : BoV ba bare) (hbl : bare.length < 4611686018427387904) (H : Heap) :
    C T 15 [a, ba] H = some (.tup (splV (splitL oneL bare b.length 0 b)), H) := by
  refine anyH fd15 rfl (by simp [closedL, hb.closed, hba.closed]) ?_ H
  rw [q15]
  have hs1 := hb.snap 63 []
  have hs2 := hba.snap 63 []
  have hlp := split_loop hx bare ba hba hbl b.length b a [] nls [] (Nat.le_refl _) hb (by simpa using hl) (.inl ⟨rfl, rfl, rfl⟩)
  simp only [List.length_nil] at hlp
  cases hq : splitL oneL bare b.length 0 b with
  | none =>
    rw [hq] at hlp
    obtain ⟨e', H', x1, x2, x3⟩ := hlp
    simp [d15, hs1, hs2, x1, x2, x3, splV]
  | some l =>
    rw [hq] at hlp
    obtain ⟨e', H', v', x1, x2, x3⟩ := hlp
    obtain ⟨H2, x4⟩ := x3.snap 62 (rcells_snap 61 _)
    simp [d15, hs1, hs2, x1, x2, x4, splV, rspsV]
end Go.Eng.S
namespace Go.Eng.S
open Go Go.Eng
set_option linter.unusedSectionVars false
variable [Sit]
set_option maxRecDepth 20000
/-- The cells of responses, as they may come. -/
def RCs : List AV → List Rsp → Prop
  | [], [] => True
  | .int .i64 st :: fs :: bd :: cs, r :: L => st = r.1 ∧ FV fs r.2.1 ∧ BV bd r.2.2 ∧ RCs cs L
  | _, _ => False
theorem RCs.cons {cs : List AV} {r : Rsp} {L : List Rsp} (h : RCs cs (r :: L)) : ∃ fs bd cs', cs = .int .i64 r.1 :: fs :: bd :: cs' ∧ FV fs r.2.1 ∧ BV bd r.2.2 ∧ RCs cs' L := by
  unfold RCs at h
  split at h
  · cases ‹_ :: _ = []›
  · rename_i e
    cases e
    obtain ⟨rfl, h2, h3, h4⟩ := h
    exact ⟨_, _, _, rfl, h2, h3, h4⟩
  · exact h.elim
theorem RCs.nil {cs : List AV} (h : RCs cs []) : cs = [] := by
  unfold RCs at h
  split at h
  · rfl
  · cases ‹_ = _ :: _›
  · exact h.elim
theorem RCs.rc : ∀ L : List Rsp, RCs (rcells L) L
  | [] => trivial
  | _r :: L => ⟨rfl, fldV_ok _, bytV_ok _, RCs.rc L⟩
theorem RCs.len : ∀ {L : List Rsp} {cs : List AV}, RCs cs L → cs.length = L.length * 3
  | [], cs, h => by rw [h.nil]; rfl
  | r :: L, cs, h => by
    obtain ⟨fs, bd, cs', rfl, _, _, h4⟩ := h.cons
    have := h4.len
    simp only [List.length_cons]
    omega
theorem RCs.drop : ∀ {L : List Rsp} {cs : List AV} (i : Nat) (hi : i < L.length), RCs cs L → ∃ fs bd cs', cs.drop (i * 3) = .int .i64 L[i].1 :: fs :: bd :: cs' ∧ FV fs L[i].2.1 ∧ BV bd L[i].2.2
  | r :: L, cs, 0, _, h => by
    obtain ⟨fs, bd, cs', rfl, h2, h3, h4⟩ := h.cons
    exact ⟨fs, bd, cs', rfl, h2, h3⟩
  | r :: L, cs, i + 1, hi, h => by
    obtain ⟨fs, bd, cs', rfl, h2, h3, h4⟩ := h.cons
    obtain ⟨f2, b2, c2, e1, e2, e3⟩ := h4.drop i (by simpa using hi)
    refine ⟨f2, b2, c2, ?_, by simpa using e2, by simpa using e3⟩
    rw [show (i + 1) * 3 = i * 3 + 1 + 1 + 1 by omega, List.drop_succ_cons, List.drop_succ_cons, List.drop_succ_cons, e1]
    simp
theorem RCs.closed : ∀ {L : List Rsp} {cs : List AV}, RCs cs L → closedL cs = true
  | [], cs, h => by rw [h.nil]; rfl
  | r :: L, cs, h => by
    obtain ⟨fs, bd, cs', rfl, h2, h3, h4⟩ := h.cons
    simp [closedL, AV.closed, h2.closed, h3.closed, h4.closed]
/-- A list of responses as a value. -/
def LV (a : AV) (L : List Rsp) : Prop := (L = [] ∧ a = nls) ∨ ∃ cs, a = .sl false L.length 3 cs ∧ RCs cs L
theorem LV.rsps (L : List Rsp) : LV (rspsV L) L := by
  unfold rspsV accV
  by_cases h : L.length = 0
  · rw [if_pos h]; exact .inl ⟨List.eq_nil_of_length_eq_zero h, rfl⟩
  · rw [if_neg h]; exact .inr ⟨_, rfl, RCs.rc L⟩
theorem LV.closed {a : AV} {L : List Rsp} (h : LV a L) : a.closed = true := by
  rcases h with ⟨_, rfl⟩ | ⟨cs, rfl, h⟩
  · rfl
  · simpa [AV.closed] using h.closed
theorem LV.snap {a : AV} {L : List Rsp} (h : LV a L) (k : Nat) (H : Heap) : snap (k + 1) H a = some (a, H) := by
  rcases h with ⟨_, rfl⟩ | ⟨cs, rfl, h⟩
  · rfl
  · simp [Go.Eng.snap, h.closed]
theorem LV.len {a : AV} {L : List Rsp} (h : LV a L) (H : Heap) : lenK H a = some (.int .i64 L.length, H) := by
  rcases h with ⟨rfl, rfl⟩ | ⟨cs, rfl, h⟩ <;> simp
theorem LV.ia {a : AV} {L : List Rsp} (h : LV a L) (H : Heap) {i : Nat} (hi : i < L.length) : ∃ fs bd cs', iaK 3 H a (.int .i64 i) = some (.ep (.int .i64 L[i].1 :: fs :: bd :: cs'), H) ∧ FV fs L[i].2.1 ∧ BV bd L[i].2.2 := by
  rcases h with ⟨rfl, rfl⟩ | ⟨cs, rfl, h⟩
  · simp at hi
  · have hix : ix L.length (.int .i64 (i : Int)) = some i := by simp only [ix]; rw [if_pos ⟨by omega, by omega⟩]; simp
    obtain ⟨fs, bd, cs', e1, e2, e3⟩ := h.drop i hi
    exact ⟨fs, bd, cs', by simp [hix, e1], e2, e3⟩
def bytesR (r : Rsp) : Seg := outB r.1 r.2.1 ++ r.2.2
def joinL (L : List Rsp) : Seg := L.flatMap bytesR
theorem joinL_cons (r : Rsp) (L : List Rsp) : joinL (r :: L) = bytesR r ++ joinL L := rfl
theorem outB_ne (st : Int) (l : List Fld) : outB st l ≠ [] := by unfold outB fstL; simp
theorem bytesR_ne (r : Rsp) : bytesR r ≠ [] := by unfold bytesR; have := outB_ne r.1 r.2.1; simp [this]
theorem fn9p : isPure T 9 = false ∨ True := .inr trivial
set_option maxHeartbeats 1000000 in
theorem concat_loop (hx : Sit.ext = some (pureP pBy)) (a : AV) (L : List Rsp) (hL : LV a L) (hf : ∀ r ∈ L, Fits r.1 r.2.1 r.2.2) (hll : L.length < 1000000000) : ∀ (k i : Nat) (out : Seg) (v : AV) (H : Heap), i + k = L.length → out.length + (joinL (L.drop i)).length < 1000000000 → Acc H v 1 out.length (bcells out) →
    ∃ e' H' v', XL T [1, 5, 8, 9, 10] L30_0 [(1, .fn (.func 9) [] []), (5, v), (8, a), (9, .int .i64 L.length), (10, .int .i64 i)] H = some (.exit 0, e', H') ∧ e'.get 5 = v' ∧ Acc H' v' 1 (out ++ joinL (L.drop i)).length (bcells (out ++ joinL (L.drop i)))
  | 0, i, out, v, H, hk, ho, hA => by
    have hd : L.drop i = [] := List.drop_eq_nil_of_le (by omega)
    have hlt : ¬ (i : Int) < (L.length : Int) := by omega
    have hx : ∃ e', XL T [1, 5, 8, 9, 10] L30_0 [(1, .fn (.func 9) [] []), (5, v), (8, a), (9, .int .i64 L.length), (10, .int .i64 i)] H = some (.exit 0, e', H) ∧ e'.get 5 = v := by
      rw [XL_eq]
      simp [L30_0, hlt]
    obtain ⟨e', x1, x2⟩ := hx
    rw [hd]
    exact ⟨e', H, v, x1, x2, by simpa [joinL] using hA⟩
  | k + 1, i, out, v, H, hk, ho, hA => by
    have hlt : i < L.length := by omega
    have hltI : (i : Int) < (L.length : Int) := by omega
    have hd : L.drop i = L[i] :: L.drop (i + 1) := List.drop_eq_getElem_cons hlt
    have hw : IntKind.i64.wrap ((i : Int) + 1) = (i : Int) + 1 := wr64 (by omega) (by omega)
    obtain ⟨fs, bd, cs', e1, e2, e3⟩ := hL.ia H hlt
    have hfi := hf L[i] (List.getElem_mem hlt)
    rw [hd, joinL_cons] at ho ⊢
    simp only [List.length_append] at ho
    have ih := concat_loop hx a L hL hf hll k (i + 1)
    push_cast at ih
    rw [XL_eq]
    have hne := bytesR_ne L[i]
    generalize XL T [1, 5, 8, 9, 10] L30_0 = lp at *
    generalize L[i] = r at *
    have hc1 := e2.cell
    have hc2 := e3.cell
    have hst : hset (H ++ [zRow]) H.length 0 0 [.int .i64 r.1, fs, bd] = some (H ++ [⟨[.int .i64 r.1, fs, bd], 0, true, .no⟩]) := by
      rw [hset_at (cs := [.int .i64 0, nls, nls]) (kd := .no) (by simp)]
      simp [splice]
    have hg : hget (H ++ [⟨[.int .i64 r.1, fs, bd], 0, true, .no⟩]) H.length 0 3 0 = some [.int .i64 r.1, fs, bd] := by
      rw [hget_at (cs := [.int .i64 r.1, fs, bd]) (l := true) (kd := .no) (by simp)]
      simp
    have c9 := bytes_snap hx hfi (resp_self r.1 fs bd r.2.1 r.2.2 e2 e3 61 (H ++ [⟨[.int .i64 r.1, fs, bd], 0, true, .no⟩])) e2 e3
    rw [show outB r.1 r.2.1 ++ r.2.2 = bytesR r from rfl] at c9
    have hn0 : (bytesR r).length ≠ 0 := by simpa using hne
    obtain ⟨H2, v2, a1, a2, a3, a4, a5, a6⟩ := (hA.app [⟨[.int .i64 r.1, fs, bd], 0, true, .no⟩]).append 1 (bytesR r).length (bcells (bytesR r)) hn0 (by simp [bcells]) (by simp [bcells]) (by unfold LIM; omega)
    rw [← bcells_app] at a2
    have hvb : ∀ H, viewOf H 1 (slv (bytesR r)) = some ((bytesR r).length, bcells (bytesR r)) := fun H => by simp [viewOf]
    obtain ⟨e', H', v', x1, x2, x3⟩ := ih (out ++ bytesR r) v2 H2 (by omega) (by simp only [List.length_append]; omega) (by rw [List.length_append]; exact a2)
    refine ⟨e', H', v', ?_, x2, by rw [← List.append_assoc]; exact x3⟩
    generalize bytesR r = br at *
    simp [L30_0, hltI, e1, hst, hnew, hc1, hc2, hg, c9, a1, hw]
    exact x1
theorem concat_ok (hx : Sit.ext = some (pureP pBy)) (a : AV) (L : List Rsp) (hL : LV a L) (hf : ∀ r ∈ L, Fits r.1 r.2.1 r.2.2) (hll : L.length < 1000000000) (hj : (joinL L).length < 1000000000) (H : Heap) :
    C T 30 [a, .fn (.func 9) [] []] H = some (bytV (joinL L), H) := by
  refine anyH fd30 rfl (by simp [closedL, hL.closed, AV.closed]) ?_ H
  rw [q30]
  have hsf : ∀ (k : Nat) (H : Heap), snap (k + 1) H (.fn (.func 9) [] []) = some (.fn (.func 9) [] [], H) := fun _ _ => rfl
  have hs := hL.snap 63 []
  have hlen := hL.len
  obtain ⟨e', H', v', x1, x2, x3⟩ := concat_loop hx a L hL hf hll L.length 0 [] nls [] (by omega) (by simpa using hj) (.inl ⟨rfl, rfl, rfl⟩)
  simp only [List.drop_zero, List.nil_append, Int.natCast_zero] at x1 x3
  obtain ⟨H2, x4⟩ := x3.snap 63 (bcells_snap 62 _)
  simp [d30, hs, hsf, hlen, x1, x2, x4, bytV]
theorem join_ok (hx : Sit.ext = some (pureP pBy)) (a : AV) (L : List Rsp) (hL : LV a L) (hf : ∀ r ∈ L, Fits r.1 r.2.1 r.2.2) (hll : L.length < 1000000000) (hj : (joinL L).length < 1000000000) (H : Heap) :
    C T 13 [a] H = some (bytV (joinL L), H) := by
  refine anyH fd13 rfl (by simp [closedL, hL.closed]) ?_ H
  rw [q13]
  have hs := hL.snap 63 []
  have hc := concat_ok hx a L hL hf hll hj
  have hb := (bytV_ok (joinL L)).snap 63 []
  simp [d13, hs, hc, hb]
end Go.Eng.S
