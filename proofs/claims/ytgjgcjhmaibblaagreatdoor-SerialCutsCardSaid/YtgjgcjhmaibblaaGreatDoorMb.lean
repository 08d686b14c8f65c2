/- Calls with arguments that lean on rows; Bytes; the status of a line. A response at the beginning of bytes: the code's. A response at the beginning of bytes: the code's, whole. No condition. -/
import Derived.Test.YtgjgcjhmaibblaaGreatDoorMa
import Derived.Test.YtgjgcjhmaibblaaGreatDoorM6
namespace Go.Eng.S
open Go Go.Eng
set_option linter.unusedSectionVars false
variable [Sit]
set_option maxRecDepth 20000
theorem pure_snap {f : FuncId} {d : FDef} (h : T.fn f = some d) (hp : d.pure = true) {args args' : List AV} {H H' : Heap} (hs : mapS (snap 64) H args = some (args', H')) (hc : mapS (snap 64) H' args' = some (args', H')) {r : AV} (hr : ∀ H, C T f args' H = some (r, H)) : C T f args H = some (r, H') := by
  have h1 := hr H'
  rw [Q_pure h hp, hc] at h1
  rw [Q_pure h hp, hs]
  exact h1
/-- A list as it may be read: its row may be frozen. -/
def AccD (H : Heap) (v : AV) (e n : Nat) (cs : List AV) : Prop := (n = 0 ∧ cs = [] ∧ v = nls) ∨ ∃ k g lv, v = .ms k 0 n e g ∧ 0 < n ∧ cs.length = n * e ∧ H[k]? = some ⟨cs, g, lv, .no⟩
def Kp (H H' : Heap) : Prop := ∀ (i : Nat) (o : AObj), H[i]? = some o → ∃ lv : Bool, H'[i]? = some ⟨o.cells, o.gen, lv, o.kd⟩
theorem Kp.refl (H : Heap) : Kp H H := fun _ o h => ⟨o.live, h⟩
theorem Kp.trans {H H1 H2 : Heap} (a : Kp H H1) (b : Kp H1 H2) : Kp H H2 := fun i o h => by
  obtain ⟨l1, h1⟩ := a i o h
  obtain ⟨l2, h2⟩ := b i _ h1
  exact ⟨l2, h2⟩
theorem Acc.d {H : Heap} {v : AV} {e n : Nat} {cs : List AV} (h : Acc H v e n cs) : AccD H v e n cs := by
  rcases h with h | ⟨k, g, a, b, c, d⟩
  · exact .inl h
  · exact .inr ⟨k, g, true, a, b, c, d⟩
theorem AccD.kp {H H' : Heap} {v : AV} {e n : Nat} {cs : List AV} (h : AccD H v e n cs) (hk : Kp H H') : AccD H' v e n cs := by
  rcases h with h | ⟨k, g, lv, a, b, c, d⟩
  · exact .inl h
  · obtain ⟨l2, h2⟩ := hk k _ d
    exact .inr ⟨k, g, l2, a, b, c, h2⟩
theorem AccD.set {H : Heap} {v : AV} {e n : Nat} {cs : List AV} (h : AccD H v e n cs) {j : Nat} (o : AObj) (hj : rowN v ≠ some j) : AccD (H.set j o) v e n cs := by
  rcases h with h | ⟨k, g, lv, rfl, b, c, d⟩
  · exact .inl h
  · exact .inr ⟨k, g, lv, rfl, b, c, set_ne (fun e => hj (by rw [← e]; rfl)) d⟩
theorem AccD.cell {H : Heap} {v : AV} {e n : Nat} {cs : List AV} (h : AccD H v e n cs) : v.isCell = true := by
  rcases h with ⟨_, _, rfl⟩ | ⟨k', g, lv, rfl, _⟩ <;> rfl
theorem AccD.snap {H : Heap} {v : AV} {e n : Nat} {cs : List AV} (h : AccD H v e n cs) (k : Nat) (hs : ∀ H, mapS (snap k) H cs = some (cs, H)) : ∃ H', snap (k + 1) H v = some (accV e n cs, H') ∧ Kp H H' ∧ ∀ i o, rowN v ≠ some i → H[i]? = some o → H'[i]? = some o := by
  rcases h with ⟨rfl, rfl, rfl⟩ | ⟨j, g, lv, rfl, h0, h1, hr⟩
  · exact ⟨H, rfl, Kp.refl H, fun _ _ _ h => h⟩
  · have hf : freeze H j = H.set j ⟨cs, g, false, .no⟩ := by unfold freeze; rw [hr]
    refine ⟨freeze H j, ?_, ?_, ?_⟩
    · have hg : hget H j 0 (n * e) g = some cs := by rw [hget_at hr, if_pos (by omega), List.drop_zero, List.take_of_length_le (by omega)]
      have h0' : n ≠ 0 := by omega
      simp [Go.Eng.snap, hg, hs, accV, h0']
    · intro i o ho
      rw [hf]
      by_cases hi : i = j
      · subst hi
        rw [hr] at ho
        cases ho
        exact ⟨false, set_self hr⟩
      · exact ⟨o.live, set_ne hi ho⟩
    · intro i o hi ho
      rw [hf]
      exact set_ne (fun e => hi (by rw [e]; rfl)) ho
theorem fcells_snap (k : Nat) : ∀ (l : List Fld) (H : Heap), mapS (snap (k + 1)) H (fcells l) = some (fcells l, H)
  | [], H => rfl
  | f :: l, H => by
    have := fcells_snap k l H
    rw [fcells_cons]
    simp [this]
theorem bcells_snap (k : Nat) : ∀ (l : Seg) (H : Heap), mapS (snap (k + 1)) H (bcells l) = some (bcells l, H)
  | [], H => rfl
  | a :: l, H => by
    have := bcells_snap k l H
    have e : bcells (a :: l) = .int .u8 (a.toNat : Nat) :: bcells l := rfl
    rw [e]
    simp [this]
def fldV (l : List Fld) : AV := accV 2 l.length (fcells l)
def bytV (b : Seg) : AV := accV 1 b.length (bcells b)
theorem fldV_ok (l : List Fld) : FV (fldV l) l := by
  unfold fldV accV
  by_cases h : l.length = 0
  · rw [if_pos h]; exact .inl ⟨List.eq_nil_of_length_eq_zero h, rfl⟩
  · rw [if_neg h]; exact .inr rfl
theorem bytV_ok (l : Seg) : BV (bytV l) l := by
  unfold bytV accV
  by_cases h : l.length = 0
  · rw [if_pos h]; exact .inl ⟨List.eq_nil_of_length_eq_zero h, rfl⟩
  · rw [if_neg h]; exact .inr rfl
/-- A response as it is handed on. -/
abbrev respV (st : Int) (l : List Fld) (b : Seg) : AV := .agg [.int .i64 st, fldV l, bytV b]
theorem resp_snap {H : Heap} {v bv : AV} {l : List Fld} {b : Seg} (st : Int) (hv : AccD H v 2 l.length (fcells l)) (hb : AccD H bv 1 b.length (bcells b)) (k : Nat) : ∃ H', snap (k + 3) H (.agg [.int .i64 st, v, bv]) = some (respV st l b, H') ∧ Kp H H' ∧ ∀ i o, rowN v ≠ some i → rowN bv ≠ some i → H[i]? = some o → H'[i]? = some o := by
  obtain ⟨H1, a1, a2, a3⟩ := hv.snap (k + 1) (fcells_snap k l)
  obtain ⟨H2, b1, b2, b3⟩ := (hb.kp a2).snap (k + 1) (bcells_snap k b)
  refine ⟨H2, ?_, a2.trans b2, fun i o h1 h2 h => b3 i o h2 (a3 i o h1 h)⟩
  simp [a1, b1, fldV, bytV]
theorem resp_self (st : Int) (fs bd : AV) (l : List Fld) (b : Seg) (hf : FV fs l) (hb : BV bd b) (k : Nat) (H : Heap) : snap (k + 3) H (.agg [.int .i64 st, fs, bd]) = some (.agg [.int .i64 st, fs, bd], H) := by
  have h1 := hf.snap (k + 1) H
  have h2 := hb.snap (k + 1) H
  simp [h1, h2]
abbrev slv (b : Seg) : AV := .sl false b.length 1 (bcells b)
theorem flds_of {a : AV} {l : List Fld} (h : FV a l) : fldsOf a = some l := by
  rcases h with ⟨rfl, rfl⟩ | rfl
  · rfl
  · show (match pairsOf (fcells l) with
      | some l' => if l.length = l'.length then some l' else none
      | none => none) = _
    rw [pairs_cells]
    simp
theorem body_of {a : AV} {b : Seg} (h : BV a b) : bodyOf a = some b := by
  rcases h with ⟨rfl, rfl⟩ | rfl
  · rfl
  · show (match bytesOf (bcells b) with
      | some (b' : List UInt8) => if b.length = b'.length ∧ bytesOf (bcells b) = some b' ∧ (List.map (fun x : UInt8 => (x.toNat : Int)) b') = (bcells b).map (fun c : AV => match c with
        | .int .u8 i => i
        | _ => -1) then some b' else none
      | none => none) = _
    rw [bytesOf_bcells]
    have : (b.map fun x => (x.toNat : Int)) = (bcells b).map (fun c => match c with
        | .int .u8 i => i
        | _ => -1) := by simp [bcells, Function.comp_def]
    simp [this]
theorem fn9 (hx : Sit.ext = some (pureP pBy)) : T.fn 9 = some (.prim (pureP pBy)) := by
  show (bif (9 : Nat) == 9 then Sit.ext.map FDef.prim else look tab 9) = _
  rw [hx]
  rfl
structure Fits (st : Int) (l : List Fld) (b : Seg) : Prop where
  lo : -9223372036854775808 ≤ st
  hi : st < 9223372036854775808
  len : l.length < 100000000
  out : (outB st l).length + b.length < 1800000000
theorem bytes_snap (hx : Sit.ext = some (pureP pBy)) {st : Int} {l : List Fld} {b : Seg} (hf : Fits st l b) {x : AV} {H H' : Heap} {fs bd : AV} (hs : snap 64 H x = some (.agg [.int .i64 st, fs, bd], H')) (h1 : FV fs l) (h2 : BV bd b) : C T 9 [x] H = some (slv (outB st l ++ b), H') := by
  rw [C_prim (fn9 hx)]
  have hc : -9223372036854775808 ≤ st ∧ st < 9223372036854775808 ∧ l.length < 100000000 ∧ (outB st l).length + b.length < 1800000000 := ⟨hf.lo, hf.hi, hf.len, hf.out⟩
  have hp : pBy [.agg [.int .i64 st, fs, bd]] = some (slv (outB st l ++ b)) := by
    unfold pBy
    simp only [flds_of h1, body_of h2]
    rw [if_pos hc]
  unfold pureP
  simp only [mapS_cons, mapS_nil, hs, hp]
/-- The status of a first line. -/
def stL (s : Seg) : Int := if s.length < 12 then 0 else match decO 999 ((s.take 12).drop 9) with
  | some n => if fstL n = s then n else 0
  | none => 0
theorem stL_rng (s : Seg) : 0 ≤ stL s ∧ stL s ≤ 999 := by
  unfold stL
  split
  · exact ⟨by decide, by decide⟩
  · split
    · rename_i n hn
      split
      · exact decO_rng (by decide) hn
      · exact ⟨by decide, by decide⟩
    · exact ⟨by decide, by decide⟩
theorem status_ok (s : Seg) (hs : s.length < 1000000000) (H : Heap) : C T 53 [.str s] H = some (.int .i64 (stL s), H) := by
  refine anyH fd53 rfl rfl ?_ H
  rw [q53]
  unfold stL
  by_cases hl : s.length < 12
  · rw [if_pos hl]
    have : (s.length : Int) < 12 := by omega
    simp [d53, this]
  · rw [if_neg hl]
    have hl' : ¬ (s.length : Int) < 12 := by omega
    have hp := dparse_ok ((s.take 12).drop 9) (by simp; omega) 999 (by decide) (by decide) []
    cases hd : decO 999 ((s.take 12).drop 9) with
    | none =>
      obtain ⟨a, c, hr⟩ := decR_none hd
      rw [hr] at hp
      simp (disch := omega) [d53, hl', hp]
    | some n =>
      rw [decR_some hd] at hp
      obtain ⟨n0, n1⟩ := decO_rng (by decide) hd
      have hf := first_ok n (by omega) (by omega) []
      by_cases hq : fstL n = s
      · simp (disch := omega) [d53, hl', hp, hf, hq]
      · have hb : (fstL n == s) = false := by simpa using hq
        simp (disch := omega) [d53, hl', hp, hf, hq, hb]
end Go.Eng.S
namespace Go.Eng.S
open Go Go.Eng
set_option linter.unusedSectionVars false
variable [Sit]
set_option maxRecDepth 20000
abbrev zRow : AObj := ⟨[.int .i64 0, nls, nls], 0, true, .no⟩
theorem fcells_app (l m : List Fld) : fcells (l ++ m) = fcells l ++ fcells m := by unfold fcells; rw [List.flatMap_append]
theorem sc_drop (l : List Seg) (i : Nat) (h : i < l.length) : (scells l).drop i = .str l[i] :: (scells l).drop (i + 1) := by
  have hl : i < (scells l).length := by simpa [scells] using h
  rw [List.drop_eq_getElem_cons hl]
  simp [scells]
theorem one_loop (a : AV) (br : Bool) (st : Int) (at_ : Int) (ls : List Seg) (hl : ls.length < 10000000) (hs : ∀ s ∈ ls, s.length < 100000000) : ∀ (k i : Nat) (out : List Fld) (v : AV) (H : Heap), i + k = ls.length → out.length ≤ i → H[0]? = some zRow → H[1]? = some ⟨[.int .i64 st, v, nls], 0, true, .no⟩ → Acc H v 2 out.length (fcells out) → rowN v ≠ some 0 → rowN v ≠ some 1 →
    ∃ e' H' v', XL T [0, 1, 4, 7, 9, 37, 38, 39] L31_0 [(0, a), (1, .bool br), (4, .ptr 0 0 0), (7, .int .i64 at_), (9, .ptr 1 0 0), (37, .sl false ls.length 1 (scells ls)), (38, .int .i64 ls.length), (39, .int .i64 i)] H = some (.exit 0, e', H') ∧
      e'.get 0 = a ∧ e'.get 1 = .bool br ∧ e'.get 4 = .ptr 0 0 0 ∧ e'.get 7 = .int .i64 at_ ∧ e'.get 9 = .ptr 1 0 0 ∧ H'[0]? = some zRow ∧ H'[1]? = some ⟨[.int .i64 st, v', nls], 0, true, .no⟩ ∧ Acc H' v' 2 (out ++ (ls.drop i).map cut2).length (fcells (out ++ (ls.drop i).map cut2)) ∧ rowN v' ≠ some 0 ∧ rowN v' ≠ some 1
  | 0, i, out, v, H, hk, ho, h0, h1, hA, hr0, hr1 => by
    have hd : ls.drop i = [] := List.drop_eq_nil_of_le (by omega)
    have hlt : ¬ (i : Int) < (ls.length : Int) := by omega
    have hx : ∃ e', XL T [0, 1, 4, 7, 9, 37, 38, 39] L31_0 [(0, a), (1, .bool br), (4, .ptr 0 0 0), (7, .int .i64 at_), (9, .ptr 1 0 0), (37, .sl false ls.length 1 (scells ls)), (38, .int .i64 ls.length), (39, .int .i64 i)] H = some (.exit 0, e', H) ∧
      e'.get 0 = a ∧ e'.get 1 = .bool br ∧ e'.get 4 = .ptr 0 0 0 ∧ e'.get 7 = .int .i64 at_ ∧ e'.get 9 = .ptr 1 0 0 := by
      rw [XL_eq]
      simp [L31_0, hlt]
    obtain ⟨e', x1, x2, x3, x4, x5, x6⟩ := hx
    rw [hd]
    exact ⟨e', H, v, x1, x2, x3, x4, x5, x6, h0, h1, by simpa using hA, hr0, hr1⟩
  | k + 1, i, out, v, H, hk, ho, h0, h1, hA, hr0, hr1 => by
    have hlt : i < ls.length := by omega
    have hltI : (i : Int) < (ls.length : Int) := by omega
    have hd : ls.drop i = ls[i] :: ls.drop (i + 1) := List.drop_eq_getElem_cons hlt
    have hsd := sc_drop ls i hlt
    have hix : ix ls.length (.int .i64 (i : Int)) = some i := by simp only [ix]; rw [if_pos ⟨by omega, hltI⟩]; simp
    have hw : IntKind.i64.wrap ((i : Int) + 1) = (i : Int) + 1 := wr64 (by omega) (by omega)
    have hc := cutC_ok ls[i] (hs _ (List.getElem_mem hlt))
    have ih := one_loop a br st at_ ls hl hs k (i + 1)
    push_cast at ih
    rw [hd, XL_eq, List.map_cons]
    generalize XL T [0, 1, 4, 7, 9, 37, 38, 39] L31_0 = lp at *
    generalize ls[i] = s at *
    obtain ⟨H', v', p1, p2, p3, p4, p5, p6⟩ := hA.append 32 1 [.str (cut2 s).1, .str (cut2 s).2] (by omega) rfl rfl (by unfold LIM; omega)
    have e1 : fcells out ++ [.str (cut2 s).1, .str (cut2 s).2] = fcells (out ++ [cut2 s]) := by rw [fcells_app]; rfl
    rw [e1] at p2
    have q0 := p5 0 _ hr0 h0
    have q1 := p5 1 _ hr1 h1
    have hlen := (List.getElem?_eq_some_iff.1 h1).1
    have r0 : rowN v' ≠ some 0 := fun e => (p6 0 e).elim hr0 (fun h => by omega)
    have r1 : rowN v' ≠ some 1 := fun e => (p6 1 e).elim hr1 (fun h => by omega)
    have hg : hget H 1 1 1 0 = some [v] := by rw [hget_at h1]; simp
    have hst : hset H' 1 1 0 [v'] = some (H'.set 1 ⟨[.int .i64 st, v', nls], 0, true, .no⟩) := by rw [hset_at q1]; simp [splice]
    have hA2 : Acc (H'.set 1 ⟨[.int .i64 st, v', nls], 0, true, .no⟩) v' 2 (out.length + 1) (fcells (out ++ [cut2 s])) := p2.mono fun j o hj h => set_ne (fun e => r1 (by rw [← e]; exact hj)) h
    have hc3 := cells_cell p3
    obtain ⟨e', H2, v2, x1, x2, x3, x4, x5, x6, x7, x8, x9, x10, x11⟩ := ih (out ++ [cut2 s]) v' _ (by omega) (by simp; omega) (set_ne (by decide) q0) (set_self q1) (by simpa using hA2) r0 r1
    refine ⟨e', H2, v2, ?_, x2, x3, x4, x5, x6, x7, x8, by simpa using x9, x10, x11⟩
    generalize cut2 s = fv at *
    simp [L31_0, hltI, hix, hsd, hc, hg, p1, hst, p3, hc3, hw, viewOf, fillP, splice]
    exact x1
end Go.Eng.S
namespace Go.Eng.S
open Go Go.Eng
set_option linter.unusedSectionVars false
variable [Sit]
set_option maxRecDepth 20000
abbrev Rsp := Int × List Fld × Seg
theorem put_line {most : Nat} {r : Rd} {c : UInt8} (h : (r.put most c).st = 1) (hs : ¬ r.st = 1) : (r.put most c).line = r.buf := by
  unfold Rd.put at h ⊢
  repeat' split at h
  all_goals simp_all
def tot (l : List Seg) : Nat := (l.map List.length).sum
theorem tot_app (l m : List Seg) : tot (l ++ m) = tot l + tot m := by simp [tot]
theorem begS_tot (most : Nat) : ∀ (s : Seg) (r : Rd) (out : List Seg) (i : Nat) (l : List Seg) (n : Nat), begS most r out i s = some (l, n) → r.buf.length + tot out ≤ i → tot l ≤ n
  | [], r, out, i, l, n, h, _ => by cases h
  | c :: s, r, out, i, l, n, h, hb => by
    have hpb := put_buf (most := most) (r := r) (c := c)
    have hpl : (r.put most c).st = 1 → ((r.put most c).line = r.buf ∧ (r.put most c).buf = []) ∨ (r.st = 2 ∨ r.st = 3) := by
      intro h1
      unfold Rd.put at h1 ⊢
      repeat' split at h1
      all_goals simp_all
    unfold begS at h
    split at h
    · cases h
    · rename_i h23
      split at h
      · rename_i h1
        have hpl := hpl h1
        split at h
        · cases h
          omega
        · rcases hpl with ⟨hpl, hpb2⟩ | hpl
          · refine begS_tot most s _ _ _ l n h ?_
            rw [hpl, hpb2, tot_app]
            simp [tot] at hb ⊢
            omega
          · have : (r.put most c) = r := by unfold Rd.put; rw [if_pos hpl]
            rw [this] at h1
            omega
      · exact begS_tot most s _ _ _ l n h (by omega)
theorem begS_spec (most M : Nat) : ∀ (s : Seg) (r : Rd) (out : List Seg) (i : Nat) (l : List Seg) (n : Nat), begS most r out i s = some (l, n) → i + s.length ≤ M → r.buf.length ≤ i → (∀ x ∈ out, x.length ≤ M) → (∀ x ∈ l, x.length ≤ M) ∧ l.length ≤ out.length + s.length ∧ i < n ∧ n ≤ i + s.length
  | [], r, out, i, l, n, h, _, _, _ => by cases h
  | c :: s, r, out, i, l, n, h, hM, hb, ho => by
    have hpb := put_buf (most := most) (r := r) (c := c)
    have hpl : (r.put most c).st = 1 → (r.put most c).line.length ≤ r.buf.length ∨ (r.st = 2 ∨ r.st = 3) := by
      intro h1
      unfold Rd.put at h1 ⊢
      repeat' split at h1
      all_goals simp_all
    simp only [List.length_cons] at hM ⊢
    unfold begS at h
    split at h
    · cases h
    · rename_i h23
      split at h
      · rename_i h1
        have hpl := hpl h1
        split at h
        · cases h
          exact ⟨ho, by omega, by omega, by omega⟩
        · have hl : (r.put most c).line.length ≤ M := by
            rcases hpl with hpl | hpl
            · omega
            · have : (r.put most c) = r := by unfold Rd.put; rw [if_pos hpl]
              rw [this] at h1
              omega
          obtain ⟨a1, a2, a3, a4⟩ := begS_spec most M s _ _ _ l n h (by omega) (by omega) (by
            intro x hx
            rcases List.mem_append.1 hx with hx | hx
            · exact ho x hx
            · rw [List.mem_singleton.1 hx]; exact hl)
          simp only [List.length_append, List.length_cons, List.length_nil] at a2
          exact ⟨a1, by omega, by omega, by omega⟩
      · obtain ⟨a1, a2, a3, a4⟩ := begS_spec most M s _ _ _ l n h (by omega) (by omega) ho
        exact ⟨a1, by omega, by omega, by omega⟩
theorem begL_tot {b : Seg} {l : List Seg} {n : Nat} (h : begL b = some (l, n)) : tot l ≤ n := begS_tot b.length b rd0 [] 0 l n h (by simp [rd0, tot])
theorem begL_spec {b : Seg} {l : List Seg} {n : Nat} (h : begL b = some (l, n)) : (∀ x ∈ l, x.length ≤ b.length) ∧ l.length ≤ b.length ∧ 0 < n ∧ n ≤ b.length := by
  obtain ⟨a1, a2, a3, a4⟩ := begS_spec b.length b.length b rd0 [] 0 l n h (by omega) (by simp [rd0]) (by simp)
  exact ⟨a1, by simpa using a2, a3, by omega⟩
/-- A response at the beginning, and how many bytes it has. -/
def oneL (b : Seg) (br : Bool) : Option (Rsp × Nat) := match begL b with
  | some (f :: ls, at_) => if lenN (ls.map cut2) > b.length - at_ ∧ br = false then none else
      if rightB (stL f) (ls.map cut2) ((b.drop at_).take (if br = true then 0 else (lenN (ls.map cut2)).toNat)) br = true ∧ outB (stL f) (ls.map cut2) ++ (b.drop at_).take (if br = true then 0 else (lenN (ls.map cut2)).toNat) = b.take (at_ + if br = true then 0 else (lenN (ls.map cut2)).toNat)
      then some ((stL f, ls.map cut2, (b.drop at_).take (if br = true then 0 else (lenN (ls.map cut2)).toNat)), at_ + if br = true then 0 else (lenN (ls.map cut2)).toNat) else none
  | _ => none
def oneR (o : Option (Rsp × Nat)) : List AV := match o with
  | some (r, n) => [respV r.1 r.2.1 r.2.2, .int .i64 n]
  | none => [respV 0 [] [], .int .i64 0]
theorem cut2_len (s : Seg) : (cut2 s).1.length ≤ s.length ∧ (cut2 s).2.length ≤ s.length := by
  unfold cut2
  split
  · exact ⟨by simp; omega, by simp⟩
  · exact ⟨by simp, by simp⟩
theorem cut2_sum (s : Seg) : (cut2 s).1.length + (cut2 s).2.length ≤ s.length := by
  unfold cut2
  split
  · rename_i h
    have := ix2_lt s h
    simp
    omega
  · simp
theorem ftx_len : ∀ l : List Seg, (ftx (l.map cut2)).length ≤ tot l + 4 * l.length
  | [] => by simp [ftx, tot]
  | s :: l => by
    have ih := ftx_len l
    have hs := cut2_sum s
    have ht : tot (s :: l) = s.length + tot l := by simp [tot]
    rw [List.map_cons, ftx_cons, ht]
    simp only [List.length_append, List.length_cons, List.length_nil, fldT]
    omega
theorem outB_len (st : Int) (l : List Fld) : (outB st l).length ≤ 70 + (ftx l).length := by
  have h1 := itoT_len st
  have h2 := rsn_len st
  unfold outB fstL
  simp only [List.length_append, List.length_cons, List.length_nil]
  omega
/-- A slice of cells of one: its form is not looked into ahead of its parts. -/
def slK (H : Heap) (x : AV) (lo hi mx : Option AV) : Option (AV × Heap) := (aslice H (.sl 1) x lo hi mx).map (·, H)
@[simp ↓ high] theorem aop_sl1 {T : Tab} {cf : CF} {x : Opd} {lo hi mx : Option Opd} {e : Env} {H : Heap} : aop T cf (.slice (.sl 1) x lo hi mx) e H = slK H (ev T e x) (evO T e lo) (evO T e hi) (evO T e mx) := rfl
theorem bnd_n {m n : Nat} (h : n ≤ m) : bnd m (.int .i64 (n : Int)) = some n := by
  rw [bnd_i (by omega) (by omega)]
  simp
theorem bslice (b : Seg) (i n : Nat) (h : i + n ≤ b.length) (H : Heap) : slK H (slv b) (some (.int .i64 (i : Nat))) (some (.int .i64 (i + n : Nat))) none = some (slv ((b.drop i).take n), H) := by
  have e1 : bnd b.length (.int .i64 (i + n : Nat)) = some (i + n) := bnd_n h
  have e2 : bnd (i + n) (.int .i64 (i : Nat)) = some i := bnd_n (by omega)
  have e3 : i + n - i = n := by omega
  have e4 : ((b.drop i).take n).length = n := by simp; omega
  have e5 : ((bcells b).drop i).take n = bcells ((b.drop i).take n) := by simp [bcells, List.map_drop, List.map_take]
  unfold slv
  rw [e4, ← e5]
  simp only [slK, aslice, bndO, e1, e2, if_true, Bool.false_and, Nat.mul_one, e3, Option.map_some]
theorem bslice0 (b : Seg) (n : Nat) (h : n ≤ b.length) (H : Heap) : slK H (slv b) none (some (.int .i64 (n : Nat))) none = some (slv (b.take n), H) := by
  have e1 : bnd b.length (.int .i64 (n : Nat)) = some n := bnd_n h
  have e4 : (b.take n).length = n := by simp; omega
  have e5 : (bcells b).take n = bcells (b.take n) := by simp [bcells, List.map_take]
  unfold slv
  rw [e4, ← e5]
  simp only [slK, aslice, bndO, e1, if_true, Bool.false_and, Nat.mul_one, Nat.sub_zero, List.drop_zero, Option.map_some]
theorem stail (f : Seg) (ls : List Seg) (H : Heap) : slK H (.sl false (ls.length + 1) 1 (.str f :: scells ls)) (some (.int .i64 1)) none none = some (.sl false ls.length 1 (scells ls), H) := by
  have e2 : bnd (ls.length + 1) (.int .i64 1) = some 1 := bnd_n (n := 1) (by omega)
  have e3 : (scells ls).take ls.length = scells ls := List.take_of_length_le (by simp [scells])
  simp only [scells] at e3
  simp [slK, aslice, bndO, e2, scells, e3]
theorem app_nil (H : Heap) (bd : Seg) (hl : bd.length < 100000000) : ∃ H2 bv, aappend .no H 1 1 nls bd.length (bcells bd) = some (bv, H2) ∧ Acc H2 bv 1 bd.length (bcells bd) ∧ bv.isCell = true ∧ (∀ (j : Nat) (o : AObj), H[j]? = some o → H2[j]? = some o) ∧ (∀ j, rowN bv = some j → H.length ≤ j) := by
  by_cases h0 : bd = []
  · subst h0
    exact ⟨H, nls, rfl, .inl ⟨rfl, rfl, rfl⟩, rfl, fun _ _ h => h, fun j h => by cases h⟩
  · have hn : bd.length ≠ 0 := by simpa using h0
    obtain ⟨H2, bv, a1, a2, a3, a4, a5, a6⟩ := (Acc.append (H := H) (v := nls) (e := 1) (n := 0) (cs := []) (.inl ⟨rfl, rfl, rfl⟩) 1 bd.length (bcells bd) hn (by simp [bcells]) (by simp [bcells]) (by unfold LIM; omega))
    exact ⟨H2, bv, a1, by simpa using a2, a3, fun j o h => a5 j o (by simp [rowN]) h, fun j h => (a6 j h).elim (fun h => by cases h) id⟩
theorem zfail {H : Heap} (h0 : H[0]? = some zRow) : hset H 0 0 0 [.int .i64 0, nls, nls] = some (H.set 0 zRow) ∧ hget (H.set 0 zRow) 0 0 3 0 = some [.int .i64 0, nls, nls] := by
  constructor
  · rw [hset_at h0]; simp [splice]
  · rw [hget_at (set_self h0)]; simp
theorem lines_small {b : Seg} {ls : List Seg} (h1 : ∀ x ∈ ls, x.length ≤ b.length) (h2 : ls.length ≤ b.length) (hb : b.length < 1000000) : Small (ls.map cut2) where
  len := by simp; omega
  str := fun f hf => by
    obtain ⟨s, hs, rfl⟩ := List.mem_map.1 hf
    have := h1 s hs
    have := cut2_len s
    omega
set_option maxHeartbeats 4000000 in
theorem sone_ok (hx : Sit.ext = some (pureP pBy)) (a : AV) (b : Seg) (ha : BV a b) (hb : b.length < 1000000) (br : Bool) (H : Heap) : C T 31 [a, .bool br] H = some (.tup (oneR (oneL b br)), H) := by
  refine anyH fd31 rfl (by simp [closedL, ha.closed, AV.closed]) ?_ H
  rw [q31]
  have hs := ha.snap 63 []
  have hbg := beg_ok a b ha (by omega)
  unfold oneL
  have hz : hset [zRow] 0 0 0 [.int .i64 0, nls, nls] = some [zRow] := rfl
  have hzg : hget [zRow] 0 0 3 0 = some [.int .i64 0, nls, nls] := rfl
  have hzv : respV 0 [] [] = .agg [.int .i64 0, nls, nls] := rfl
  match hq : begL b with
  | none =>
    rw [hq] at hbg
    simp [d31, hs, hbg, begV, oneR, hz, hzg, hzv, fillP]
  | some ([], n) =>
    rw [hq] at hbg
    simp [d31, hs, hbg, begV, strsV, accV, oneR, hz, hzg, hzv, fillP]
  | some (f :: ls, at_) =>
    obtain ⟨p1, p2, p3, p4⟩ := begL_spec hq
    rw [hq] at hbg
    dsimp only
    simp only [List.length_cons] at p2
    have p1f := p1 f (List.mem_cons_self ..)
    have p1s : ∀ x ∈ ls, x.length ≤ b.length := fun x hx => p1 x (List.mem_cons_of_mem _ hx)
    have hsm := lines_small p1s (by omega) hb
    have hst := status_ok f (by omega)
    have hsr := stL_rng f
    have hbv := begV
    have htl := stail f ls
    have hstore : ∀ st : Int, hset [zRow, zRow] 1 0 0 [.int .i64 st, nls, nls] = some [zRow, ⟨[.int .i64 st, nls, nls], 0, true, .no⟩] := fun _ => rfl
    have hsl : a = slv b := by
      rcases ha with ⟨rfl, _⟩ | h
      · simp at p4; omega
      · exact h
    subst hsl
    generalize stL f = st at *
    obtain ⟨e', H', v', x1, g0, g1, g4, g7, g9, q0, q1, hA, r0, r1⟩ := one_loop (slv b) br st at_ ls (by omega) (fun s hs => by have := p1s s hs; omega) ls.length 0 [] nls [zRow, ⟨[.int .i64 st, nls, nls], 0, true, .no⟩] (by omega) (by simp) rfl rfl (.inl ⟨rfl, rfl, rfl⟩) (by simp [rowN]) (by simp [rowN])
    simp only [List.drop_zero, List.nil_append, Int.natCast_zero] at x1 hA
    have hftx := ftx_len ls
    have htot := begL_tot hq
    have htc : tot (f :: ls) = f.length + tot ls := by simp [tot]
    have hout := outB_len st (ls.map cut2)
    have hlr := lenN_rng (ls.map cut2)
    generalize hfs : ls.map cut2 = fs at *
    have hg1 : hget H' 1 1 1 0 = some [v'] := by rw [hget_at q1]; simp
    obtain ⟨H1, s1, k1, fr1⟩ := hA.d.snap 63 (fcells_snap 62 fs)
    have c27 : C T 27 [v'] H' = some (.tup [.int .i64 (lenN fs), .bool (lenB fs)], H1) := by
      refine pure_snap fd27 rfl (args' := [fldV fs]) (by simp [s1, fldV]) ?_ (length_ok (fldV fs) fs (fldV_ok fs) hsm.len hsm.str)
      have := (fldV_ok fs).snap 63 H1
      simp [this]
    have z1 := zfail (fr1 0 _ r0 q0)
    by_cases hgt : lenN fs > b.length - at_ ∧ br = false
    · rw [if_pos hgt]
      obtain ⟨hgt, rfl⟩ := hgt
      have hgt' : (b.length : Int) - at_ < lenN fs := by omega
      simp (disch := omega) [d31, hs, hbg, begV, strsV, accV, oneR, hzv, fillP, splice, hst, hstore, htl, x1, g0, g1, g4, g7, g9, hg1, c27, hgt', z1]
    · rw [if_neg hgt]
      obtain ⟨nn, hnn⟩ : ∃ nn : Nat, (if br = true then 0 else (lenN fs).toNat) = nn := ⟨_, rfl⟩
      rw [hnn]
      have hle : at_ + nn ≤ b.length := by
        rw [← hnn]
        cases br with
        | true => simpa using p4
        | false =>
          simp at hgt ⊢
          omega
      have hbs := bslice b at_ nn hle
      have hbs0 := bslice0 b (at_ + nn) hle
      have hbl : ((b.drop at_).take nn).length = nn := by simp; omega
      generalize hbd : (b.drop at_).take nn = bd at *
      obtain ⟨H2, bv, a1, a2, a3, a4, a5⟩ := app_nil H1 bd (by omega)
      have hlen1 := (List.getElem?_eq_some_iff.1 q1).1
      have hH1 := (List.getElem?_eq_some_iff.1 (fr1 1 _ r1 q1)).1
      have b0 : rowN bv ≠ some 0 := fun h => by have := a5 0 h; omega
      have b1 : rowN bv ≠ some 1 := fun h => by have := a5 1 h; omega
      have q12 := a4 1 _ (fr1 1 _ r1 q1)
      have q02 := a4 0 _ (fr1 0 _ r0 q0)
      have hk12 : Kp H1 H2 := fun i o h => ⟨o.live, a4 i o h⟩
      have hst2 : hset H2 1 2 0 [bv] = some (H2.set 1 ⟨[.int .i64 st, v', bv], 0, true, .no⟩) := by rw [hset_at q12]; simp [splice]
      have q13 : (H2.set 1 ⟨[.int .i64 st, v', bv], 0, true, .no⟩)[1]? = some ⟨[.int .i64 st, v', bv], 0, true, .no⟩ := set_self q12
      have q03 : (H2.set 1 ⟨[.int .i64 st, v', bv], 0, true, .no⟩)[0]? = some zRow := set_ne (by decide) q02
      have v3 : AccD (H2.set 1 ⟨[.int .i64 st, v', bv], 0, true, .no⟩) v' 2 fs.length (fcells fs) := ((hA.d.kp k1).kp hk12).set _ r1
      have w3 : AccD (H2.set 1 ⟨[.int .i64 st, v', bv], 0, true, .no⟩) bv 1 bd.length (bcells bd) := a2.d.set _ b1
      generalize H2.set 1 ⟨[.int .i64 st, v', bv], 0, true, .no⟩ = H3 at *
      have hg3 : hget H3 1 0 3 0 = some [.int .i64 st, v', bv] := by rw [hget_at q13]; simp
      obtain ⟨H4, s4, k4, fr4⟩ := resp_snap st v3 w3 61
      have c11 : C T 11 [.agg [.int .i64 st, v', bv], .bool br] H3 = some (.bool (rightB st fs bd br), H4) := by
        refine pure_snap fd11 rfl (args' := [respV st fs bd, .bool br]) (by rw [mapS_cons, s4]; simp) ?_ (right_ok st _ _ fs bd (fldV_ok fs) (bytV_ok bd) hsm (by omega) br)
        rw [mapS_cons, resp_self st _ _ fs bd (fldV_ok fs) (bytV_ok bd) 61]
        simp
      have q14 := fr4 1 _ r1 b1 q13
      have q04 := fr4 0 _ r0 b0 q03
      have z4 := zfail q04
      have hc3 := cells_cell a3
      have hob := obK_sl (H := H4) (f := false) (b := b.take (at_ + nn))
      have hap : (bcells bd).length = bd.length := bcells_len bd
      push_cast at hbs hbs0
      obtain ⟨H5, s5, k5, fr5⟩ := resp_snap st (v3.kp k4) (w3.kp k4) 61
      have hfit : Fits st fs bd := ⟨by omega, by omega, hsm.len, by omega⟩
      have c9 := bytes_snap hx hfit s5 (fldV_ok fs) (bytV_ok bd)
      have hg4 : hget H4 1 0 3 0 = some [.int .i64 st, v', bv] := by rw [hget_at q14]; simp
      have q15 := fr5 1 _ r1 b1 q14
      have q05 := fr5 0 _ r0 b0 q04
      have z5 := zfail q05
      have hg5 : hget H5 1 0 3 0 = some [.int .i64 st, v', bv] := by rw [hget_at q15]; simp
      have hs6 : hset H5 0 0 0 [.int .i64 st, v', bv] = some (H5.set 0 ⟨[.int .i64 st, v', bv], 0, true, .no⟩) := by rw [hset_at q05]; simp [splice]
      have hg6 : hget (H5.set 0 ⟨[.int .i64 st, v', bv], 0, true, .no⟩) 0 0 3 0 = some [.int .i64 st, v', bv] := by rw [hget_at (set_self q05)]; simp
      have hk6 : ∃ H7, snap 63 (H5.set 0 ⟨[.int .i64 st, v', bv], 0, true, .no⟩) (.agg [.int .i64 st, v', bv]) = some (respV st fs bd, H7) := by
        obtain ⟨H7, s7, _⟩ := resp_snap st (((v3.kp k4).kp k5).set (j := 0) ⟨[.int .i64 st, v', bv], 0, true, .no⟩ r0) (((w3.kp k4).kp k5).set (j := 0) ⟨[.int .i64 st, v', bv], 0, true, .no⟩ b0) 60
        exact ⟨H7, s7⟩
      obtain ⟨H7, s7⟩ := hk6
      have hvc := hA.cell
      have hob1 := obK_sl (H := H5) (f := false) (b := outB st fs ++ bd)
      have hob2 := fun H => obK_sl (H := H) (f := false) (b := b.take (at_ + nn))
      generalize b.take (at_ + nn) = bt at *
      generalize outB st fs ++ bd = ob at *
      generalize rightB st fs bd br = rb at *
      have hvb : ∀ H, viewOf H 1 (slv bd) = some (bd.length, bcells bd) := fun H => by simp [viewOf]
      cases br with
      | false =>
        have hN : lenN fs = nn := by simp at hnn; omega
        rw [hN] at c27
        have hgt' : ¬ (b.length : Int) - at_ < nn := by omega
        cases rb with
        | false => simp (disch := omega) [d31, hs, hbg, begV, strsV, accV, oneR, hzv, fillP, splice, hst, hstore, htl, x1, g0, g1, g4, g7, g9, hg1, c27, hgt', hbs, a1, hst2, a3, hc3, hg3, c11, z4]
        | true =>
          by_cases hq2 : ob = bt
          · subst hq2
            simp (disch := omega) [d31, hs, hbg, begV, strsV, accV, oneR, fillP, splice, hst, hstore, htl, x1, g0, g1, g4, g7, g9, hg1, c27, hgt', hbs, hbs0, a1, hst2, a3, hc3, hg3, c11, hg4, c9, hob1, hob2, hg5, hvc, hs6, hg6, s7]
          · have hq3 : (ob == bt) = false := by simpa using hq2
            simp (disch := omega) [d31, hs, hbg, begV, strsV, accV, oneR, hzv, fillP, splice, hst, hstore, htl, x1, g0, g1, g4, g7, g9, hg1, c27, hgt', hbs, hbs0, a1, hst2, a3, hc3, hg3, c11, hg4, c9, hob1, hob2, hq2, hq3, z5]
      | true =>
        have hN : nn = 0 := by simpa using hnn.symm
        subst hN
        have hgt' : ¬ (b.length : Int) - at_ < 0 := by omega
        simp only [Int.natCast_zero, Int.add_zero, Nat.add_zero] at hbs hbs0 ⊢
        cases rb with
        | false => simp (disch := omega) [d31, hs, hbg, begV, strsV, accV, oneR, hzv, fillP, splice, hst, hstore, htl, x1, g0, g1, g4, g7, g9, hg1, c27, hgt', hbs, a1, hst2, a3, hc3, hg3, c11, z4]
        | true =>
          by_cases hq2 : ob = bt
          · subst hq2
            simp (disch := omega) [d31, hs, hbg, begV, strsV, accV, oneR, fillP, splice, hst, hstore, htl, x1, g0, g1, g4, g7, g9, hg1, c27, hgt', hbs, hbs0, a1, hst2, a3, hc3, hg3, c11, hg4, c9, hob1, hob2, hg5, hvc, hs6, hg6, s7]
          · have hq3 : (ob == bt) = false := by simpa using hq2
            simp (disch := omega) [d31, hs, hbg, begV, strsV, accV, oneR, hzv, fillP, splice, hst, hstore, htl, x1, g0, g1, g4, g7, g9, hg1, c27, hgt', hbs, hbs0, a1, hst2, a3, hc3, hg3, c11, hg4, c9, hob1, hob2, hq2, hq3, z5]
end Go.Eng.S
