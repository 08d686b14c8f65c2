/- Rows of a heap. The bytes of a response: the iterator and its rounds. The iterator of a response's lines, under a caller's yield. The bytes of a response. No condition. -/
import Derived.Test.YtgjgcjhmaibblaaGreatDoorTp
import Derived.Test.YtgjgcjhmaibblaaGreatDoorM3
import Derived.Test.YtgjgcjhmaibblaaGreatDoorEj
namespace Go.Eng.S
open Go Go.Eng
set_option linter.unusedSectionVars false
variable [Sit]
theorem hget_at {H : Heap} {j : Nat} {cs : List AV} {g : Nat} {l : Bool} {kd : Kd} (h : H[j]? = some ⟨cs, g, l, kd⟩) (off n : Nat) : hget H j off n g = if off + n ≤ cs.length then some ((cs.drop off).take n) else none := by
  unfold hget; rw [h]; simp
theorem hset_at {H : Heap} {j : Nat} {cs : List AV} {g : Nat} {kd : Kd} (h : H[j]? = some ⟨cs, g, true, kd⟩) (off : Nat) (vs : List AV) : hset H j off g vs = if off + vs.length ≤ cs.length then some (H.set j ⟨splice cs off vs, g, true, kd⟩) else none := by
  unfold hset; rw [h]; simp
theorem typ_at {H : Heap} {j : Nat} {cs : List AV} {g : Nat} {t : TypeId} (h : H[j]? = some ⟨cs, g, true, .typ t⟩) : typOf H j g = some t := by
  unfold typOf; rw [h]; simp
theorem set_self {H : Heap} {j : Nat} {o x : AObj} (hk : H[j]? = some o) : (H.set j x)[j]? = some x := by
  rw [List.getElem?_set_self (List.getElem?_eq_some_iff.1 hk).1]
theorem set_ne {H : Heap} {j k : Nat} {o x : AObj} (h : k ≠ j) (hk : H[k]? = some o) : (H.set j x)[k]? = some o := by
  rw [List.getElem?_set_ne (Ne.symm h), hk]
theorem app_get {H : Heap} {G : Heap} {k : Nat} {o : AObj} (h : H[k]? = some o) : (H ++ G)[k]? = some o := by
  rw [List.getElem?_append_left (List.getElem?_eq_some_iff.1 h).1, h]

end Go.Eng.S
namespace Go.Eng.S
open Go Go.Eng
set_option linter.unusedSectionVars false
variable [Sit]
set_option maxRecDepth 20000
abbrev nls : AV := .cst (.slice none 0 0)
abbrev cr : Seg := [13, 10]
def asA : List AOper := [⟨some 4, .mv (.t 7), none⟩]
def asR : List AOper := [⟨some 8, .load none (.t 3), none⟩, ⟨some 9, .mv (.t 4), none⟩, ⟨some 10, .bin .add .bool false (.t 9) (.k (.str [13, 10])), none⟩, ⟨some 11, .append .no 1 1 (.t 8) (.t 10), none⟩, ⟨none, .store 1 (.t 3) (.t 11), none⟩]
abbrev rowR (st : Int) (fs bd : AV) : AObj := ⟨[.int .i64 st, fs, bd], 0, true, .no⟩
/-- What was collected. -/
def Out (H : Heap) (v : AV) (acc : Seg) : Prop := (acc = [] ∧ v = nls) ∨ ∃ k g, v = .ms k 0 acc.length 1 g ∧ 3 ≤ k ∧ 0 < acc.length ∧ H[k]? = some ⟨bcells acc, g, true, .no⟩
def J (st : Int) (fs bd : AV) (acc : Seg) (H : Heap) : Prop := ∃ v, H[0]? = some (rowR st fs bd) ∧ H[1]? = some ⟨[v], 0, true, .no⟩ ∧ H[2]? = some (rowR st fs bd) ∧ Out H v acc
theorem Out.append {H : Heap} {v : AV} {acc : Seg} (h : Out H v acc) (h3 : 3 ≤ H.length) (s : Seg) (h0 : s ≠ []) (hl : acc.length + s.length < 2000000000) :
    ∃ H' v', aappend .no H 1 1 v s.length (bcells s) = some (v', H') ∧ Out H' v' (acc ++ s) ∧ v'.isCell = true ∧ H.length ≤ H'.length ∧ ∀ j o, j < 3 → H[j]? = some o → H'[j]? = some o := by
  have hl0 : s.length ≠ 0 := by simpa using h0
  have hall : (bcells s).all AV.isCell = true := by simp [bcells]
  rcases h with ⟨rfl, rfl⟩ | ⟨k, g, rfl, hk3, hp, hr⟩
  · refine ⟨hnewK H .no (bcells s), .ms H.length 0 s.length 1 0, ?_, .inr ⟨H.length, 0, by simp, h3, by simp; omega, by simp [hnew]⟩, rfl, by simp [hnew], fun j o hj hr => app_get hr⟩
    unfold aappend
    rw [if_neg hl0]
    have : s.length * (1 + 1) ≤ LIM := by unfold LIM; omega
    simp [hall, this]
  · have hk := (List.getElem?_eq_some_iff.1 hr).1
    have ht : List.take acc.length (bcells acc) ++ bcells s = bcells (acc ++ s) := by rw [List.take_of_length_le (by simp [bcells])]; simp [bcells]
    have hlim : (acc.length + s.length) * (1 + 1) ≤ LIM := by unfold LIM; omega
    refine ⟨H.set k ⟨bcells (acc ++ s), g + 1, true, .no⟩, .ms k 0 (acc.length + s.length) 1 (g + 1), ?_, .inr ⟨k, g + 1, by simp, hk3, by simp; omega, by rw [set_self hr]⟩, rfl, by simp, fun j o hj hr' => set_ne (by omega) hr'⟩
    unfold aappend
    rw [if_neg hl0]
    simp [hall, hlim, hr, bcells_len, ht]
theorem J.app {st : Int} {fs bd : AV} {acc : Seg} {H : Heap} (h : J st fs bd acc H) (o : AObj) : J st fs bd acc (H ++ [o]) := by
  obtain ⟨v, h0, h1, h2, h3⟩ := h
  refine ⟨v, app_get h0, app_get h1, app_get h2, ?_⟩
  rcases h3 with h3 | ⟨k, g, e1, e2, e3, e4⟩
  · exact .inl h3
  · exact .inr ⟨k, g, e1, e2, e3, app_get e4⟩
theorem J.len {st : Int} {fs bd : AV} {acc : Seg} {H : Heap} (h : J st fs bd acc H) : 3 ≤ H.length := by
  obtain ⟨v, h0, h1, h2, h3⟩ := h
  exact (List.getElem?_eq_some_iff.1 h2).1
theorem round_ok {st : Int} {fs bd : AV} {e : Env} (he3 : e.get 3 = .ptr 1 0 0) {acc : Seg} {H : Heap} (hJ : J st fs bd acc H) (s : Seg) (hl : acc.length + s.length < 1900000000) :
    ∃ H', round T (C T) 7 asA asR e [.str s] H = some H' ∧ J st fs bd (acc ++ (s ++ cr)) H' := by
  have h3 := hJ.len
  obtain ⟨v, h0, h1, h2, hO⟩ := hJ
  obtain ⟨H1, v', p1, p2, p3, p4, p5⟩ := hO.append h3 (s ++ cr) (by simp) (by simp; omega)
  have q1 := p5 1 _ (by omega) h1
  have hc3 := cells_cell p3
  have hlim : s.length + 2 ≤ LIM := by unfold LIM; omega
  have hs2 := hset_at q1 0 [v']
  have hg := hget_at h1 0 1
  simp only [List.length_append, List.length_cons, List.length_nil] at p1
  refine ⟨H1.set 1 ⟨[v'], 0, true, .no⟩, ?_, v', set_ne (by omega) (p5 0 _ (by omega) h0), set_self q1, set_ne (by omega) (p5 2 _ (by omega) h2), ?_⟩
  · simp [round, asA, asR, runOpsB, wantedA, yArgs, putA, aop, ev, Env.get, he3, hg, strBin, viewOf, hlim, p1, hc3, p3, hs2, splice]
  · rcases p2 with p2 | ⟨k, g, e1, e2, e3, e4⟩
    · exact .inl p2
    · exact .inr ⟨k, g, e1, e2, e3, set_ne (by omega) e4⟩
end Go.Eng.S
namespace Go.Eng.S
open Go Go.Eng
set_option linter.unusedSectionVars false
variable [Sit]
set_option maxRecDepth 20000
abbrev yv (l : Nat) : AV := .cst (.func (.yield l) #[] #[])
theorem isY (l : Nat) : isYield (.func (.yield l) #[] #[]) = some l := rfl
def ftx (l : List Fld) : Seg := l.flatMap fun f => fldT f ++ cr
theorem ftx_cons (f : Fld) (l : List Fld) : ftx (f :: l) = fldT f ++ cr ++ ftx l := rfl
theorem iter_succ (f : Env → Heap → Option (AEx × Env × Heap)) (live : List Nat) (n : Nat) (e : Env) (H : Heap) : iter f live (n + 1) e H = match f (Env.keep live e) H with
    | some (.normal, e', H') => iter f live n e' H'
    | r => r := by
  conv => lhs; unfold iter
  cases f (Env.keep live e) H with
  | none => rfl
  | some p => obtain ⟨x, e', H'⟩ := p; cases x <;> rfl
theorem iter_keep (f : Env → Heap → Option (AEx × Env × Heap)) (live : List Nat) (n : Nat) (e1 e2 : Env) (H : Heap) (h : Env.keep live e1 = Env.keep live e2) : iter f live n e1 H = iter f live n e2 H := by
  cases n with
  | zero => rfl
  | succ n => rw [iter_succ, iter_succ, h]
theorem set_last {H : Heap} {o o' : AObj} : (H ++ [o]).set H.length o' = H ++ [o'] := by simp
theorem it_loop {st : Int} {bd : AV} {e : Env} (he3 : e.get 3 = .ptr 1 0 0) (ly n : Nat) (l : List Fld) (hl : l.length < 100000000) : ∀ (k i : Nat) (acc : Seg) (H : Heap), i + k = l.length → acc.length + (ftx (l.drop i)).length < 1900000000 → J st (.sl false l.length 2 (fcells l)) bd acc H →
    ∃ e' H', iter (fun e1 H1 => execB T (C T) ly (round T (C T) 7 asA asR e) n L37_0 e1 H1) [0, 12, 13, 14] (k + 1) [(0, yv ly), (12, .sl false l.length 2 (fcells l)), (13, .int .i64 l.length), (14, .int .i64 i)] H = some (.exit 0, e', H') ∧ e'.get 0 = yv ly ∧ J st (.sl false l.length 2 (fcells l)) bd (acc ++ ftx (l.drop i)) H'
  | 0, i, acc, H, hk, ha, hJ => by
    have hd : l.drop i = [] := List.drop_eq_nil_of_le (by omega)
    have hlt : ¬ (i : Int) < (l.length : Int) := by omega
    have hx : ∃ e', iter (fun e1 H1 => execB T (C T) ly (round T (C T) 7 asA asR e) n L37_0 e1 H1) [0, 12, 13, 14] (0 + 1) [(0, yv ly), (12, .sl false l.length 2 (fcells l)), (13, .int .i64 l.length), (14, .int .i64 i)] H = some (.exit 0, e', H) ∧ e'.get 0 = yv ly := by
      rw [iter_succ]
      simp [L37_0, execB, runOpsB, wantedA, yArgs, putA, aop, ev, Env.get, Env.keep, intBin, hlt]
    obtain ⟨e', x1, x2⟩ := hx
    rw [hd]
    exact ⟨e', H, x1, x2, by simpa [ftx] using hJ⟩
  | k + 1, i, acc, H, hk, ha, hJ => by
    have hlt : i < l.length := by omega
    have hltI : (i : Int) < (l.length : Int) := by omega
    have hd : l.drop i = l[i] :: l.drop (i + 1) := List.drop_eq_getElem_cons hlt
    have hfd := fc_drop l i hlt
    rw [hd, ftx_cons] at ha ⊢
    simp only [List.length_append] at ha
    have hT := ftext_ok l[i] (by
      have : (fldT l[i]).length = l[i].1.length + l[i].2.length + 2 := by unfold fldT; simp; omega
      unfold LIM; omega)
    obtain ⟨H2, r1, r2⟩ := round_ok he3 (hJ.app ⟨[.str l[i].1, .str l[i].2], 0, true, .no⟩) (fldT l[i]) (by omega)
    have ih := it_loop he3 ly n l hl k (i + 1) (acc ++ (fldT l[i] ++ cr)) H2 (by omega) (by simp only [List.length_append]; omega) r2
    rw [iter_succ]
    have hlp := iter_keep (fun e1 H1 => execB T (C T) ly (round T (C T) 7 asA asR e) n L37_0 e1 H1) [0, 12, 13, 14] (k + 1)
    generalize iter (fun e1 H1 => execB T (C T) ly (round T (C T) 7 asA asR e) n L37_0 e1 H1) [0, 12, 13, 14] (k + 1) = lp at *
    have hix : ix l.length (.int .i64 (i : Int)) = some i := by simp only [ix]; rw [if_pos ⟨by omega, hltI⟩]; simp
    have hw : IntKind.i64.wrap ((i : Int) + 1) = (i : Int) + 1 := wr64 (by omega) (by omega)
    push_cast at ih
    obtain ⟨e', H', x1, x2, x3⟩ := ih
    refine ⟨e', H', ?_, x2, by simpa using x3⟩
    rw [← x1]
    have hst : hset (H ++ [⟨[.str [], .str []], 0, true, .no⟩]) H.length 0 0 [.str l[i].1, .str l[i].2] = some (H ++ [⟨[.str l[i].1, .str l[i].2], 0, true, .no⟩]) := by
      rw [hset_at (cs := [.str [], .str []]) (kd := .no) (by simp)]
      simp [splice]
    have hgt : hget (H ++ [⟨[.str l[i].1, .str l[i].2], 0, true, .no⟩]) H.length 0 2 0 = some [.str l[i].1, .str l[i].2] := by
      rw [hget_at (cs := [.str l[i].1, .str l[i].2]) (l := true) (kd := .no) (by simp)]
      simp
    simp [L37_0, execB, runOpsB, wantedA, yArgs, putA, aop, ev, Env.get, Env.keep, intBin, hltI, hix, hfd, hst, hgt, hT, r1, isY, applyF, hnew, hw, AV.cells, AV.isCell, aun]
    exact hlp _ _ _ rfl
end Go.Eng.S
namespace Go.Eng.S
open Go Go.Eng
set_option linter.unusedSectionVars false
variable [Sit]
set_option maxRecDepth 20000
def outB (st : Int) (l : List Fld) : Seg := fstL st ++ cr ++ ftx l ++ cr
theorem parts_run {st : Int} {fs bd : AV} {l : List Fld} (s1 : -9223372036854775808 ≤ st) (s2 : st < 9223372036854775808) (hl : l.length < 100000000) (hb : (outB st l).length < 1800000000) {e : Env} (he3 : e.get 3 = .ptr 1 0 0) (ly : Nat) (hfs : (l = [] ∧ fs = nls) ∨ fs = .sl false l.length 2 (fcells l))
    {H : Heap} (hJ : J st fs bd [] H) : ∃ e' H', execB T (C T) ly (round T (C T) 7 asA asR e) (l.length + 1) d37.body (argEnv 0 [yv ly, .ptr 2 0 0]) H = some (.normal, e', H') ∧ J st fs bd (outB st l) H' := by
  unfold outB at hb
  simp only [List.length_append] at hb
  have hf := first_ok st s1 s2
  obtain ⟨H1, r1, r2⟩ := round_ok he3 hJ (fstL st) (by simp; omega)
  rw [List.nil_append] at r2
  have hg0 : hget H 2 0 1 0 = some [.int .i64 st] := by
    obtain ⟨v, _, _, h2, _⟩ := hJ
    rw [hget_at h2]; simp
  have hg1 : hget H1 2 1 1 0 = some [fs] := by
    obtain ⟨v, _, _, h2, _⟩ := r2
    rw [hget_at h2]; simp
  have hlp : ∃ e' H2, iter (fun e1 H1 => execB T (C T) ly (round T (C T) 7 asA asR e) (l.length + 1) L37_0 e1 H1) [0, 12, 13, 14] (l.length + 1) [(0, yv ly), (12, fs), (13, .int .i64 l.length), (14, .int .i64 0)] H1 = some (.exit 0, e', H2) ∧ e'.get 0 = yv ly ∧ J st fs bd (fstL st ++ cr ++ ftx l) H2 := by
    rcases hfs with ⟨rfl, rfl⟩ | rfl
    · have hx : ∃ e', iter (fun e1 H1 => execB T (C T) ly (round T (C T) 7 asA asR e) 1 L37_0 e1 H1) [0, 12, 13, 14] (0 + 1) [(0, yv ly), (12, nls), (13, .int .i64 0), (14, .int .i64 0)] H1 = some (.exit 0, e', H1) ∧ e'.get 0 = yv ly := by
        rw [iter_succ]
        simp [L37_0, execB, runOpsB, wantedA, yArgs, putA, aop, ev, Env.get, Env.keep, intBin]
      obtain ⟨e', x1, x2⟩ := hx
      exact ⟨e', H1, x1, x2, by simpa [ftx] using r2⟩
    · have := it_loop he3 ly (l.length + 1) l hl l.length 0 (fstL st ++ cr) H1 (by omega) (by simp; omega) r2
      simpa using this
  obtain ⟨e', H2, x1, x2, x3⟩ := hlp
  obtain ⟨H3, r3, r4⟩ := round_ok he3 x3 [] (by simp; omega)
  have hk := iter_keep (fun e1 H1 => execB T (C T) ly (round T (C T) 7 asA asR e) (l.length + 1) L37_0 e1 H1) [0, 12, 13, 14] (l.length + 1)
  have hfull : ∃ e4, execB T (C T) ly (round T (C T) 7 asA asR e) (l.length + 1) d37.body (argEnv 0 [yv ly, .ptr 2 0 0]) H = some (.normal, e4, H3) := by
    generalize hlq : iter (fun e1 H1 => execB T (C T) ly (round T (C T) 7 asA asR e) (l.length + 1) L37_0 e1 H1) [0, 12, 13, 14] (l.length + 1) = lp at *
    have x1' : lp [(14, .int .i64 0), (13, .int .i64 l.length), (12, fs), (11, .ptr 2 1 0), (10, .bool false), (9, .bool true), (8, .str (fstL st)), (7, .int .i64 st), (6, .ptr 2 0 0), (5, yv ly), (0, yv ly), (1, .ptr 2 0 0)] H1 = some (.exit 0, e', H2) := by
      refine Eq.trans (hk _ [(0, yv ly), (12, fs), (13, .int .i64 l.length), (14, .int .i64 0)] _ ?_) x1
      rfl
    rcases hfs with ⟨rfl, rfl⟩ | rfl
    · simp only [List.length_nil, Int.natCast_zero] at *
      simp [d37, FDef.body, execB, runOpsB, argEnv, wantedA, yArgs, putA, aop, ev, Env.get, isY, hg0, hf, r1, aun, hg1, hlq, x1', Env.keep, x2, r3]
    · simp [d37, FDef.body, execB, runOpsB, argEnv, wantedA, yArgs, putA, aop, ev, Env.get, isY, hg0, hf, r1, aun, hg1, hlq, x1', Env.keep, x2, r3]
  obtain ⟨e4, h4⟩ := hfull
  exact ⟨e4, H3, h4, by simpa [outB] using r4⟩
end Go.Eng.S
