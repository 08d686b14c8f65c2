/- Plain laws: the bytes of a right response are read as it, by the code and by the reference. Plain laws: the code and the reference read the same responses. No condition. -/
import Derived.Test.YtgjgcjhmaibblaaGreatDoorMg
namespace Go.Eng.S
open Go Go.Eng
set_option linter.unusedSectionVars false
variable [Sit]
set_option maxRecDepth 20000
/-- No byte of a line's end. -/
def clean (x : Seg) : Prop := ∀ c ∈ x, c ≠ 13 ∧ c ≠ 10
theorem clean_cons {c : UInt8} {x : Seg} (h : clean (c :: x)) : (c ≠ 13 ∧ c ≠ 10) ∧ clean x := ⟨h c (List.mem_cons_self ..), fun d hd => h d (List.mem_cons_of_mem _ hd)⟩
theorem clean_app {x y : Seg} (h1 : clean x) (h2 : clean y) : clean (x ++ y) := fun c hc => (List.mem_append.1 hc).elim (h1 c) (h2 c)
theorem begS_line (most : Nat) (out : List Seg) (rest : Seg) : ∀ (x buf line : Seg) (op : Bool) (s i : Nat), clean x → ¬ (s = 2 ∨ s = 3) → buf.length + x.length ≤ most →
    begS most ⟨buf, line, false, op, s⟩ out i (x ++ 13 :: 10 :: rest) = if buf ++ x = [] then some (out, i + x.length + 2) else begS most ⟨[], buf ++ x, false, false, 1⟩ (out ++ [buf ++ x]) (i + x.length + 2) rest
  | [], buf, line, op, s, i, _, hs, hl => by
    have p1 : Rd.put most ⟨buf, line, false, op, s⟩ 13 = ⟨buf, line, true, true, 0⟩ := by simp [Rd.put, hs]
    have p2 : Rd.put most ⟨buf, line, true, true, 0⟩ 10 = ⟨[], buf, false, false, 1⟩ := by simp [Rd.put]
    rw [List.nil_append, begS, p1]
    simp only [Nat.zero_ne_one, if_false, show ¬ ((0 : Nat) = 2 ∨ (0 : Nat) = 3) by omega]
    rw [begS, p2]
    simp only [show ¬ ((1 : Nat) = 2 ∨ (1 : Nat) = 3) by omega, if_false, if_true, List.append_nil, List.length_nil, Nat.add_zero]
  | c :: x, buf, line, op, s, i, hc, hs, hl => by
    obtain ⟨⟨h13, h10⟩, hx⟩ := clean_cons hc
    simp only [List.length_cons] at hl
    have p1 : Rd.put most ⟨buf, line, false, op, s⟩ c = ⟨buf ++ [c], line, false, true, 0⟩ := by
      have : buf.length ≠ most := by omega
      simp [Rd.put, hs, h13, h10, this]
    have ih := begS_line most out rest x (buf ++ [c]) line true 0 (i + 1) hx (by omega) (by simp; omega)
    rw [List.cons_append, begS, p1]
    simp only [Nat.zero_ne_one, if_false, show ¬ ((0 : Nat) = 2 ∨ (0 : Nat) = 3) by omega]
    rw [ih]
    simp only [List.append_assoc, List.singleton_append, List.length_cons]
    rw [show i + 1 + x.length + 2 = i + (x.length + 1) + 2 by omega]
theorem begS_lines (most : Nat) (rest : Seg) : ∀ (ls : List Seg) (out : List Seg) (line : Seg) (op : Bool) (s i : Nat), (∀ x ∈ ls, clean x ∧ x ≠ [] ∧ x.length ≤ most) → ¬ (s = 2 ∨ s = 3) →
    begS most ⟨[], line, false, op, s⟩ out i (ls.flatMap (· ++ cr) ++ (13 :: 10 :: rest)) = some (out ++ ls, i + (ls.flatMap (· ++ cr)).length + 2)
  | [], out, line, op, s, i, _, hs => by
    have := begS_line most out rest [] [] line op s i (by intro c hc; simp at hc) hs (by simp)
    simpa using this
  | x :: ls, out, line, op, s, i, h, hs => by
    obtain ⟨h1, h2, h3⟩ := h x (List.mem_cons_self ..)
    have ih := begS_lines most rest ls (out ++ [x]) x false 1 (i + x.length + 2) (fun y hy => h y (List.mem_cons_of_mem _ hy)) (by omega)
    have := begS_line most out (ls.flatMap (· ++ cr) ++ (13 :: 10 :: rest)) x [] line op s i h1 hs (by simpa using h3)
    rw [List.nil_append, if_neg h2, ih] at this
    rw [List.flatMap_cons, List.append_assoc, List.append_assoc]
    rw [show x ++ (cr ++ (ls.flatMap (· ++ cr) ++ 13 :: 10 :: rest)) = x ++ 13 :: 10 :: (ls.flatMap (· ++ cr) ++ 13 :: 10 :: rest) from rfl, this]
    simp only [List.append_assoc, List.singleton_append, List.length_append, List.length_cons, List.length_nil]
    congr 2
    omega
theorem rdS_line (st : Int) (fs : List Fld) (rest : Seg) (fst : Bool) : ∀ (x cur : Seg), clean x → rdS fst cur st fs (x ++ 13 :: 10 :: rest) = if fst = true then rdS false [] (stR (cur ++ x) st) fs rest else rdS false [] st (fs ++ [cut2 (cur ++ x)]) rest
  | [], cur, _ => by
    rw [List.nil_append, rdS, if_pos ⟨rfl, rfl⟩, List.append_nil]
  | c :: x, cur, hc => by
    obtain ⟨⟨h13, h10⟩, hx⟩ := clean_cons hc
    have ih := rdS_line st fs rest fst x (cur ++ [c]) hx
    have : ∃ d r, x ++ 13 :: 10 :: rest = d :: r := by
      cases x with
      | nil => exact ⟨_, _, rfl⟩
      | cons d x => exact ⟨_, _, rfl⟩
    obtain ⟨d, r, hdr⟩ := this
    rw [List.cons_append, hdr, rdS_ne (fun h => h13 h.1), ← hdr, ih]
    simp
theorem rdS_lines (st : Int) : ∀ (ls : List Seg) (fs : List Fld), (∀ x ∈ ls, clean x) → rdS false [] st fs (ls.flatMap (· ++ cr)) = (st, fs ++ ls.map cut2)
  | [], fs, _ => by simp [rdS]
  | x :: ls, fs, h => by
    have ih := rdS_lines st ls (fs ++ [cut2 x]) (fun y hy => h y (List.mem_cons_of_mem _ hy))
    have := rdS_line st fs (ls.flatMap (· ++ cr)) false x [] (h x (List.mem_cons_self ..))
    rw [List.nil_append, if_neg (by decide), ih] at this
    rw [List.flatMap_cons, List.append_assoc, show x ++ (cr ++ ls.flatMap (· ++ cr)) = x ++ 13 :: 10 :: ls.flatMap (· ++ cr) from rfl, this]
    simp
theorem t4_a {c : UInt8} {r : Seg} (h : c ≠ 13) : ¬ (c :: r).take 4 = crcr := fun e => by
  rw [List.take_succ_cons] at e
  exact h (List.cons.inj e).1
theorem t4_b {c : UInt8} {r : Seg} (h : c ≠ 13) : ¬ (13 :: 10 :: c :: r).take 4 = crcr := fun e => by
  rw [List.take_succ_cons, List.take_succ_cons, List.take_succ_cons] at e
  exact h (List.cons.inj (List.cons.inj (List.cons.inj e).2).2).1
theorem t4_c (r : Seg) : (13 :: 10 :: 13 :: 10 :: r).take 4 = crcr := by simp
theorem f4_clean (s : Seg) : ∀ (x : Seg) (i : Nat), clean x → f4 i (x ++ s) = f4 (i + x.length) s
  | [], i, _ => by simp
  | c :: x, i, h => by
    obtain ⟨⟨h13, _⟩, hx⟩ := clean_cons h
    rw [List.cons_append, f4, if_neg (t4_a h13), f4_clean s x (i + 1) hx]
    congr 1
    simp only [List.length_cons]
    omega
theorem f4_lines (rest : Seg) : ∀ (ls : List Seg) (x : Seg) (i : Nat), clean x → (∀ y ∈ ls, clean y ∧ y ≠ []) → f4 i (x ++ 13 :: 10 :: (ls.flatMap (· ++ cr) ++ 13 :: 10 :: rest)) = some (i + x.length + (ls.flatMap (· ++ cr)).length)
  | [], x, i, hx, _ => by
    rw [f4_clean _ x i hx, List.flatMap_nil, List.nil_append, f4, if_pos (t4_c _)]
    rfl
  | y :: ls, x, i, hx, h => by
    obtain ⟨h1, h2⟩ := h y (List.mem_cons_self ..)
    have ih := f4_lines rest ls y (i + x.length + 2) h1 (fun z hz => h z (List.mem_cons_of_mem _ hz))
    obtain ⟨c, y', rfl⟩ : ∃ c y', y = c :: y' := by
      cases y with
      | nil => exact absurd rfl h2
      | cons c y' => exact ⟨c, y', rfl⟩
    have hc := (clean_cons h1).1
    have e : List.flatMap (· ++ cr) ((c :: y') :: ls) ++ 13 :: 10 :: rest = (c :: y') ++ 13 :: 10 :: (ls.flatMap (· ++ cr) ++ 13 :: 10 :: rest) := by
      rw [List.flatMap_cons, List.append_assoc, List.append_assoc]
      rfl
    rw [f4_clean _ x i hx, e, f4, List.cons_append, if_neg (t4_b hc.1), f4, if_neg (t4_a (by decide))]
    refine Eq.trans ih ?_
    simp only [List.flatMap_cons, List.length_append, List.length_cons, List.length_nil]
    congr 1
    omega
def chkS (n : Nat) : Bool := stL (fstL n) == n && stR (fstL n) 0 == n && (fstL n).all (fun c => c != 13 && c != 10)
theorem chk1 : (List.range' 100 300).all chkS = true := by decide +kernel
theorem chk2 : (List.range' 400 300).all chkS = true := by decide +kernel
theorem chk3 : (List.range' 700 300).all chkS = true := by decide +kernel
theorem chk_all (n : Nat) (h1 : 100 ≤ n) (h2 : n ≤ 999) : chkS n = true := by
  by_cases h : n < 400
  · exact List.all_eq_true.1 chk1 n (List.mem_range'.2 ⟨n - 100, by omega, by omega⟩)
  · by_cases h' : n < 700
    · exact List.all_eq_true.1 chk2 n (List.mem_range'.2 ⟨n - 400, by omega, by omega⟩)
    · exact List.all_eq_true.1 chk3 n (List.mem_range'.2 ⟨n - 700, by omega, by omega⟩)
theorem st_facts {st : Int} (h : stB st = true) : stL (fstL st) = st ∧ stR (fstL st) 0 = st ∧ clean (fstL st) ∧ 100 ≤ st ∧ st ≤ 999 := by
  simp only [stB, Bool.and_eq_true, decide_eq_true_eq] at h
  obtain ⟨n, rfl⟩ := Int.eq_ofNat_of_zero_le (show 0 ≤ st by omega)
  have := chk_all n (by omega) (by omega)
  simp only [chkS, Bool.and_eq_true, beq_iff_eq, List.all_eq_true, bne_iff_ne] at this
  exact ⟨this.1.1, this.1.2, fun c hc => this.2 c hc, by omega, by omega⟩
end Go.Eng.S
namespace Go.Eng.S
open Go Go.Eng
set_option linter.unusedSectionVars false
variable [Sit]
set_option maxRecDepth 20000
theorem cls2_all : (List.range 256).all (fun n => !clsB 2 (UInt8.ofNat n) || (n != 13 && n != 10 && n != 58)) = true := by decide +kernel
theorem cls5_all : (List.range 256).all (fun n => !clsB 5 (UInt8.ofNat n) || (n != 13 && n != 10)) = true := by decide +kernel
theorem cls2 {c : UInt8} (h : clsB 2 c = true) : c ≠ 13 ∧ c ≠ 10 ∧ c ≠ 58 := by
  have := all256 cls2_all c
  rw [UInt8.ofNat_toNat, h] at this
  simp only [Bool.not_true, Bool.false_or, Bool.and_eq_true, bne_iff_ne] at this
  refine ⟨?_, ?_, ?_⟩ <;> (rintro rfl; simp at this)
theorem cls5 {c : UInt8} (h : clsB 5 c = true) : c ≠ 13 ∧ c ≠ 10 := by
  have := all256 cls5_all c
  rw [UInt8.ofNat_toNat, h] at this
  simp only [Bool.not_true, Bool.false_or, Bool.and_eq_true, bne_iff_ne] at this
  refine ⟨?_, ?_⟩ <;> (rintro rfl; simp at this)
theorem fld_facts {f : Fld} (h : fldB f = true) : clean (fldT f) ∧ fldT f ≠ [] ∧ 58 ∉ f.1 := by
  simp only [fldB, isTok, Bool.and_eq_true, List.all_eq_true] at h
  obtain ⟨⟨⟨_, h1⟩, h2⟩, _⟩ := h
  refine ⟨?_, by simp [fldT], fun hm => (cls2 (h1 _ hm)).2.2 rfl⟩
  intro c hc
  unfold fldT at hc
  rcases List.mem_append.1 hc with hc | hc
  · exact ⟨(cls2 (h1 c hc)).1, (cls2 (h1 c hc)).2.1⟩
  · rcases List.mem_cons.1 hc with rfl | hc
    · exact ⟨by decide, by decide⟩
    · rcases List.mem_cons.1 hc with rfl | hc
      · exact ⟨by decide, by decide⟩
      · exact cls5 (h2 c hc)
theorem idx2_fld (v : Seg) : ∀ n : Seg, 58 ∉ n → idx2 (n ++ 58 :: 32 :: v) = some n.length
  | [], _ => by simp [idx2]
  | [a], h => by
    have ha : ¬ a = 58 := fun e => h (by simp [e])
    have := idx2_fld v [] (by simp)
    simp only [List.nil_append] at this
    show idx2 (a :: 58 :: 32 :: v) = _
    rw [idx2, if_neg (fun e => ha e.1), this]
    rfl
  | a :: b :: n, h => by
    have ha : ¬ a = 58 := fun e => h (by simp [e])
    have := idx2_fld v (b :: n) (fun hm => h (List.mem_cons_of_mem _ hm))
    simp only [List.cons_append] at this ⊢
    rw [idx2, if_neg (fun e => ha e.1), this]
    simp
theorem cut2_fld {f : Fld} (h : 58 ∉ f.1) : cut2 (fldT f) = f := by
  have hi : ix2 (fldT f) = f.1.length := by
    unfold ix2 fldT
    rw [idx2_fld f.2 f.1 h]
  unfold cut2
  rw [hi, if_pos (by omega)]
  unfold fldT
  obtain ⟨n, v⟩ := f
  simp only [Int.toNat_natCast, List.take_left']
  refine Prod.ext ?_ ?_
  · simp
  · show List.drop (n.length + 2) (n ++ 58 :: 32 :: v) = v
    rw [← List.drop_drop, List.drop_left]
    rfl
theorem flds_facts {l : List Fld} (h : fldsB l = true) : (∀ x ∈ l.map fldT, clean x ∧ x ≠ []) ∧ (l.map fldT).map cut2 = l := by
  simp only [fldsB, List.all_eq_true] at h
  constructor
  · intro x hx
    obtain ⟨f, hf, rfl⟩ := List.mem_map.1 hx
    have := fld_facts (h f hf)
    exact ⟨this.1, this.2.1⟩
  · rw [List.map_map]
    conv => rhs; rw [← List.map_id l]
    exact List.map_congr_left fun f hf => cut2_fld (fld_facts (h f hf)).2.2
theorem ftx_map (l : List Fld) : ftx l = (l.map fldT).flatMap (· ++ cr) := by
  unfold ftx
  rw [List.flatMap_map]
theorem outB_eq (st : Int) (l : List Fld) (t : Seg) : outB st l ++ t = fstL st ++ 13 :: 10 :: ((l.map fldT).flatMap (· ++ cr) ++ 13 :: 10 :: t) := by
  unfold outB
  rw [ftx_map]
  simp
structure RightP (r : Rsp) (br : Bool) : Prop where
  flds : fldsB r.2.1 = true
  len : lenB r.2.1 = true
  st : stB r.1 = true
  body : if br = true then r.2.2 = [] else lenN r.2.1 = r.2.2.length
theorem rightB_iff (r : Rsp) (br : Bool) : rightB r.1 r.2.1 r.2.2 br = true ↔ RightP r br := by
  constructor
  · intro h
    simp only [rightB, Bool.and_eq_true] at h
    obtain ⟨h1, ⟨h2, h3⟩, h4⟩ := h
    refine ⟨h1, h2, h4, ?_⟩
    cases br with
    | true => simpa using h3
    | false => simpa using h3
  · rintro ⟨h1, h2, h3, h4⟩
    simp only [rightB, Bool.and_eq_true]
    refine ⟨h1, ⟨h2, ?_⟩, h3⟩
    cases br with
    | true => simpa using h4
    | false => simpa using h4
theorem begL_right {r : Rsp} {br : Bool} (h : RightP r br) (t : Seg) : begL (outB r.1 r.2.1 ++ t) = some (fstL r.1 :: r.2.1.map fldT, (outB r.1 r.2.1).length) := by
  obtain ⟨f1, f2⟩ := flds_facts h.flds
  obtain ⟨s1, s2, s3, s4, s5⟩ := st_facts h.st
  have hne : fstL r.1 ≠ [] := by unfold fstL; simp
  have hl := begS_lines (outB r.1 r.2.1 ++ t).length t (fstL r.1 :: r.2.1.map fldT) [] [] false 0 0 (by
    intro x hx
    have hlen : ∀ x ∈ fstL r.1 :: r.2.1.map fldT, x.length ≤ (outB r.1 r.2.1 ++ t).length := by
      intro x hx
      rw [outB_eq]
      rcases List.mem_cons.1 hx with rfl | hx
      · simp
      · have : x.length ≤ ((r.2.1.map fldT).flatMap (· ++ cr)).length := by
          obtain ⟨A, B, hAB⟩ := List.append_of_mem hx
          rw [hAB]
          simp only [List.flatMap_append, List.flatMap_cons, List.length_append]
          omega
        simp only [List.length_append, List.length_cons]
        omega
    rcases List.mem_cons.1 hx with hx' | hx'
    · subst hx'; exact ⟨s3, hne, hlen _ hx⟩
    · exact ⟨(f1 x hx').1, (f1 x hx').2, hlen _ hx⟩) (by omega)
  have e : outB r.1 r.2.1 ++ t = (fstL r.1 :: r.2.1.map fldT).flatMap (· ++ cr) ++ (13 :: 10 :: t) := by
    rw [outB_eq, List.flatMap_cons]
    simp
  have e2 : (outB r.1 r.2.1).length = ((fstL r.1 :: r.2.1.map fldT).flatMap (· ++ cr)).length + 2 := by
    have := congrArg List.length e
    simp only [List.length_append, List.length_cons] at this
    omega
  unfold begL
  rw [e] at hl ⊢
  rw [show rd0 = (⟨[], [], false, false, 0⟩ : Rd) from rfl, hl, e2]
  simp
theorem rd_right {r : Rsp} {br : Bool} (h : RightP r br) (t : Seg) : f4 0 (outB r.1 r.2.1 ++ t) = some ((outB r.1 r.2.1).length - 4) ∧ rdL (outB r.1 r.2.1 ++ t) ((outB r.1 r.2.1).length - 2) = (r.1, r.2.1) := by
  obtain ⟨f1, f2⟩ := flds_facts h.flds
  obtain ⟨s1, s2, s3, s4, s5⟩ := st_facts h.st
  have e2 : (outB r.1 r.2.1).length = (fstL r.1).length + 2 + ((r.2.1.map fldT).flatMap (· ++ cr)).length + 2 := by
    have := congrArg List.length (outB_eq r.1 r.2.1 [])
    simp only [List.append_nil, List.length_append, List.length_cons, List.length_nil] at this
    omega
  constructor
  · rw [outB_eq, f4_lines t (r.2.1.map fldT) (fstL r.1) 0 s3 f1]
    congr 1
    omega
  · unfold rdL
    have e3 : (outB r.1 r.2.1 ++ t).take ((outB r.1 r.2.1).length - 2) = fstL r.1 ++ 13 :: 10 :: ((r.2.1.map fldT).flatMap (· ++ cr)) := by
      have e4 : outB r.1 r.2.1 ++ t = (fstL r.1 ++ 13 :: 10 :: ((r.2.1.map fldT).flatMap (· ++ cr))) ++ (13 :: 10 :: t) := by
        rw [outB_eq]; simp
      have e5 : (outB r.1 r.2.1).length - 2 = (fstL r.1 ++ 13 :: 10 :: ((r.2.1.map fldT).flatMap (· ++ cr))).length := by
        simp only [List.length_append, List.length_cons]; omega
      rw [e4, e5, List.take_left]
    rw [e3, rdS_line 0 [] _ true (fstL r.1) [] s3, if_pos rfl, List.nil_append, s2, rdS_lines r.1 (r.2.1.map fldT) [] (fun x hx => (f1 x hx).1), f2]
    simp
theorem oneL_right {r : Rsp} {br : Bool} (h : RightP r br) (t : Seg) : oneL (bytesR r ++ t) br = some (r, (bytesR r).length) := by
  have hb : bytesR r ++ t = outB r.1 r.2.1 ++ (r.2.2 ++ t) := by unfold bytesR; simp
  have hbl := congrArg List.length hb
  unfold oneL
  rw [hb, begL_right h]
  simp only
  obtain ⟨f1, f2⟩ := flds_facts h.flds
  obtain ⟨s1, s2, s3, s4, s5⟩ := st_facts h.st
  rw [f2, s1]
  have hn : (if br = true then 0 else (lenN r.2.1).toNat) = r.2.2.length := by
    have := h.body
    cases br with
    | true => simp at this ⊢; rw [this]; rfl
    | false => simp at this ⊢; omega
  rw [hn]
  have hd : ((outB r.1 r.2.1 ++ (r.2.2 ++ t)).drop (outB r.1 r.2.1).length).take r.2.2.length = r.2.2 := by
    rw [List.drop_left, List.take_left]
  rw [hd]
  have ht : (outB r.1 r.2.1 ++ (r.2.2 ++ t)).take ((outB r.1 r.2.1).length + r.2.2.length) = outB r.1 r.2.1 ++ r.2.2 := by
    rw [← List.append_assoc, ← List.length_append, List.take_left]
  rw [ht, if_neg, if_pos ⟨(rightB_iff r br).2 h, rfl⟩]
  · show some ((r.1, r.2.1, r.2.2), _) = _
    unfold bytesR
    rw [List.length_append]
  · rintro ⟨hgt, rfl⟩
    have := h.body
    simp at this
    rw [this] at hgt
    simp only [List.length_append] at hgt
    omega
theorem oneRL_right {r : Rsp} {br : Bool} (h : RightP r br) (t : Seg) : oneRL (bytesR r ++ t) br = some (r, (bytesR r).length) := by
  have hb : bytesR r ++ t = outB r.1 r.2.1 ++ (r.2.2 ++ t) := by unfold bytesR; simp
  obtain ⟨g1, g2⟩ := rd_right h (r.2.2 ++ t)
  have hl4 : 4 ≤ (outB r.1 r.2.1).length := by unfold outB fstL; simp
  unfold oneRL
  rw [hb, g1]
  simp only
  rw [show (outB r.1 r.2.1).length - 4 + 2 = (outB r.1 r.2.1).length - 2 by omega, show (outB r.1 r.2.1).length - 4 + 4 = (outB r.1 r.2.1).length by omega]
  unfold readL
  rw [g2]
  simp only
  have hr : rlen r.2.1 = lenN r.2.1 := by unfold rlen; rw [if_pos h.len]
  rw [hr]
  have hn : (if br = true then 0 else (lenN r.2.1).toNat) = r.2.2.length := by
    have := h.body
    cases br with
    | true => simp at this ⊢; rw [this]; rfl
    | false => simp at this ⊢; omega
  have hnI : (if br = true then 0 else lenN r.2.1) = (r.2.2.length : Int) := by
    have := h.body
    cases br with
    | true => simp at this ⊢; rw [this]; rfl
    | false => simpa using this
  rw [hn, hnI]
  have hd : ((outB r.1 r.2.1 ++ (r.2.2 ++ t)).drop (outB r.1 r.2.1).length).take r.2.2.length = r.2.2 := by
    rw [List.drop_left, List.take_left]
  rw [hd]
  have ht : (outB r.1 r.2.1 ++ (r.2.2 ++ t)).take ((outB r.1 r.2.1).length + r.2.2.length) = outB r.1 r.2.1 ++ r.2.2 := by
    rw [← List.append_assoc, ← List.length_append, List.take_left]
  rw [ht, if_neg, if_pos ⟨(rightB_iff r br).2 h, rfl⟩]
  · show some ((r.1, r.2.1, r.2.2), _) = _
    unfold bytesR
    rw [List.length_append]
  · rintro (hgt | hgt)
    · omega
    · simp only [List.length_append] at hgt
      omega
theorem oneL_sound {b : Seg} {br : Bool} {r : Rsp} {n : Nat} (h : oneL b br = some (r, n)) : RightP r br ∧ bytesR r = b.take n := by
  unfold oneL at h
  split at h
  · rename_i f ls at_ hq
    generalize (if br = true then 0 else (lenN (ls.map cut2)).toNat) = nn at h
    split at h
    · cases h
    · split at h
      · rename_i hc
        cases h
        exact ⟨(rightB_iff _ _).1 hc.1, hc.2⟩
      · cases h
  · cases h
theorem oneRL_sound {b : Seg} {br : Bool} {r : Rsp} {n : Nat} (h : oneRL b br = some (r, n)) : RightP r br ∧ bytesR r = b.take n := by
  unfold oneRL at h
  split at h
  · rename_i i hf
    unfold readL at h
    generalize (if br = true then 0 else rlen (rdL b (i + 2)).2) = nn at h
    generalize (if br = true then 0 else (rlen (rdL b (i + 2)).2).toNat) = nt at h
    split at h
    · cases h
    · split at h
      · rename_i hc
        cases h
        exact ⟨(rightB_iff _ _).1 hc.1, hc.2⟩
      · cases h
  · cases h
theorem one_eq (b : Seg) (br : Bool) : oneL b br = oneRL b br := by
  cases h1 : oneL b br with
  | some p =>
    obtain ⟨r, n⟩ := p
    obtain ⟨a1, a2⟩ := oneL_sound h1
    have hn := oneL_n h1
    have := oneRL_right a1 (b.drop n)
    rw [a2, List.take_append_drop] at this
    rw [this]
    congr 2
    simp
    omega
  | none =>
    cases h2 : oneRL b br with
    | none => rfl
    | some p =>
      obtain ⟨r, n⟩ := p
      obtain ⟨a1, a2⟩ := oneRL_sound h2
      have := oneL_right a1 (b.drop n)
      rw [a2, List.take_append_drop, h1] at this
      cases this
theorem split_eq (bare : List Bool) (k i : Nat) (b : Seg) : splitL oneL bare k i b = splitL oneRL bare k i b := by
  have : oneL = oneRL := by funext b br; exact one_eq b br
  rw [this]
theorem split_sound (bare : List Bool) : ∀ (k i : Nat) (b : Seg) (L : List Rsp), splitL oneL bare k i b = some L → joinL L = b ∧ ∀ r ∈ L, (0 ≤ r.1 ∧ r.1 ≤ 999) ∧ (bytesR r).length ≤ b.length
  | 0, i, b, L, h => by
    rw [splitL] at h
    split at h
    · rename_i h0
      cases h
      exact ⟨h0.symm, fun r hr => by cases hr⟩
    · cases h
  | k + 1, i, b, L, h => by
    rw [splitL] at h
    split at h
    · rename_i h0
      cases h
      exact ⟨h0.symm, fun r hr => by cases hr⟩
    · split at h
      · rename_i r n ho
        obtain ⟨a1, a2⟩ := oneL_sound ho
        cases hq : splitL oneL bare k (i + 1) (b.drop n) with
        | none => rw [hq] at h; cases h
        | some M =>
          rw [hq] at h
          cases h
          obtain ⟨b1, b2⟩ := split_sound bare k (i + 1) (b.drop n) M hq
          refine ⟨by rw [joinL_cons, b1, a2, List.take_append_drop], fun s hs => ?_⟩
          rcases List.mem_cons.1 hs with rfl | hs
          · have := (st_facts a1.st).2.2.2
            refine ⟨by omega, ?_⟩
            rw [a2]
            simp
            omega
          · obtain ⟨c1, c2⟩ := b2 s hs
            exact ⟨c1, by simp at c2; omega⟩
      · cases h
theorem split_right (bare : List Bool) : ∀ (L : List Rsp) (k i : Nat), (joinL L).length ≤ k → (∀ j (hj : j < L.length), RightP L[j] (bare.getD (i + j) false)) → splitL oneL bare k i (joinL L) = some L
  | [], k, i, _, _ => by cases k <;> rfl
  | r :: L, k, i, hk, h => by
    have hne := bytesR_ne r
    have h0 := h 0 (by simp)
    simp only [List.getElem_cons_zero, Nat.add_zero] at h0
    have hl : 0 < (bytesR r).length := List.length_pos_iff.2 hne
    rw [joinL_cons] at hk ⊢
    simp only [List.length_append] at hk
    match k, hk with
    | 0, hk => omega
    | k + 1, hk =>
    have ih := split_right bare L k (i + 1) (by omega) (fun j hj => by
      have := h (j + 1) (by simpa using hj)
      rw [show i + 1 + j = i + (j + 1) by omega]
      simpa using this)
    rw [splitL, if_neg (by simp [hne]), oneL_right h0]
    dsimp only
    rw [List.drop_left, ih]
    rfl
end Go.Eng.S
