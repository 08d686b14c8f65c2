/- Strings: cut, split, searched. No condition. -/
import Derived.Test.YtdffpjbjpfolfaaGreatDoorGj
import Derived.Test.YtdffpjbjpfolfaaGreatDoorGf
namespace Go.Eng.S
open Go Go.Eng
/-- Does it begin with a slash? -/
def sl1 : Seg → Bool
  | c :: _ => c == 47
  | [] => false
theorem hpre_ok (s : Seg) (hs : s.length < 1000000000) (H : Heap) : C T 52 [.str s, .str [47]] H = some (.bool (sl1 s), H) := by
  refine anyH fd52 rfl rfl ?_ H
  rw [q52]
  cases s with
  | nil => simp [d52, sl1]
  | cons c r =>
    simp only [List.length_cons] at hs
    by_cases h : c = 47
    · subst h
      simp (disch := omega) [d52, sl1]
    · simp (disch := omega) [d52, sl1]
theorem hpref_ok (s : Seg) (hs : s.length < 1000000000) (H : Heap) : C T 38 [.str s, .str [47]] H = some (.bool (sl1 s), H) := by
  refine anyH fd38 rfl rfl ?_ H
  rw [q38]
  have h := hpre_ok s hs []
  simp [d38, h]
theorem cpre_ok (s : Seg) (hs : s.length < 1000000000) (H : Heap) : C T 30 [.str s, .str [47]] H = some (.tup [.str (if sl1 s = true then s.drop 1 else s), .bool (sl1 s)], H) := by
  have h1 : ∀ H, C T 47 [.str s, .str [47]] H = some (.tup [.str (if sl1 s = true then s.drop 1 else s), .bool (sl1 s)], H) := by
    intro H
    refine anyH fd47 rfl rfl ?_ H
    rw [q47]
    have h := hpre_ok s hs []
    cases hb : sl1 s with
    | false =>
      rw [hb] at h
      simp [d47, h]
    | true =>
      rw [hb] at h
      cases s with
      | nil => cases hb
      | cons c r =>
        simp only [List.length_cons] at hs
        simp (disch := omega) [d47, h]
  refine anyH fd30 rfl rfl ?_ H
  rw [q30]
  have h := h1 []
  simp [d30, h]

/-- The first byte that is not allowed. -/
def fstB (p : UInt8 → Bool) (s : Seg) : Option Nat := if s.all p = true then none else some (s.takeWhile p).length
theorem idxf_loop {f : Nat} {p : UInt8 → Bool} (hf : ∀ c, C T f [.int .u8 c.toNat] [] = some (.bool (!p c), [])) (s : Seg) (hs : s.length < 1000000000) : ∀ (n i : Nat), i + n = s.length →
    ∃ e', XL T [0, 1, 7, 8] L39_0 [(0, .sl false s.length 1 (bcells s)), (1, .fn (.func f) [] []), (7, .int .i64 s.length), (8, .int .i64 i)] [] = some (if (s.drop i).all p = true then .exit 0 else .ret, e', []) ∧ ((s.drop i).all p = false → e'.get 4 = .int .i64 (i + ((s.drop i).takeWhile p).length : Nat))
  | 0, i, hk => by
    have hd : s.drop i = [] := List.drop_eq_nil_of_le (by omega)
    rw [hd, XL_eq]
    simp (disch := omega) [L39_0]
  | k + 1, i, hk => by
    have hlt : i < s.length := by omega
    have hd : s.drop i = s[i] :: s.drop (i + 1) := List.drop_eq_getElem_cons hlt
    have ih := idxf_loop hf s hs k (i + 1) (by omega)
    push_cast at ih
    have hc := hf s[i]
    have hbd : (bcells s).drop i = .int .u8 (s[i].toNat : Nat) :: (bcells s).drop (i + 1) := by
      rw [List.drop_eq_getElem_cons (by simpa [bcells] using hlt)]
      simp [bcells]
    rw [hd, XL_eq, List.all_cons, List.takeWhile_cons]
    generalize XL T [0, 1, 7, 8] L39_0 = lp at *
    generalize (s.drop (i + 1)).takeWhile p = W at *
    generalize (s.drop (i + 1)).all p = R at *
    cases hh : p s[i] with
    | false =>
      rw [hh] at hc
      simp (disch := omega) [L39_0, hbd, hc]
    | true =>
      rw [hh] at hc
      obtain ⟨e', x1, x2⟩ := ih
      simp (disch := omega) [L39_0, hbd, hc]
      refine ⟨e', x1, fun hr => ?_⟩
      rw [x2 hr]
      congr 1
      omega
theorem snap_bcf (k : Nat) (H : Heap) (f : Bool) (s : Seg) (n : Nat) : snap (k + 1) H (.sl f n 1 (bcells s)) = some (.sl false n 1 (bcells s), H) := by
  have : closedL (bcells s) = true := by
    induction s with
    | nil => rfl
    | cons c r ih => simp only [bcells] at ih; simp [bcells, AV.closed, ih]
  simp [snap, this]
theorem idxf_ok {f : Nat} {p : UInt8 → Bool} (hf : ∀ c, C T f [.int .u8 c.toNat] [] = some (.bool (!p c), [])) (s : Seg) (hs : s.length < 1000000000) (H : Heap) :
    C T 39 [.sl false s.length 1 (bcells s), .fn (.func f) [] []] H = some (.int .i64 (match fstB p s with
      | none => -1
      | some i => i), H) := by
  have hcl : closedL [.sl false s.length 1 (bcells s), .fn (.func f) [] []] = true := by
    have : closedL (bcells s) = true := by
      induction s with
      | nil => rfl
      | cons c r ih => have ih := ih (by simp at hs; omega); simp only [bcells] at ih; simp [bcells, AV.closed, ih]
    simp [closedL, AV.closed, this]
  refine anyH fd39 rfl hcl ?_ H
  rw [q39]
  have hsf : ∀ (k : Nat) (H : Heap), snap (k + 1) H (.fn (.func f) [] []) = some (.fn (.func f) [] [], H) := fun _ _ => rfl
  have hsn := fun k H => snap_bcf k H false s s.length
  obtain ⟨e', h1, h2⟩ := idxf_loop hf s hs s.length 0 (by omega)
  simp only [List.drop_zero, Int.natCast_zero, Nat.zero_add] at h1 h2
  unfold fstB
  cases ha : s.all p with
  | true =>
    rw [ha] at h1
    simp only [if_true] at h1
    simp [d39, h1, hsf, hsn]
  | false =>
    rw [ha] at h1
    simp at h1
    simp [d39, h1, hsf, hsn, h2 ha]

/-- Split at the slashes. -/
def consH (c : UInt8) : List Seg → List Seg
  | h :: t => (c :: h) :: t
  | [] => [[c]]
def spl : Seg → List Seg
  | [] => [[]]
  | c :: r => if c = 47 then [] :: spl r else consH c (spl r)
theorem spl_eq : ∀ s : Seg, spl s = if (47 : UInt8) ∈ s then s.take (cutI 47 s) :: spl (s.drop (cutI 47 s + 1)) else [s]
  | [] => by simp [spl]
  | c :: r => by
    have ih := spl_eq r
    rw [spl, cutI_cons]
    by_cases hc : c = 47
    · simp [hc]
    · have hc' : ¬ (47 : UInt8) = c := fun h => hc h.symm
      rw [if_neg hc, if_neg hc, ih]
      by_cases hm : (47 : UInt8) ∈ r
      · simp [hm, consH]
      · simp [hm, hc', consH]
theorem count_cut : ∀ s : Seg, s.count 47 = if (47 : UInt8) ∈ s then (s.drop (cutI 47 s + 1)).count 47 + 1 else 0
  | [] => by simp
  | c :: r => by
    have ih := count_cut r
    rw [cutI_cons]
    by_cases hc : c = 47
    · simp [hc]
    · have hc' : ¬ (47 : UInt8) = c := fun h => hc h.symm
      rw [if_neg hc, List.count_cons, ih]
      by_cases hm : (47 : UInt8) ∈ r <;> simp [hm, hc, hc']
theorem spl_len : ∀ s : Seg, (spl s).length = s.count 47 + 1
  | [] => rfl
  | c :: r => by
    have ih := spl_len r
    rw [spl]
    by_cases hc : c = 47
    · simp [hc, ih]
    · rw [if_neg hc]
      have hn : ∀ l : List Seg, l ≠ [] → (consH c l).length = l.length := by
        intro l hl
        cases l with
        | nil => exact absurd rfl hl
        | cons a t => rfl
      rw [hn _ (by intro h; rw [h] at ih; simp at ih), ih, List.count_cons]
      simp [hc]
theorem pf76 : T.fn 76 = some (.prim pCnt) := by kernel_rfl
theorem ipc : isPure T 76 = false := by kernel_rfl
theorem count_ok (s : Seg) (H : Heap) : C T 60 [.str s, .str [47]] H = some (.int .i64 (s.count 47 : Nat), H) := by
  refine anyH fd60 rfl rfl ?_ H
  rw [q60]
  have h : C T 76 [.str s, .int .u8 47] [] = some (.int .i64 (s.count 47 : Nat), []) := by
    rw [C_prim pf76]; simp [pCnt]
  simp [d60, h]
theorem index_ok (s : Seg) (H : Heap) : C T 61 [.str s, .str [47]] H = some (.int .i64 (if (47 : UInt8) ∈ s then (cutI 47 s : Int) else -1), H) := by
  refine anyH fd61 rfl rfl ?_ H
  rw [q61]
  have h := index1_ok s 47 []
  simp [d61, h]
theorem hset_1 (cs : List AV) (off : Nat) (vs : List AV) : hset [⟨cs, 0, true, .no⟩] 0 off 0 vs = if off + vs.length ≤ cs.length then some [⟨splice cs off vs, 0, true, .no⟩] else none := hset_at rfl off vs
theorem hget_1 (cs : List AV) (off n : Nat) : hget [⟨cs, 0, true, .no⟩] 0 off n 0 = if off + n ≤ cs.length then some ((cs.drop off).take n) else none := hget_at rfl off n
theorem reps_len' (n : Nat) : (reps n [AV.str []]).length = n := by
  induction n with
  | zero => rfl
  | succ n ih => simp [reps, ih]
theorem splice_reps (done : List Seg) (m : Nat) (x : Seg) : splice (scells done ++ reps (m + 1) [.str []]) done.length [.str x] = scells (done ++ [x]) ++ reps m [.str []] := by
  unfold splice
  rw [List.take_left' (sc_len done), List.drop_append]
  simp [scells, reps]
theorem gspl_loop (n : Nat) (hn : n < 100000000) : ∀ (k : Nat) (rest : Seg) (done : List Seg), rest.count 47 = k → done.length + k = n → rest.length < 100000000 →
    ∃ e', XL T [0, 1, 2, 3, 9, 10] L48_0 [(0, .str rest), (1, .str [47]), (2, .int .i64 0), (3, .int .i64 n), (9, .ms 0 0 (n + 1) 1 0), (10, .int .i64 done.length)] [⟨scells done ++ reps (k + 1) [.str []], 0, true, .no⟩] =
      some (.exit 0, e', [⟨scells (done ++ (spl rest).dropLast) ++ [.str []], 0, true, .no⟩]) ∧ e'.get 0 = .str ((spl rest).getLastD []) ∧ e'.get 9 = .ms 0 0 (n + 1) 1 0 ∧ e'.get 10 = .int .i64 n := by
  intro k
  induction k with
  | zero =>
    intro rest done hc hd hr
    have hm : ¬ (47 : UInt8) ∈ rest := by rw [← List.count_pos_iff]; omega
    have hs := spl_eq rest
    rw [if_neg hm] at hs
    rw [hs, XL_eq]
    have hdn : done.length = n := by omega
    subst hdn
    simp (disch := omega) [L48_0]
  | succ k ih =>
    intro rest done hc hd hr
    have hm : (47 : UInt8) ∈ rest := by rw [← List.count_pos_iff]; omega
    have hs := spl_eq rest
    have hcc := count_cut rest
    have hlt := cutI_lt.1 hm
    rw [if_pos hm] at hs hcc
    have hi := index_ok rest [⟨scells done ++ reps (k + 1 + 1) [.str []], 0, true, .no⟩]
    rw [if_pos hm] at hi
    have ih := ih (rest.drop (cutI 47 rest + 1)) (done ++ [rest.take (cutI 47 rest)]) (by omega) (by simp; omega) (by simp; omega)
    rw [XL_eq, hs]
    have hgs : ((spl (rest.drop (cutI 47 rest + 1))) ≠ []) := by intro h; have := spl_len (rest.drop (cutI 47 rest + 1)); rw [h] at this; simp at this
    have hsp := splice_reps done (k + 1) (rest.take (cutI 47 rest))
    generalize XL T [0, 1, 2, 3, 9, 10] L48_0 = lp at *
    generalize cutI 47 rest = q at *
    have hcl : done.length < n := by omega
    have hl1 : (scells done ++ reps (k + 1 + 1) [AV.str []]).length = n + 1 := by rw [List.length_append, sc_len, reps_len']; omega
    have hset0 : hset [⟨scells done ++ reps (k + 1 + 1) [.str []], 0, true, .no⟩] 0 done.length 0 [.str (rest.take q)] = some [⟨scells (done ++ [rest.take q]) ++ reps (k + 1) [.str []], 0, true, .no⟩] := by
      rw [hset_1, hl1, hsp]
      rw [if_pos (by simp; omega)]
    rw [List.dropLast_cons_of_ne_nil hgs, List.getLastD_cons]
    have hgl : (spl (rest.drop (q + 1))).getLastD (rest.take q) = (spl (rest.drop (q + 1))).getLastD [] := by
      cases hh : spl (rest.drop (q + 1)) with
      | nil => exact absurd hh hgs
      | cons a b => simp [List.getLastD]
    rw [hgl]
    simp only [List.append_assoc, List.singleton_append] at ih
    have hlen1 : ((done ++ [rest.take q]).length : Int) = done.length + 1 := by simp
    rw [hlen1] at ih
    simp (disch := omega) [L48_0, hi, hset0, -reps]
    simpa [-reps] using ih
theorem mapS_sc (k : Nat) : ∀ (H : Heap) (m : List Seg), mapS (snap (k + 1)) H (scells m) = some (scells m, H)
  | H, [] => rfl
  | H, s :: m => by
    have ih := mapS_sc k H m
    have e : scells (s :: m) = .str s :: scells m := rfl
    rw [e]
    simp [mapS, ih]
theorem names_of {a : AV} {l : List Seg} (h : a = slS l) : Names a l := .inr h
theorem gspl_ok (s : Seg) (hs : s.length < 10000000) (H : Heap) : C T 48 [.str s, .str [47], .int .i64 0, .int .i64 (-1)] H = some (slS (spl s), H) := by
  refine anyH fd48 rfl rfl ?_ H
  rw [q48]
  have hcle : s.count 47 ≤ s.length := List.count_le_length
  have hc := count_ok s []
  obtain ⟨e', x1, x2, x3, x4⟩ := gspl_loop (s.count 47) (by omega) (s.count 47) s [] rfl (by simp) (by omega)
  have hl := spl_len s
  have hne : spl s ≠ [] := by intro h; rw [h] at hl; simp at hl
  simp only [List.length_nil, Int.natCast_zero, List.nil_append] at x1
  have hsc0 : scells [] = [] := rfl
  rw [hsc0, List.nil_append] at x1
  generalize hn : s.count 47 = n at *
  have hmin : (if (s.length : Int) + 1 < (n : Int) + 1 then (s.length : Int) + 1 else (n : Int) + 1) = (n : Int) + 1 := if_neg (by omega)
  have hlim : ((n : Int) + 1).toNat * (16 + 1) ≤ LIM := by unfold LIM; omega
  have hlim' : ((n : Int) + 1) * (16 + 1) ≤ (LIM : Int) := by unfold LIM; omega
  have hdl : (spl s).dropLast.length = n := by simp [hl]
  have hset1 : hset [⟨scells (spl s).dropLast ++ [.str []], 0, true, .no⟩] 0 n 0 [.str ((spl s).getLastD [])] = some [⟨scells (spl s), 0, true, .no⟩] := by
    rw [hset_1]
    have h1 := splice_reps (spl s).dropLast 0 ((spl s).getLastD [])
    rw [hdl] at h1
    have h2 : reps 1 [AV.str []] = [.str []] := rfl
    have h3 : (spl s).dropLast ++ [(spl s).getLastD []] = spl s := by
      have := List.dropLast_concat_getLast hne
      rw [List.getLastD_eq_getLast?, List.getLast?_eq_some_getLast hne]
      simpa using this
    rw [Nat.zero_add, h2, h3] at h1
    rw [h1, if_pos (by simp [sc_len, hl])]
    simp [reps]
  have hgl : (spl s).getLastD [] = (spl s).getLastD [] := rfl
  have hsc := sc_cell (spl s)
  have hto : ((n : Int) + 1).toNat = n + 1 := by omega
  have hget1 : hget [⟨scells (spl s), 0, true, .no⟩] 0 0 (n + 1) 0 = some (scells (spl s)) := by
    rw [hget_1, if_pos (by simp [sc_len, hl])]
    have := sc_take (spl s)
    rw [hl] at this
    simp [this]
  have hms := fun k H => mapS_sc k H (spl s)
  have hsn : snap 64 [⟨scells (spl s), 0, true, .no⟩] (.ms 0 0 (n + 1) 1 0) = some (slS (spl s), freeze [⟨scells (spl s), 0, true, .no⟩] 0) := by
    rw [snap_ms, Nat.mul_one, hget1]
    simp only [hms, slS, hl]
  have hlim2 : 0 ≤ (n : Int) + 1 ∧ ((n : Int) + 1) * 17 ≤ (LIM : Int) := ⟨by omega, by simpa using hlim'⟩
  generalize (spl s).getLastD [] = x at *
  simp (disch := omega) [d48, hc, hlim2, hto, x1, x2, x3, x4, hset1, hsn, -reps]
theorem split_ok (s : Seg) (hs : s.length < 10000000) (H : Heap) : C T 31 [.str s, .str [47]] H = some (slS (spl s), H) := by
  refine anyH fd31 rfl rfl ?_ H
  rw [q31]
  have h := gspl_ok s hs []
  have hsn := fun k H => snap_slS k H false (spl s) (spl s).length
  simp [d31, h, hsn]
/-- The raw segments. -/
def rawL (s : Seg) : List Seg := if sl1 s = true then spl (s.drop 1) else []
abbrev rawV (s : Seg) : AV := if sl1 s = true then slS (rawL s) else nls
theorem rawV_names (s : Seg) : Names (rawV s) (rawL s) := by
  unfold rawV rawL
  split
  · exact .inr rfl
  · exact .inl ⟨rfl, rfl⟩
theorem raw_ok (s : Seg) (hs : s.length < 10000000) (H : Heap) : C T 10 [.str s] H = some (rawV s, H) := by
  refine anyH fd10 rfl rfl ?_ H
  rw [q10]
  have h := cpre_ok s (by omega) []
  unfold rawV rawL
  cases hb : sl1 s with
  | false =>
    rw [hb] at h
    simp [d10, h]
  | true =>
    rw [hb] at h
    have hsp := split_ok (s.drop 1) (by simp; omega) []
    have hsn := fun k H => snap_slS k H false (spl (s.drop 1)) (spl (s.drop 1)).length
    simp only [if_true] at h ⊢
    generalize s.drop 1 = r at *
    simp [d10, h, hsp, hsn]
end Go.Eng.S
