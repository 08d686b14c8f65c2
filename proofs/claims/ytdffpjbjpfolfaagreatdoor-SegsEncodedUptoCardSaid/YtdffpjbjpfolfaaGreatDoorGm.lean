/- A path text: its shape, its decoded segments, its path. No condition. -/
import Derived.Test.YtdffpjbjpfolfaaGreatDoorGl
import Derived.Test.YtdffpjbjpfolfaaGreatDoorGh
namespace Go.Eng.S
open Go Go.Eng
/-- The place of the first error of a path text's shape. -/
def shpE (s : Seg) : Option Nat := if sl1 s = true then (match pds 0 0 (s.takeWhile alw) with
    | .error i => some i
    | .ok _ => fstB alw s) else some 0
abbrev errO : Option Nat → AV
  | none => .cst .nilIface
  | some i => flt 400 i
theorem viaS {T : Tab} {f : FuncId} {d : FDef} (h : T.fn f = some d) (hp : d.pure = true) {args args' : List AV} {H H' : Heap} (h1 : mapS (snap 64) H args = some (args', H')) (h2 : mapS (snap 64) [] args' = some (args', [])) {r : AV}
    (he : C T f args' [] = some (r, [])) : C T f args H = some (r, H') := by
  rw [Q_pure h hp, h1, snpK_s]
  rw [Q_pure h hp, h2, snpK_s] at he
  revert he
  unfold purK
  cases B T d.body d.res args' [] with
  | none => intro h; cases h
  | some q =>
    obtain ⟨r1, H2⟩ := q
    dsimp only
    cases snap 64 H2 r1 with
    | none => intro h; cases h
    | some q => intro h; cases h; rfl
theorem mapS_bc (k : Nat) : ∀ (H : Heap) (m : Seg), mapS (snap (k + 1)) H (bcells m) = some (bcells m, H)
  | H, [] => rfl
  | H, s :: m => by
    have ih := mapS_bc k H m
    have e : bcells (s :: m) = .int .u8 (s.toNat : Nat) :: bcells m := rfl
    rw [e]
    simp [mapS, ih]
theorem tw_take (p : UInt8 → Bool) : ∀ s : Seg, s.take (s.takeWhile p).length = s.takeWhile p
  | [] => rfl
  | c :: r => by
    have ih := tw_take p r
    rw [List.takeWhile_cons]
    split
    · simp [ih]
    · rfl
theorem tw_len (p : UInt8 → Bool) (s : Seg) : (s.takeWhile p).length ≤ s.length := (List.takeWhile_sublist p).length_le
theorem tw_all (p : UInt8 → Bool) : ∀ s : Seg, s.all p = true → s.takeWhile p = s
  | [], _ => rfl
  | c :: r, h => by
    rw [List.all_cons, Bool.and_eq_true] at h
    rw [List.takeWhile_cons, if_pos h.1, tw_all p r h.2]
theorem shape_ok (s : Seg) (hs : s.length < 10000000) (H : Heap) : C T 21 [.str s] H = some (errO (shpE s), H) := by
  refine anyH fd21 rfl rfl ?_ H
  rw [q21]
  have h1 := hpref_ok s (by omega)
  have hlim : s.length ≤ LIM := by unfold LIM; omega
  unfold shpE
  cases hb : sl1 s with
  | false =>
    rw [hb] at h1
    have hn := new_ok 400 0
    simp [d21, h1, hn, errO]
  | true =>
    rw [hb] at h1
    have hidx0 := idxf_ok (f := 40) (p := alw) (fun c => nalw_ok c []) s (by omega) []
    have hg : hget [⟨bcells s, 0, true, .no⟩] 0 0 (s.length * 1) 0 = some (bcells s) := by
      rw [hget_1, if_pos (by simp [bcells]), List.drop_zero, List.take_of_length_le (by simp [bcells])]
    have hidx := viaS fd39 rfl (args := [.ms 0 0 s.length 1 0, .fn (.func 40) [] []]) (H := [⟨bcells s, 0, true, .no⟩]) (H' := freeze [⟨bcells s, 0, true, .no⟩] 0) (args' := [.sl false s.length 1 (bcells s), .fn (.func 40) [] []])
      (by
        have e1 : snap 64 [⟨bcells s, 0, true, .no⟩] (.ms 0 0 s.length 1 0) = some (.sl false s.length 1 (bcells s), freeze [⟨bcells s, 0, true, .no⟩] 0) := by
          rw [snap_ms, hg]
          simp only [mapS_bc]
        have e2 : ∀ H, snap 64 H (.fn (.func 40) [] []) = some (.fn (.func 40) [] [], H) := fun _ => rfl
        simp [e1, e2])
      (by
        have e2 : ∀ H, snap 64 H (.fn (.func 40) [] []) = some (.fn (.func 40) [] [], H) := fun _ => rfl
        have e3 := snap_bcf 63 [] false s s.length
        simp [e2, e3]) hidx0
    have hd := decode_ok (s.takeWhile alw) (by have := tw_len alw s; omega)
    have htk := tw_take alw s
    have htl := tw_len alw s
    unfold fstB at hidx ⊢
    cases ha : s.all alw with
    | true =>
      rw [ha] at hidx
      have hw := tw_all alw s ha
      rw [hw] at hd ⊢
      simp only [if_true] at hidx ⊢
      cases hp : pds 0 0 s with
      | ok l =>
        rw [hp] at hd
        simp [d21, h1, hlim, hidx, hd, decV, errO]
      | error i =>
        rw [hp] at hd
        simp [d21, h1, hlim, hidx, hd, decV, errO]
    | false =>
      rw [ha] at hidx
      simp only [Bool.false_eq_true, if_false, if_true] at hidx ⊢
      generalize s.takeWhile alw = w at *
      cases hp : pds 0 0 w with
      | ok l =>
        rw [hp] at hd
        have hn := new_ok 400 w.length
        simp (disch := omega) [d21, h1, hlim, hidx, htk, hd, hn, decV, errO]
      | error i =>
        rw [hp] at hd
        simp (disch := omega) [d21, h1, hlim, hidx, htk, hd, decV, errO]
/-- The decoded segments; or the place of the first wrong one. -/
def dcd : List Seg → Nat → Except Nat (List Seg)
  | [], _ => .ok []
  | r :: rs, n => match pds 0 0 r with
    | .ok d => if d.any isSL = true then .error n else (dcd rs (n + r.length + 1)).map (d :: ·)
    | .error _ => .error n
def dcdP (out : List Seg) (r : Except Nat (List Seg)) (x : XR) : Prop := match r with
  | .ok l => ∃ e' H' v, x = some (.exit 0, e', H') ∧ e'.get 4 = v ∧ OwnS 0 H' v (out ++ l)
  | .error i => ∃ e' H', x = some (.ret, e', H') ∧ e'.get 2 = nls ∧ e'.get 3 = flt 400 i
theorem lens_drop_le (l : List Seg) (i : Nat) (h : i < l.length) : l[i].length ≤ lens (l.drop i) := by
  rw [List.drop_eq_getElem_cons h, lens_cons]; omega
theorem dcd_loop (raw : List Seg) (hl : raw.length < 10000000) : ∀ (k i n : Nat) (out : List Seg) (H : Heap) (v : AV), i + k = raw.length → out.length ≤ i → n + lens (raw.drop i) + k < 50000000 → OwnS 0 H v out →
    dcdP out (dcd (raw.drop i) n) (XL T [4, 5, 11, 12, 13] L22_0 [(4, v), (5, .int .i64 n), (11, slS raw), (12, .int .i64 raw.length), (13, .int .i64 i)] H)
  | 0, i, n, out, H, v, hk, ho, hn, hO => by
    have hd : raw.drop i = [] := List.drop_eq_nil_of_le (by omega)
    rw [hd, XL_eq]
    have hx : ∃ e', seqK (X T L22_0 (Env.keep [4, 5, 11, 12, 13] [(4, v), (5, .int .i64 n), (11, slS raw), (12, .int .i64 raw.length), (13, .int .i64 i)]) H) (fun e' H' => XL T [4, 5, 11, 12, 13] L22_0 (Env.keep [4, 5, 11, 12, 13] e') H') = some (.exit 0, e', H) ∧ e'.get 4 = v := by
      simp (disch := omega) [L22_0]
    obtain ⟨e', x1, x2⟩ := hx
    exact ⟨e', H, v, x1, x2, by simpa using hO⟩
  | k + 1, i, n, out, H, v, hk, ho, hn, hO => by
    have hlt : i < raw.length := by omega
    have hd : raw.drop i = raw[i] :: raw.drop (i + 1) := List.drop_eq_getElem_cons hlt
    rw [hd, lens_cons] at hn
    have hsd := sc_drop raw i hlt
    have hdc := decode_ok raw[i] (by omega)
    rw [hd, XL_eq, dcd]
    have ih := dcd_loop raw hl k (i + 1) (n + raw[i].length + 1)
    push_cast at ih
    generalize XL T [4, 5, 11, 12, 13] L22_0 = lp at *
    have hnw := new_ok 400 n
    cases hp : pds 0 0 raw[i] with
    | error j =>
      rw [hp] at hdc
      simp (disch := omega) [L22_0, hsd, hdc, decV, hnw, dcdP]
    | ok d =>
      rw [hp] at hdc
      have hdl := pds_len _ _ _ _ hp
      have hca := cany_ok d (by omega)
      cases hb : d.any isSL with
      | true =>
        rw [hb] at hca
        simp only [hb, if_true]
        simp (disch := omega) [L22_0, hsd, hdc, decV, hnw, hca, dcdP]
      | false =>
        rw [hb] at hca
        simp only [hb, Bool.false_eq_true, if_false]
        obtain ⟨H', v', p1, p2, _⟩ := hO.append d (by omega) (Nat.zero_le _)
        have ih := ih (out ++ [d]) H' v' (by omega) (by simp; omega) (by omega) p2
        have e1 : IntKind.i64.wrap ((raw[i].length : Int) + 1) = (raw[i].length : Int) + 1 := wr64 (by omega) (by omega)
        have e2 : ((n : Int) + ((raw[i].length : Int) + 1)) = (n : Int) + (raw[i].length : Int) + 1 := by omega
        simp (disch := omega) [L22_0, hsd, hdc, decV, hca, p1, e2]
        cases hr : dcd (raw.drop (i + 1)) (n + raw[i].length + 1) with
        | ok l =>
          rw [hr] at ih
          simpa [dcdP, Except.map] using ih
        | error j =>
          rw [hr] at ih
          simpa [dcdP, Except.map] using ih
def DcdV (r : Except Nat (List Seg)) (y : AV) : Prop := match r with
  | .ok l => ∃ a, y = .tup [a, .cst .nilIface] ∧ Names a l
  | .error i => y = .tup [nls, flt 400 i]
theorem lens_consH (c : UInt8) (l : List Seg) (h : l ≠ []) : lens (consH c l) = lens l + 1 ∧ (consH c l).length = l.length := by
  cases l with
  | nil => exact absurd rfl h
  | cons a t => exact ⟨by simp only [consH, lens_cons, List.length_cons]; omega, rfl⟩
theorem spl_ne (s : Seg) : spl s ≠ [] := by intro h; have := spl_len s; rw [h] at this; simp at this
theorem lens_spl : ∀ s : Seg, lens (spl s) + (spl s).length = s.length + 1
  | [] => rfl
  | c :: r => by
    have ih := lens_spl r
    rw [spl]
    split
    · simp only [lens_cons, List.length_cons, List.length_nil]; omega
    · have := lens_consH c (spl r) (spl_ne r)
      simp only [List.length_cons]; omega
theorem lens_raw (s : Seg) : lens (rawL s) + (rawL s).length ≤ s.length := by
  unfold rawL
  split
  · rename_i h
    have h2 := lens_spl (s.drop 1)
    cases s with
    | nil => cases h
    | cons c r => simp at h2 ⊢; omega
  · simp [lens]
theorem decoded_ok (s : Seg) (hs : s.length < 1000000) : ∃ y, (∀ H, C T 22 [.str s] H = some (y, H)) ∧ DcdV (dcd (rawL s) 1) y := by
  suffices h : ∃ y, C T 22 [.str s] [] = some (y, []) ∧ DcdV (dcd (rawL s) 1) y by
    obtain ⟨y, h1, h2⟩ := h
    exact ⟨y, fun H => anyH fd22 rfl rfl h1 H, h2⟩
  rw [q22]
  have hr := raw_ok s (by omega) []
  have hll := lens_raw s
  by_cases hb : sl1 s = true
  · have hv : rawV s = slS (rawL s) := if_pos hb
    rw [hv] at hr
    have h := dcd_loop (rawL s) (by omega) (rawL s).length 0 1 [] [] nls (by omega) (by simp) (by simp; omega) (.inl ⟨rfl, rfl⟩)
    simp only [List.drop_zero, Int.natCast_zero, Int.natCast_one] at h
    cases hd : dcd (rawL s) 1 with
    | ok l =>
      rw [hd] at h
      obtain ⟨e', H', v, x1, x2, x3⟩ := h
      simp only [List.nil_append] at x3
      obtain ⟨b, H2, s1, s2⟩ := snap_own x3 61
      refine ⟨.tup [b, .cst .nilIface], ?_, b, rfl, s2⟩
      simp [d22, hr, x1, x2, s1]
    | error i =>
      rw [hd] at h
      obtain ⟨e', H', x1, x2, x3⟩ := h
      refine ⟨_, ?_, rfl⟩
      simp [d22, hr, x1, x2, x3]
  · have hv : rawV s = nls := if_neg hb
    have hl : rawL s = [] := if_neg hb
    rw [hv] at hr
    rw [hl]
    refine ⟨.tup [nls, .cst .nilIface], ?_, nls, rfl, .inl ⟨rfl, rfl⟩⟩
    have hx : ∃ e', XL T [4, 5, 11, 12, 13] L22_0 [(4, nls), (5, .int .i64 1), (11, nls), (12, .int .i64 0), (13, .int .i64 0)] [] = some (.exit 0, e', []) ∧ e'.get 4 = nls := by
      rw [XL_eq]
      simp [L22_0]
    obtain ⟨e', x1, x2⟩ := hx
    simp [d22, hr, x1, x2]
/-- The path of a path text; or the place of its error. -/
def parS (s : Seg) : Except Nat (List Seg × Bool) := match shpE s with
  | some i => .error i
  | none => match dcd (rawL s) 1 with
    | .error i => .error i
    | .ok l => match clnS [] l 0 with
      | .ok st => .ok (st, dirR false l)
      | .error k => .error (1 + (joinS ((rawL s).take k)).length + min k 1)
def ParV (r : Except Nat (List Seg × Bool)) (y : AV) : Prop := match r with
  | .ok (st, d) => ∃ a, y = .tup [.agg [a, .bool d], .cst .nilIface] ∧ Names a st
  | .error i => y = .tup [.agg [nls, .bool false], flt 400 i]
theorem dcd_len : ∀ (raw : List Seg) (n : Nat) (l : List Seg), dcd raw n = .ok l → l.length = raw.length
  | [], n, l, h => by cases h; rfl
  | r :: rs, n, l, h => by
    rw [dcd] at h
    split at h
    · split at h
      · cases h
      · cases hr : dcd rs (n + r.length + 1) with
        | error j => rw [hr] at h; cases h
        | ok m => rw [hr] at h; cases h; have := dcd_len rs _ m hr; simp [this]
    · cases h
theorem cln_err : ∀ (l st : List Seg) (i k : Nat), clnS st l i = .error k → i ≤ k ∧ k < i + l.length
  | [], st, i, k, h => by cases h
  | s :: r, st, i, k, h => by
    rw [clnS] at h
    split at h
    · split at h
      · cases h; simp
      · have := cln_err r _ (i + 1) k h; simp; omega
    · split at h
      · have := cln_err r _ (i + 1) k h; simp; omega
      · have := cln_err r _ (i + 1) k h; simp; omega
theorem lens_take (l : List Seg) (k : Nat) : lens (l.take k) ≤ lens l := by
  induction l generalizing k with
  | nil => simp [lens]
  | cons x l ih =>
    cases k with
    | zero => simp [lens]
    | succ k => have := ih k; simp only [List.take_succ_cons, lens_cons]; omega
theorem joinS_len (l : List Seg) : (joinS l).length ≤ lens l + l.length := by
  cases l with
  | nil => simp [joinS]
  | cons x r =>
    have := flat_len r
    rw [joinS, List.length_append, this, lens_cons, List.length_cons]; omega
theorem parse_ok (s : Seg) (hs : s.length < 1000000) : ∃ y, (∀ H, C T 7 [.str s] H = some (y, H)) ∧ ParV (parS s) y := by
  suffices h : ∃ y, C T 7 [.str s] [] = some (y, []) ∧ ParV (parS s) y by
    obtain ⟨y, h1, h2⟩ := h
    exact ⟨y, fun H => anyH fd7 rfl rfl h1 H, h2⟩
  rw [q7]
  have hsh := shape_ok s (by omega)
  unfold parS
  cases hse : shpE s with
  | some i =>
    rw [hse] at hsh
    refine ⟨_, ?_, rfl⟩
    simp [d7, hsh, errO, hset, hget]
  | none =>
    rw [hse] at hsh
    have hsl : sl1 s = true := by
      unfold shpE at hse
      split at hse
      · assumption
      · cases hse
    obtain ⟨y, hy, hv⟩ := decoded_ok s hs
    have hll := lens_raw s
    cases hd : dcd (rawL s) 1 with
    | error i =>
      rw [hd] at hv
      obtain rfl := hv
      refine ⟨_, ?_, rfl⟩
      simp [d7, hsh, errO, hy, hset, hget]
    | ok l =>
      rw [hd] at hv
      obtain ⟨a, rfl, ha⟩ := hv
      have hlen := dcd_len _ _ _ hd
      obtain ⟨z, hz, hw⟩ := walk_ok ha (by omega)
      dsimp only
      cases hc : clnS [] l 0 with
      | ok st =>
        rw [hc] at hw
        obtain ⟨b, rfl, hb⟩ := hw
        refine ⟨.tup [.agg [b, .bool (dirR false l)], .cst .nilIface], ?_, b, rfl, hb⟩
        have hbc := hb.cell
        have hsb := fun k H => snap_names hb k H
        simp [d7, hsh, errO, hy, hz, hset, hget, hbc, hsb]
      | error k =>
        rw [hc] at hw
        obtain rfl := hw
        have hk := cln_err _ _ _ _ hc
        refine ⟨_, ?_, rfl⟩
        have hraw := raw_ok s (by omega)
        have hrv : rawV s = slS (rawL s) := if_pos hsl
        rw [hrv] at hraw
        have hkl : ((rawL s).take k).length = k := by rw [List.length_take]; omega
        have hjn := join_ok ((rawL s).take k) false (by omega) (by have := lens_take (rawL s) k; omega)
        have hjl := joinS_len ((rawL s).take k)
        have hjt := lens_take (rawL s) k
        rw [hkl] at hjn hjl
        have htk : (scells (rawL s)).take k = scells ((rawL s).take k) := by simp [scells, List.map_take]
        have hmin : (if (1 : Int) < (k : Int) then (1 : Int) else (k : Int)) = ((min k 1 : Nat) : Int) := by split <;> omega
        generalize hJ : joinS ((rawL s).take k) = J at *
        have hmk : min k 1 ≤ 1 := Nat.min_le_right _ _
        have hlim : J.length + 1 ≤ LIM := by unfold LIM; omega
        have hnw := new_ok 400 (1 + J.length + min k 1 : Nat)
        generalize min k 1 = mk at *
        push_cast at hnw
        have e1 : ((J.length : Int) + 1 + (mk : Int)) = 1 + (J.length : Int) + (mk : Int) := by omega
        simp (disch := omega) [d7, hsh, errO, hy, hz, hraw, hjn, htk, hmin, hset, hget, e1, hnw]

end Go.Eng.S
