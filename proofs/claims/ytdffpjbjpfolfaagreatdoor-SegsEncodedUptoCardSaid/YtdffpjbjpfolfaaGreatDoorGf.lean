/- Segments are cleaned: the code's way. No condition. -/
import Derived.Test.YtdffpjbjpfolfaaGreatDoorGe
namespace Go.Eng.S
open Go Go.Eng
abbrev dd : Seg := [46, 46]
abbrev d1 : Seg := [46]
/-- The stack of segments behind these ones; or the place of the first that climbs. -/
def clnS : List Seg → List Seg → Nat → Except Nat (List Seg)
  | st, [], _ => .ok st
  | st, s :: r, i => if s = dd then (if st = [] then .error i else clnS st.dropLast r (i + 1)) else if s = d1 ∨ (s = [] ∧ r = []) then clnS st r (i + 1) else clnS (st ++ [s]) r (i + 1)
/-- Whether it is a directory. -/
def dirR : Bool → List Seg → Bool
  | d, [] => d
  | d, s :: r => dirR (if s = dd ∨ s = d1 ∨ (s = [] ∧ r = []) then decide (r = []) else d) r
/-- A stack of strings that is appended to. -/
def OwnS (b : Nat) (H : Heap) (v : AV) (st : List Seg) : Prop := (st = [] ∧ v = nls) ∨ ∃ k g cs, v = .ms k 0 st.length 1 g ∧ b ≤ k ∧ H[k]? = some ⟨cs, g, true, .no⟩ ∧ cs.take st.length = scells st ∧ st.length ≤ cs.length
theorem OwnS.cell {b : Nat} {H : Heap} {v : AV} {st : List Seg} (h : OwnS b H v st) : v.isCell = true := by
  rcases h with ⟨_, rfl⟩ | ⟨k, g, cs, rfl, _⟩ <;> rfl
theorem OwnS.mono {b : Nat} {H H' : Heap} {v : AV} {st : List Seg} (h : OwnS b H v st) (hf : ∀ k o, b ≤ k → H[k]? = some o → H'[k]? = some o) : OwnS b H' v st := by
  rcases h with h | ⟨k, g, cs, h1, h2, h3, h4⟩
  · exact .inl h
  · exact .inr ⟨k, g, cs, h1, h2, hf k _ h2 h3, h4⟩
theorem OwnS.append {b : Nat} {H : Heap} {v : AV} {st : List Seg} (h : OwnS b H v st) (s : Seg) (hl : st.length < 1000000000) (hH : b ≤ H.length) :
    ∃ H' v', aappend .no H 1 16 v 1 [.str s] = some (v', H') ∧ OwnS b H' v' (st ++ [s]) ∧ ∀ k o, k < b → H[k]? = some o → H'[k]? = some o := by
  rcases h with ⟨rfl, rfl⟩ | ⟨k, g, cs, rfl, h0, h3, h4, h5⟩
  · refine ⟨hnewK H .no [.str s], .ms H.length 0 1 1 0, ?_, .inr ⟨H.length, 0, [.str s], rfl, hH, by simp [hnew], rfl, by simp⟩, fun k o _ hk => app_get hk⟩
    unfold aappend
    simp [LIM]
  · have hlim : (st.length + 1) * (16 + 1) ≤ LIM := by unfold LIM; omega
    have hk := (List.getElem?_eq_some_iff.1 h3).1
    refine ⟨H.set k ⟨scells (st ++ [s]), g + 1, true, .no⟩, .ms k 0 (st.length + 1) 1 (g + 1), ?_, .inr ⟨k, g + 1, scells (st ++ [s]), by simp, h0, set_self h3, ?_, by simp [scells]⟩, fun k' o hk' hr => set_ne (by omega) hr⟩
    · unfold aappend
      have ht : cs.take st.length ++ [.str s] = scells (st ++ [s]) := by rw [h4]; simp [scells]
      simp [hlim, h3, h5, ht]
    · exact List.take_of_length_le (by simp [scells])
theorem OwnS.pop {b : Nat} {H : Heap} {k g : Nat} {st : List Seg} (h : OwnS b H (.ms k 0 st.length 1 g) st) (hne : st ≠ []) : OwnS b H (.ms k 0 (st.length - 1) 1 g) st.dropLast := by
  have hl : 0 < st.length := List.length_pos_iff.2 hne
  rcases h with ⟨_, e⟩ | ⟨k', g', cs, e, h0, h3, h4, h5⟩
  · cases e
  · cases e
    refine .inr ⟨k, g, cs, by simp, h0, h3, ?_, by simp; omega⟩
    have : cs.take (st.length - 1) = (cs.take st.length).take (st.length - 1) := by rw [List.take_take]; congr 1; omega
    rw [List.length_dropLast, this, h4]
    simp [scells, List.dropLast_eq_take, List.map_take]
theorem OwnS.lenv {b : Nat} {H : Heap} {v : AV} {st : List Seg} (h : OwnS b H v st) : (st = [] ∧ v = nls) ∨ ∃ k g, v = .ms k 0 st.length 1 g := by
  rcases h with h | ⟨k, g, cs, rfl, _⟩
  · exact .inl h
  · exact .inr ⟨k, g, rfl⟩
abbrev pRow (v : AV) (d : Bool) : AObj := ⟨[v, .bool d], 0, true, .no⟩
def walkP (d : Bool) (r : Except Nat (List Seg)) (x : XR) : Prop := match r with
  | .ok st => ∃ e' H' v, x = some (.exit 0, e', H') ∧ e'.get 2 = .ptr 0 0 0 ∧ e'.get 4 = .ptr 1 0 0 ∧ H'[0]? = some (pRow nls false) ∧ H'[1]? = some (pRow v d) ∧ OwnS 2 H' v st
  | .error j => ∃ e' H', x = some (.ret, e', H') ∧ e'.get 2 = .ptr 0 0 0 ∧ e'.get 3 = .int .i64 j ∧ H'[0]? = some (pRow nls false)
theorem walk_loop (l : List Seg) (hl : l.length < 100000000) : ∀ (n i : Nat) (st : List Seg) (d : Bool) (H : Heap) (v : AV), i + n = l.length → st.length ≤ i → H[0]? = some (pRow nls false) → H[1]? = some (pRow v d) → OwnS 2 H v st →
    walkP (dirR d (l.drop i)) (clnS st (l.drop i) i) (XL T [0, 2, 4, 8, 9, 10] L23_0 [(0, slS l), (2, .ptr 0 0 0), (4, .ptr 1 0 0), (8, slS l), (9, .int .i64 l.length), (10, .int .i64 i)] H)
  | 0, i, st, d, H, v, hn, hst, h0, h1, hO => by
    have hd : l.drop i = [] := List.drop_eq_nil_of_le (by omega)
    rw [hd, XL_eq]
    have hx : ∃ e', seqK (X T L23_0 (Env.keep [0, 2, 4, 8, 9, 10] [(0, slS l), (2, .ptr 0 0 0), (4, .ptr 1 0 0), (8, slS l), (9, .int .i64 l.length), (10, .int .i64 i)]) H) (fun e' H' => XL T [0, 2, 4, 8, 9, 10] L23_0 (Env.keep [0, 2, 4, 8, 9, 10] e') H') = some (.exit 0, e', H) ∧ e'.get 2 = .ptr 0 0 0 ∧ e'.get 4 = .ptr 1 0 0 := by
      simp (disch := omega) [L23_0]
    obtain ⟨e', x1, x2, x3⟩ := hx
    exact ⟨e', H, v, x1, x2, x3, h0, by simpa [dirR] using h1, by simpa [clnS] using hO⟩
  | n + 1, i, st, d, H, v, hn, hst, h0, h1, hO => by
    have hlt : i < l.length := by omega
    have hd : l.drop i = l[i] :: l.drop (i + 1) := List.drop_eq_getElem_cons hlt
    have hsd := sc_drop l i hlt
    have hH : 2 ≤ H.length := (List.getElem?_eq_some_iff.1 h1).1
    have hlast : (l.drop (i + 1) = []) ↔ i + 1 = l.length := by
      rw [List.drop_eq_nil_iff]; omega
    have hrest := hlast
    rw [hd, XL_eq, dirR, clnS]
    have ih := walk_loop l hl n (i + 1)
    push_cast at ih
    generalize XL T [0, 2, 4, 8, 9, 10] L23_0 = lp at *
    generalize l.drop (i + 1) = R at *
    have hlastI : ((i : Int) == (l.length : Int) - 1) = decide (R = []) := by
      rw [Bool.eq_iff_iff]; simp only [beq_iff_eq, decide_eq_true_eq]; rw [hlast]; omega
    generalize hs : l[i] = s at *
    by_cases c1 : s = dd
    · have b1 : (s == [46, 46]) = true := by simpa using c1
      rw [if_pos (Or.inl c1), if_pos c1]
      by_cases c0 : st = []
      · subst c0
        rw [if_pos rfl]
        rcases hO.lenv with ⟨_, rfl⟩ | ⟨k, g, rfl⟩ <;>
          (simp (disch := omega) [L23_0, hsd, hlastI, c1, hget_at h1, hset_at h0, walkP]
           exact ⟨_, _, ⟨rfl, rfl⟩, rfl, rfl, set_self h0⟩)
      · rw [if_neg c0]
        have hlp : 0 < st.length := List.length_pos_iff.2 c0
        have hlp' : ((st.length : Int) == 0) = false := by rw [beq_eq_false_iff_ne]; omega
        rcases hO.lenv with ⟨e, _⟩ | ⟨k, g, rfl⟩
        · exact absurd e c0
        · have p2 := hO.pop c0
          have ih := ih st.dropLast (decide (R = [])) ((H.set 1 (pRow (.ms k 0 (st.length - 1) 1 g) d)).set 1 (pRow (.ms k 0 (st.length - 1) 1 g) (decide (R = [])))) _ (by omega) (by simp; omega) (by rw [List.set_set]; exact set_ne (by omega) h0) (set_self (set_self h1)) (by rw [List.set_set]; exact p2.mono fun k o hk hr => set_ne (by omega) hr)
          have q1 := set_self (x := pRow (.ms k 0 (st.length - 1) 1 g) d) h1
          simp (disch := omega) [L23_0, hsd, hlastI, c1, hget_at h1, hset_at h1, hlp', hset_at q1]
          simpa [c1] using ih
    · have b1 : (s == [46, 46]) = false := by simpa using c1
      rw [if_neg c1]
      by_cases c2 : s = d1 ∨ (s = [] ∧ R = [])
      · rw [if_pos (Or.inr c2), if_pos c2]
        have ih := ih st (decide (R = [])) (H.set 1 (pRow v (decide (R = [])))) v (by omega) (by omega) (set_ne (by omega) h0) (set_self h1) (hO.mono fun k o hk hr => set_ne (by omega) hr)
        by_cases c3 : s = d1
        · have b3 : (s == [46]) = true := by simpa using c3
          simp (disch := omega) [L23_0, hsd, hlastI, c3, hset_at h1]
          exact ih
        · have c4 := c2.resolve_left c3
          obtain ⟨rfl, c4⟩ := c4
          simp (disch := omega) [L23_0, hsd, hlastI, c4, hset_at h1]
          simpa [c4] using ih
      · rw [if_neg (by rintro (h | h); exact c1 h; exact c2 h), if_neg c2]
        have b3 : (s == [46]) = false := by simpa using fun h => c2 (Or.inl h)
        have b4 : (s == []) = true → decide (R = []) = false := fun h => by simpa using fun hr => c2 (Or.inr ⟨by simpa using h, hr⟩)
        obtain ⟨H', v', p1, p2, p3⟩ := hO.append s (by omega) hH
        have ih := ih (st ++ [s]) d (H'.set 1 (pRow v' d)) v' (by omega) (by simp; omega) (set_ne (by omega) (p3 _ _ (by omega) h0)) (set_self (p3 _ _ (by omega) h1)) (p2.mono fun k o hk hr => set_ne (by omega) hr)
        have hc := p2.cell
        have hce := cells_cell hc
        have q1 := p3 _ _ (by omega) h1
        cases b5 : (s == []) with
        | true =>
          have b6 := b4 b5
          simp (disch := omega) [L23_0, hsd, hlastI, b1, b3, b5, b6, hget_at h1, p1, hc, hce, hset_at q1]
          exact ih
        | false =>
          simp (disch := omega) [L23_0, hsd, hlastI, b1, b3, b5, hget_at h1, p1, hc, hce, hset_at q1]
          exact ih
/-- What walk answers. -/
def WalkV (d : Bool) (r : Except Nat (List Seg)) (y : AV) : Prop := match r with
  | .ok st => ∃ a, y = .tup [.agg [a, .bool d], .int .i64 (-1)] ∧ Names a st
  | .error j => y = .tup [.agg [nls, .bool false], .int .i64 j]
theorem freeze_get {H : Heap} {k j : Nat} {o : AObj} (h : H[j]? = some o) (hne : j ≠ k) : (freeze H k)[j]? = some o := by
  unfold freeze
  split
  · exact set_ne hne h
  · exact h
theorem snap_ms (k : Nat) (H : Heap) (i off n e g : Nat) : snap (k + 1) H (.ms i off n e g) = (match hget H i off (n * e) g with
    | some cs => match mapS (snap k) H cs with
      | some (cs', H') => some (.sl false n e cs', freeze H' i)
      | none => none
    | none => none) := rfl
theorem snap_own {b : Nat} {H : Heap} {v : AV} {st : List Seg} (h : OwnS b H v st) (k : Nat) : ∃ a H', snap (k + 2) H v = some (a, H') ∧ Names a st := by
  rcases h with ⟨rfl, rfl⟩ | ⟨i, g, cs, rfl, h0, h3, h4, h5⟩
  · exact ⟨nls, H, rfl, .inl ⟨rfl, rfl⟩⟩
  · have hm : ∀ (m : List Seg) (H : Heap), mapS (snap (k + 1)) H (scells m) = some (scells m, H) := by
      intro m
      induction m with
      | nil => intro H; rfl
      | cons s m ih =>
        intro H
        have e : scells (s :: m) = .str s :: scells m := rfl
        rw [e]
        simp [mapS, ih]
    refine ⟨slS st, freeze H i, ?_, .inr rfl⟩
    have hg : hget H i 0 (st.length * 1) g = some (scells st) := by rw [hget_at h3]; simp [h5, h4]
    rw [snap_ms, hg]
    simp only [hm]
theorem walk_ok {a : AV} {l : List Seg} (ha : Names a l) (hl : l.length < 100000000) : ∃ y, (∀ H, C T 23 [a] H = some (y, H)) ∧ WalkV (dirR false l) (clnS [] l 0) y := by
  suffices h : ∃ y, C T 23 [a] [] = some (y, []) ∧ WalkV (dirR false l) (clnS [] l 0) y by
    obtain ⟨y, h1, h2⟩ := h
    exact ⟨y, fun H => anyH fd23 rfl (closed1 ha.closed) h1 H, h2⟩
  rcases names_two ha with ⟨rfl, rfl⟩ | rfl
  · exact ⟨_, C_of 9 (by kernel_rfl), nls, rfl, .inl ⟨rfl, rfl⟩⟩
  rw [q23]
  have h := walk_loop l hl l.length 0 [] false [pRow nls false, pRow nls false] nls (by omega) (by simp) rfl rfl (.inl ⟨rfl, rfl⟩)
  simp only [List.drop_zero, Int.natCast_zero] at h
  have hsn := fun k H => snap_slS k H false l l.length
  cases hr : clnS [] l 0 with
  | ok st =>
    rw [hr] at h
    obtain ⟨e', H', v, x1, x2, x3, x4, x5, x6⟩ := h
    have q0 := set_self (x := pRow v (dirR false l)) x4
    have hO2 : OwnS 2 (H'.set 0 (pRow v (dirR false l))) v st := x6.mono fun k o hk hr => set_ne (by omega) hr
    obtain ⟨b, H2, s1, s2⟩ := snap_own hO2 60
    refine ⟨.tup [.agg [b, .bool (dirR false l)], .int .i64 (-1)], ?_, b, rfl, s2⟩
    have hc := x6.cell
    simp [d23, hsn, x1, x2, x3, hget_at x5, hset_at x4, hc, hget_at q0, s1]
  | error j =>
    rw [hr] at h
    obtain ⟨e', H', x1, x2, x3, x4⟩ := h
    refine ⟨_, ?_, rfl⟩
    simp [d23, hsn, x1, x2, x3, hget_at x4]
end Go.Eng.S
