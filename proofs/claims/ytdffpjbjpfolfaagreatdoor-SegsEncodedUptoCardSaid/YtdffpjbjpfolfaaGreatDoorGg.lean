/- Segments are cleaned: the reference's way; both alike. No condition. -/
import Derived.Test.YtdffpjbjpfolfaaGreatDoorGf
namespace Go.Eng.S
open Go Go.Eng
theorem OwnS.view {b : Nat} {H : Heap} {v : AV} {st : List Seg} (h : OwnS b H v st) : viewOf H 1 v = some (st.length, scells st) := by
  rcases h with ⟨rfl, rfl⟩ | ⟨k, g, cs, rfl, h0, h3, h4, h5⟩
  · rfl
  · simp [hget_at h3, h5, h4]
theorem OwnS.fresh {b : Nat} {H : Heap} (st : List Seg) (s : Seg) (hl : st.length < 1000000000) (hH : b ≤ H.length) :
    ∃ x1 H1 v' H', aappend .no H 1 16 (.sl true 0 1 []) st.length (scells st) = some (x1, H1) ∧ aappend .no H1 1 16 x1 1 [.str s] = some (v', H') ∧ OwnS b H' v' (st ++ [s]) ∧ ∀ (k : Nat) (o : AObj), H[k]? = some o → H'[k]? = some o := by
  by_cases h0 : st = []
  · subst h0
    refine ⟨.sl true 0 1 [], H, .ms H.length 0 1 1 0, hnewK H .no [.str s], by rfl, ?_, .inr ⟨H.length, 0, [.str s], rfl, hH, by simp [hnew], rfl, by simp⟩, fun k o hk => app_get hk⟩
    unfold aappend
    simp [LIM]
  · have hl0 : st.length ≠ 0 := by simpa using h0
    have hlim : st.length * (16 + 1) ≤ LIM := by unfold LIM; omega
    have hlim2 : (st.length + 1) * (16 + 1) ≤ LIM := by unfold LIM; omega
    have hsc := sc_cell st
    have hr : (hnewK H .no (scells st))[H.length]? = some ⟨scells st, 0, true, .no⟩ := by simp [hnew]
    refine ⟨.ms H.length 0 st.length 1 0, hnewK H .no (scells st), .ms H.length 0 (st.length + 1) 1 1, (hnewK H .no (scells st)).set H.length ⟨scells (st ++ [s]), 1, true, .no⟩, ?_, ?_, .inr ⟨H.length, 1, scells (st ++ [s]), by simp, hH, set_self hr, ?_, by simp [scells]⟩, fun k o hk => set_ne (by have := (List.getElem?_eq_some_iff.1 hk).1; omega) (app_get hk)⟩
    · unfold aappend
      rw [if_neg hl0]
      simp [hsc, hlim]
    · unfold aappend
      have ht : (scells st).take st.length ++ [.str s] = scells (st ++ [s]) := by rw [sc_take]; simp [scells]
      simp only [hnewK_no] at hr ⊢
      simp [hlim2, sc_len, ht]
    · exact List.take_of_length_le (by simp [scells])
def rdir : Bool → List Seg → Bool
  | d, [] => d
  | _, s :: r => rdir (decide (s = d1 ∨ s = dd ∨ s = [])) r
theorem rdir_eq : ∀ (l : List Seg), rdir false l = dirR false l ∧ ∀ d s r, l = s :: r → rdir d l = dirR false l
  | [] => ⟨rfl, fun _ _ _ h => nomatch h⟩
  | s :: r => by
    have key : ∀ d, rdir d (s :: r) = dirR false (s :: r) := by
      intro d
      rw [rdir, dirR]
      cases r with
      | nil =>
        simp only [rdir, dirR, and_true, decide_true]
        by_cases h1 : s = d1 <;> by_cases h2 : s = dd <;> by_cases h3 : s = [] <;> simp [h1, h2, h3]
      | cons t r =>
        have h := (rdir_eq (t :: r)).2 (decide (s = d1 ∨ s = dd ∨ s = [])) t r rfl
        rw [h]
        simp
    exact ⟨key false, fun d _ _ _ => key d⟩
def rclP (d : Bool) (r : Except Nat (List Seg)) (x : XR) : Prop := match r with
  | .ok st => ∃ e' H' v, x = some (.exit 0, e', H') ∧ e'.get 2 = .ptr 0 0 0 ∧ e'.get 4 = v ∧ e'.get 5 = .bool d ∧ H'[0]? = some (pRow nls false) ∧ OwnS 1 H' v st
  | .error j => ∃ e' H', x = some (.ret, e', H') ∧ e'.get 2 = .ptr 0 0 0 ∧ e'.get 3 = .int .i64 j ∧ H'[0]? = some (pRow nls false)
theorem rcl_loop (l : List Seg) (hl : l.length < 100000000) : ∀ (n i : Nat) (st : List Seg) (d : Bool) (H : Heap) (v : AV), i + n = l.length → st.length ≤ i → H[0]? = some (pRow nls false) → OwnS 1 H v st →
    rclP (rdir d (l.drop i)) (clnS st (l.drop i) i) (XL T [0, 2, 4, 5, 6] L29_0 [(0, slS l), (2, .ptr 0 0 0), (4, v), (5, .bool d), (6, .int .i64 i)] H)
  | 0, i, st, d, H, v, hn, hst, h0, hO => by
    have hd : l.drop i = [] := List.drop_eq_nil_of_le (by omega)
    rw [hd, XL_eq]
    have hx : ∃ e', seqK (X T L29_0 (Env.keep [0, 2, 4, 5, 6] [(0, slS l), (2, .ptr 0 0 0), (4, v), (5, .bool d), (6, .int .i64 i)]) H) (fun e' H' => XL T [0, 2, 4, 5, 6] L29_0 (Env.keep [0, 2, 4, 5, 6] e') H') = some (.exit 0, e', H) ∧ e'.get 2 = .ptr 0 0 0 ∧ e'.get 4 = v ∧ e'.get 5 = .bool d := by
      simp (disch := omega) [L29_0]
    obtain ⟨e', x1, x2, x3, x4⟩ := hx
    exact ⟨e', H, v, x1, x2, x3, by simpa [rdir] using x4, h0, by simpa [clnS] using hO⟩
  | n + 1, i, st, d, H, v, hn, hst, h0, hO => by
    have hlt : i < l.length := by omega
    have hd : l.drop i = l[i] :: l.drop (i + 1) := List.drop_eq_getElem_cons hlt
    have hsd := sc_drop l i hlt
    have hH : 1 ≤ H.length := (List.getElem?_eq_some_iff.1 h0).1
    have hlast : (l.drop (i + 1) = []) ↔ i + 1 = l.length := by
      rw [List.drop_eq_nil_iff]; omega
    rw [hd, XL_eq, rdir, clnS]
    have ih := rcl_loop l hl n (i + 1)
    push_cast at ih
    generalize XL T [0, 2, 4, 5, 6] L29_0 = lp at *
    generalize l.drop (i + 1) = R at *
    have hlastI : decide ((i : Int) < (l.length : Int) - 1) = decide (R ≠ []) := by
      rw [Bool.eq_iff_iff]; simp only [decide_eq_true_eq, ne_eq]; rw [hlast]; omega
    generalize hs : l[i] = s at *
    by_cases c1 : s = dd
    · have b1 : (s == [46, 46]) = true := by simpa using c1
      have b2 : (s == [46]) = false := by subst c1; rfl
      rw [if_pos c1]
      by_cases c0 : st = []
      · subst c0
        rw [if_pos rfl]
        rcases hO.lenv with ⟨_, rfl⟩ | ⟨k, g, rfl⟩ <;>
          (simp (disch := omega) [L29_0, hsd, b1, b2, hset_at h0, rclP]
           exact ⟨_, _, ⟨rfl, rfl⟩, rfl, rfl, set_self h0⟩)
      · rw [if_neg c0]
        have hlp : 0 < st.length := List.length_pos_iff.2 c0
        have hlp' : ((st.length : Int) == 0) = false := by rw [beq_eq_false_iff_ne]; omega
        rcases hO.lenv with ⟨e, _⟩ | ⟨k, g, rfl⟩
        · exact absurd e c0
        · have p2 := hO.pop c0
          have ih := ih st.dropLast true H _ (by omega) (by simp; omega) h0 p2
          simp (disch := omega) [L29_0, hsd, c1, hlp']
          simpa [c1] using ih
    · have b1 : (s == [46, 46]) = false := by simpa using c1
      have n1 : (s != [46, 46]) = true := by simpa using c1
      rw [if_neg c1]
      by_cases c3 : s = d1
      · subst c3
        rw [if_pos (.inl rfl)]
        have ih := ih st true H v (by omega) (by omega) h0 hO
        simp (disch := omega) [L29_0, hsd]
        simpa using ih
      · have b3 : (s == [46]) = false := by simpa using c3
        have n3 : (s != [46]) = true := by simpa using c3
        by_cases c4 : s = []
        · subst c4
          by_cases c5 : R = []
          · rw [if_pos (.inr ⟨rfl, c5⟩)]
            have ih := ih st true H v (by omega) (by omega) h0 hO
            simp (disch := omega) [L29_0, hsd, hlastI, c5]
            simpa [c5] using ih
          · rw [if_neg (by rintro (h | ⟨_, h⟩); exact c3 h; exact c5 h)]
            obtain ⟨x1, H1, v', H', p1, p2, p3, p4⟩ := OwnS.fresh (b := 1) (H := H) st [] (by omega) hH
            have ih := ih (st ++ [[]]) true H' v' (by omega) (by simp; omega) (p4 _ _ h0) p3
            rcases hO with ⟨rfl, rfl⟩ | ⟨k, g, cs, rfl, _, h3, h4, h5⟩
            · have p1' : aappend .no H 1 16 (.sl true 0 1 []) 0 [] = some (x1, H1) := p1
              simp (disch := omega) [L29_0, hsd, hlastI, c5, p1', p2]
              simpa using ih
            · simp (disch := omega) [L29_0, hsd, hlastI, c5, hget_at h3, h4, h5, p1, p2]
              simpa using ih
        · have b4 : (s == []) = false := by simpa using c4
          have n4 : (s != []) = true := by simpa using c4
          rw [if_neg (by rintro (h | ⟨h, _⟩); exact c3 h; exact c4 h)]
          obtain ⟨x1, H1, v', H', p1, p2, p3, p4⟩ := OwnS.fresh (b := 1) (H := H) st s (by omega) hH
          have ih := ih (st ++ [s]) false H' v' (by omega) (by simp; omega) (p4 _ _ h0) p3
          rcases hO with ⟨rfl, rfl⟩ | ⟨k, g, cs, rfl, _, h3, h4, h5⟩
          · have p1' : aappend .no H 1 16 (.sl true 0 1 []) 0 [] = some (x1, H1) := p1
            simp (disch := omega) [L29_0, hsd, b1, b3, b4, p1', p2]
            simpa [c1, c3, c4] using ih
          · simp (disch := omega) [L29_0, hsd, b1, b3, b4, hget_at h3, h4, h5, p1, p2]
            simpa [c1, c3, c4] using ih
theorem rclean_ok {a : AV} {l : List Seg} (ha : Names a l) (hl : l.length < 100000000) : ∃ y, (∀ H, C T 29 [a] H = some (y, H)) ∧ WalkV (dirR false l) (clnS [] l 0) y := by
  suffices h : ∃ y, C T 29 [a] [] = some (y, []) ∧ WalkV (dirR false l) (clnS [] l 0) y by
    obtain ⟨y, h1, h2⟩ := h
    exact ⟨y, fun H => anyH fd29 rfl (closed1 ha.closed) h1 H, h2⟩
  rcases names_two ha with ⟨rfl, rfl⟩ | rfl
  · exact ⟨_, C_of 9 (by kernel_rfl), nls, rfl, .inl ⟨rfl, rfl⟩⟩
  rw [q29]
  have h := rcl_loop l hl l.length 0 [] false [pRow nls false] nls (by omega) (by simp) rfl (.inl ⟨rfl, rfl⟩)
  simp only [List.drop_zero, Int.natCast_zero] at h
  have hsn := fun k H => snap_slS k H false l l.length
  rw [(rdir_eq l).1] at h
  cases hr : clnS [] l 0 with
  | ok st =>
    rw [hr] at h
    obtain ⟨e', H', v, x1, x2, x3, x4, x5, x6⟩ := h
    have q0 := set_self (x := pRow v (dirR false l)) x5
    have hO2 : OwnS 1 (H'.set 0 (pRow v (dirR false l))) v st := x6.mono fun k o hk hr => set_ne (by omega) hr
    obtain ⟨b, H2, s1, s2⟩ := snap_own hO2 60
    refine ⟨.tup [.agg [b, .bool (dirR false l)], .int .i64 (-1)], ?_, b, rfl, s2⟩
    have hc := x6.cell
    have hce := cells_cell hc
    simp [d29, hsn, x1, x2, x3, x4, hset_at x5, hc, hce, hget_at q0, s1]
  | error j =>
    rw [hr] at h
    obtain ⟨e', H', x1, x2, x3, x4⟩ := h
    refine ⟨_, ?_, rfl⟩
    simp [d29, hsn, x1, x2, x3, hget_at x4]
end Go.Eng.S
