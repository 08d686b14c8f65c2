/- Steps on rows: a new row; a row written, grown, moved or frozen. No condition. -/
import Derived.Test.YtfpknphncaopkaaDoorEn3
import Derived.Laws.IdiomCopy
import Derived.WalkKit
namespace Go.Eng
open Go

theorem cell_of_heap {w w' : World} {b k : Nat} (h : w'.heap[b]? = w.heap[b]?) : w'.cell? ⟨b, k, none⟩ = w.cell? ⟨b, k, none⟩ := by
  simp only [World.cell?, h]
theorem frozen_of_heap {w w' : World} {b k : Nat} (h : w'.heap[b]? = w.heap[b]?) : w'.frozen? ⟨b, k, none⟩ = w.frozen? ⟨b, k, none⟩ := by
  simp only [World.frozen?, h]
theorem cell_lt {w : World} {a : Addr} (h : (w.cell? a).isSome = true) : a.block < w.heap.size := by
  rcases Nat.lt_or_ge a.block w.heap.size with h1 | h1
  · exact h1
  · simp [World.cell?, Array.getElem?_eq_none h1] at h

/-! ### the world alone -/
def Cx.setW (c : Cx) (w : World) : Cx := { c with w := w }

theorem world_ok {c : Cx} (hW : WR c) {w' : World} (hh : w'.heap = c.w.heap) (hos : w'.os = c.w.os) (hout : w'.output = c.w.output) : Ext c (c.setW w') ∧ WR (c.setW w') := by
  have hE : Ext c (c.setW w') :=
    { F := rfl
      row := fun i o h => ⟨o, h, Nat.le_refl _, fun _ => ⟨rfl, rfl⟩⟩
      own := fun b h => .inl h
      size := by simp [Cx.setW, hh]
      frame := fun b _ _ => by simp [Cx.setW, hh]
      room := fun a h => by simpa [Cx.setW, World.cell?, hh] using h
      os := hos
      out := hout }
  refine ⟨hE, ?_⟩
  exact
    { lt := fun i o h => by simpa [Cx.setW, hh] using hW.lt i o h
      nf := hW.nf
      inj := hW.inj
      cell := fun i o h k a hk => by
        obtain ⟨v, h1, h2⟩ := hW.cell i o h k a hk
        exact ⟨v, by rw [← h1]; exact cell_of_heap (by simp [Cx.setW, hh]), h2.ext hE⟩
      soft := fun i o h hl k hk => by
        have h1 : (c.w.cell? ⟨c.blk i, k, none⟩).isSome = true := by rw [← hk]; congr 1; exact (cell_of_heap (by simp [Cx.setW, hh])).symm
        rw [← hW.soft i o h hl k h1]; exact frozen_of_heap (by simp [Cx.setW, hh]) }

/-! ### a new row -/
def Cx.new (c : Cx) (cs : List AV) (w : World) : Cx :=
  { c with blk := fun i => if i = c.A.length then c.w.heap.size else c.blk i, base := fun i => if i = c.A.length then 0 else c.base i, A := hnew c.A cs, w := w }

theorem hnew_some {A : Heap} {cs : List AV} {i : Nat} {o : AObj} (h : (hnew A cs)[i]? = some o) : (i < A.length ∧ A[i]? = some o) ∨ (i = A.length ∧ o = ⟨cs, 0, true⟩) := by
  unfold hnew at h
  rcases Nat.lt_or_ge i A.length with h1 | h1
  · rw [List.getElem?_append_left h1] at h; exact .inl ⟨h1, h⟩
  · rw [List.getElem?_append_right h1] at h
    have : i - A.length = 0 := by
      rcases Nat.eq_zero_or_pos (i - A.length) with h2 | h2
      · exact h2
      · rw [List.getElem?_eq_none (by simp; omega)] at h; cases h
    rw [this] at h
    simp at h
    exact .inr ⟨by omega, h.symm⟩
theorem hnew_old {A : Heap} {cs : List AV} {i : Nat} {o : AObj} (h : A[i]? = some o) : (hnew A cs)[i]? = some o := by
  have := (List.getElem?_eq_some_iff.1 h).1
  unfold hnew; rw [List.getElem?_append_left this]; exact h
theorem hnew_new (A : Heap) (cs : List AV) : (hnew A cs)[A.length]? = some ⟨cs, 0, true⟩ := by
  unfold hnew; simp
theorem lt_of_some {A : Heap} {i : Nat} {o : AObj} (h : A[i]? = some o) : i < A.length := (List.getElem?_eq_some_iff.1 h).1

theorem new_ok {c : Cx} (hW : WR c) (hF : ∀ b, c.w.heap.size ≤ b → ¬ c.F b) {cs : List AV} {vs : Array Value} {t : TypeId} {fr : Nat × Nat} {w' : World}
    (hw : w'.heap = c.w.heap.push (.cells vs t fr)) (hos : w'.os = c.w.os) (hout : w'.output = c.w.output) (hfr : ∀ k, k < vs.size → (fr.1 ≤ k && k < fr.2) = false)
    (hcs : ∀ (k : Nat) (a : AV), cs[k]? = some a → ∃ v, vs[k]? = some v ∧ VR c a v) : Ext c (c.new cs w') ∧ WR (c.new cs w') := by
  have hold : ∀ b, b < c.w.heap.size → w'.heap[b]? = c.w.heap[b]? := fun b hb => by
    rw [hw, Array.getElem?_push]; rw [if_neg (by omega)]
  have hnewb : w'.heap[c.w.heap.size]? = some (.cells vs t fr) := by rw [hw, Array.getElem?_push]; simp
  have hE : Ext c (c.new cs w') :=
    { F := rfl
      row := fun i o h => ⟨o, hnew_old h, Nat.le_refl _, fun _ => by
        have := lt_of_some h
        simp only [Cx.new]
        rw [if_neg (by omega), if_neg (by omega)]; exact ⟨rfl, rfl⟩⟩
      own := fun b h => by
        obtain ⟨i, o, h1, h2, h3⟩ := h
        rcases hnew_some h1 with ⟨h4, h5⟩ | ⟨h4, h5⟩
        · simp only [Cx.new] at h3
          rw [if_neg (by omega)] at h3
          exact .inl ⟨i, o, h5, h2, h3⟩
        · simp only [Cx.new] at h3
          rw [if_pos h4] at h3
          exact .inr (by omega)
      size := by simp [Cx.new, hw]
      frame := fun b hb _ => hold b hb
      room := fun a h => by
        have := cell_lt h
        simpa [Cx.new, World.cell?, hold _ this] using h
      os := hos
      out := hout }
  refine ⟨hE, ?_⟩
  exact
    { lt := fun i o h => by
        simp only [Cx.new, hw, Array.size_push]
        rcases hnew_some h with ⟨h4, h5⟩ | ⟨h4, h5⟩
        · rw [if_neg (by omega)]; have := hW.lt i o h5; omega
        · rw [if_pos h4]; omega
      nf := fun i o h => by
        simp only [Cx.new]
        rcases hnew_some h with ⟨h4, h5⟩ | ⟨h4, h5⟩
        · rw [if_neg (by omega)]; exact hW.nf i o h5
        · rw [if_pos h4]; exact hF _ (Nat.le_refl _)
      inj := fun i j o p h k hb => by
        simp only [Cx.new] at hb
        rcases hnew_some h with ⟨h4, h5⟩ | ⟨h4, h5⟩ <;> rcases hnew_some k with ⟨k4, k5⟩ | ⟨k4, k5⟩
        · rw [if_neg (by omega), if_neg (by omega)] at hb; exact hW.inj i j o p h5 k5 hb
        · rw [if_neg (by omega), if_pos k4] at hb; have := hW.lt i o h5; omega
        · rw [if_pos h4, if_neg (by omega)] at hb; have := hW.lt j p k5; omega
        · omega
      cell := fun i o h k a hk => by
        rcases hnew_some h with ⟨h4, h5⟩ | ⟨h4, h5⟩
        · obtain ⟨v, h1, h2⟩ := hW.cell i o h5 k a hk
          refine ⟨v, ?_, h2.ext hE⟩
          simp only [Cx.new, Cx.at]
          rw [if_neg (by omega), if_neg (by omega), ← h1]
          exact cell_of_heap (hold _ (hW.lt i o h5))
        · subst h5
          obtain ⟨v, h1, h2⟩ := hcs k a hk
          refine ⟨v, ?_, h2.ext hE⟩
          simp only [Cx.new, Cx.at]
          rw [if_pos h4, if_pos h4]
          simp [World.cell?, hnewb, h1]
      soft := fun i o h hl k hk => by
        simp only [Cx.new] at hk ⊢
        rcases hnew_some h with ⟨h4, h5⟩ | ⟨h4, h5⟩
        · rw [if_neg (by omega)] at hk ⊢
          have hb := hold _ (hW.lt i o h5)
          rw [cell_of_heap hb] at hk
          rw [frozen_of_heap hb]; exact hW.soft i o h5 hl k hk
        · rw [if_pos h4] at hk ⊢
          simp only [World.cell?, hnewb, World.frozen?] at hk ⊢
          have : k < vs.size := by
            rcases Nat.lt_or_ge k vs.size with h6 | h6
            · exact h6
            · simp [Array.getElem?_eq_none h6] at hk
          exact hfr k this }

/-! ### a row written, grown, moved, frozen -/
def Cx.re (c : Cx) (i b p : Nat) (o : AObj) (w : World) : Cx :=
  { c with blk := fun j => if j = i then b else c.blk j, base := fun j => if j = i then p else c.base j, A := c.A.set i o, w := w }

theorem set_some {A : Heap} {i j : Nat} {o p : AObj} (h : (A.set i o)[j]? = some p) : (j ≠ i ∧ A[j]? = some p) ∨ (j = i ∧ p = o ∧ i < A.length) := by
  rw [List.getElem?_set] at h
  split at h
  · rename_i e; subst e
    split at h
    · rename_i hlt; cases h; exact .inr ⟨rfl, rfl, hlt⟩
    · cases h
  · rename_i e; exact .inl ⟨fun h => e h.symm, h⟩

theorem re_ok {c : Cx} (hW : WR c) {i : Nat} {o o' : AObj} (hi : c.A[i]? = some o) {b p : Nat} {w' : World} (hlive : o'.live = true → o.live = true)
    (hg : o.gen ≤ o'.gen) (hge : o.gen = o'.gen → b = c.blk i ∧ p = c.base i) (hb : b = c.blk i ∨ (c.w.heap.size ≤ b ∧ ¬ c.F b)) (hsz : c.w.heap.size ≤ w'.heap.size) (hbl : b < w'.heap.size)
    (hfr : ∀ j, j < c.w.heap.size → (j ≠ c.blk i ∨ o.live = false) → w'.heap[j]? = c.w.heap[j]?) (hroom : ∀ a, (c.w.cell? a).isSome = true → (w'.cell? a).isSome = true)
    (hos : w'.os = c.w.os) (hout : w'.output = c.w.output) (hsoft : o'.live = true → ∀ k, (w'.cell? ⟨b, k, none⟩).isSome = true → w'.frozen? ⟨b, k, none⟩ = false)
    (hcs : ∀ (k : Nat) (a : AV), o'.cells[k]? = some a → ∃ v, w'.cell? ⟨b, p + k, none⟩ = some v ∧ VR c a v) :
    Ext c (c.re i b p o' w') ∧ WR (c.re i b p o' w') := by
  have hlt := lt_of_some hi
  have hE : Ext c (c.re i b p o' w') :=
    { F := rfl
      row := fun j q h => by
        by_cases e : j = i
        · subst e
          obtain rfl : o = q := Option.some.inj (hi.symm.trans h)
          refine ⟨o', by simp [Cx.re, hlt], hg, fun e => ?_⟩
          simp only [Cx.re, if_true]
          exact hge e
        · refine ⟨q, by simp only [Cx.re]; rw [List.getElem?_set_ne (by omega)]; exact h, Nat.le_refl _, fun _ => ?_⟩
          simp only [Cx.re]; rw [if_neg e, if_neg e]; exact ⟨rfl, rfl⟩
      own := fun x h => by
        obtain ⟨j, q, h1, h2, h3⟩ := h
        simp only [Cx.re] at h1 h3
        rcases set_some h1 with ⟨h4, h5⟩ | ⟨h4, h5, _⟩
        · rw [if_neg h4] at h3; exact .inl ⟨j, q, h5, h2, h3⟩
        · rw [if_pos h4] at h3
          subst h5; subst h3
          rcases hb with hb | hb
          · exact .inl ⟨i, o, hi, hlive h2, hb.symm⟩
          · exact .inr hb.1
      size := hsz
      frame := fun x hx ho => hfr x hx (by
        by_cases e : x = c.blk i
        · right
          cases hl : o.live with
          | false => rfl
          | true => exact absurd ⟨i, o, hi, hl, e.symm⟩ ho
        · exact .inl e)
      room := hroom
      os := hos
      out := hout }
  refine ⟨hE, ?_⟩
  exact
    { lt := fun j q h => by
        simp only [Cx.re] at h ⊢
        rcases set_some h with ⟨h4, h5⟩ | ⟨h4, h5, _⟩
        · rw [if_neg h4]; exact Nat.lt_of_lt_of_le (hW.lt j q h5) hsz
        · rw [if_pos h4]; exact hbl
      nf := fun j q h => by
        simp only [Cx.re] at h ⊢
        rcases set_some h with ⟨h4, h5⟩ | ⟨h4, h5, _⟩
        · rw [if_neg h4]; exact hW.nf j q h5
        · rw [if_pos h4]
          rcases hb with hb | hb
          · rw [hb]; exact hW.nf i o hi
          · exact hb.2
      inj := fun j k q r h h' hbk => by
        simp only [Cx.re] at h h' hbk
        rcases set_some h with ⟨h4, h5⟩ | ⟨h4, h5, _⟩ <;> rcases set_some h' with ⟨k4, k5⟩ | ⟨k4, k5, _⟩
        · rw [if_neg h4, if_neg k4] at hbk; exact hW.inj j k q r h5 k5 hbk
        · rw [if_neg h4, if_pos k4] at hbk
          rcases hb with hb | hb
          · exact absurd (hW.inj j i q o h5 hi (hbk.trans hb)) h4
          · have := hW.lt j q h5; omega
        · rw [if_pos h4, if_neg k4] at hbk
          rcases hb with hb | hb
          · exact absurd (hW.inj k i r o k5 hi (hbk.symm.trans hb)) k4
          · have := hW.lt k r k5; omega
        · omega
      cell := fun j q h k a hk => by
        simp only [Cx.re] at h
        rcases set_some h with ⟨h4, h5⟩ | ⟨h4, h5, _⟩
        · obtain ⟨v, h1, h2⟩ := hW.cell j q h5 k a hk
          refine ⟨v, ?_, h2.ext hE⟩
          simp only [Cx.re, Cx.at]
          rw [if_neg h4, if_neg h4, ← h1]
          exact cell_of_heap (hfr _ (hW.lt j q h5) (.inl fun e => h4 (hW.inj j i q o h5 hi e)))
        · subst h5
          obtain ⟨v, h1, h2⟩ := hcs k a hk
          refine ⟨v, ?_, h2.ext hE⟩
          simp only [Cx.re, Cx.at]
          rw [if_pos h4, if_pos h4]; exact h1
      soft := fun j q h hl k hk => by
        simp only [Cx.re] at h hk ⊢
        rcases set_some h with ⟨h4, h5⟩ | ⟨h4, h5, _⟩
        · rw [if_neg h4] at hk ⊢
          have hh := hfr _ (hW.lt j q h5) (.inl fun e => h4 (hW.inj j i q o h5 hi e))
          rw [cell_of_heap hh] at hk
          rw [frozen_of_heap hh]; exact hW.soft j q h5 hl k hk
        · rw [if_pos h4] at hk ⊢
          subst h5
          exact hsoft hl k hk }

/-! ### setCells as such -/
theorem setCells_heap (b : Nat) : ∀ (vs : List Value) (o : Nat) (w : World) (j : Nat), j ≠ b → (w.setCells b o vs).heap[j]? = w.heap[j]?
  | [], _, _, _, _ => rfl
  | v :: r, o, w, j, h => by
    rw [World.setCells, setCells_heap b r (o + 1) _ j h]
    simp only [World.setCell]
    rw [Array.getElem?_modify, if_neg (fun e => h e.symm)]
theorem setCells_size (b : Nat) : ∀ (vs : List Value) (o : Nat) (w : World), (w.setCells b o vs).heap.size = w.heap.size
  | [], _, _ => rfl
  | v :: r, o, w => by rw [World.setCells, setCells_size b r]; simp [World.setCell]
theorem setCells_os (b : Nat) : ∀ (vs : List Value) (o : Nat) (w : World), (w.setCells b o vs).os = w.os ∧ (w.setCells b o vs).output = w.output
  | [], _, _ => ⟨rfl, rfl⟩
  | v :: r, o, w => by rw [World.setCells]; exact setCells_os b r (o + 1) _
theorem setCells_room (b : Nat) : ∀ (vs : List Value) (o : Nat) (w : World) (a : Addr), (w.cell? a).isSome = true → ((w.setCells b o vs).cell? a).isSome = true
  | [], _, _, _, h => h
  | v :: r, o, w, a, h => by
    rw [World.setCells]
    refine setCells_room b r (o + 1) _ a ?_
    obtain ⟨u, hu⟩ := Option.isSome_iff_exists.1 h
    by_cases e : (⟨b, o, none⟩ : Addr) = a
    · subst e; rw [World.cell?_setCell_same _ _ _ hu]; rfl
    · rw [World.cell?_setCell_other _ _ _ _ e]; exact h
theorem setCells_room' (b : Nat) : ∀ (vs : List Value) (o : Nat) (w : World) (a : Addr), ((w.setCells b o vs).cell? a).isSome = true → (w.cell? a).isSome = true
  | [], _, _, _, h => h
  | v :: r, o, w, a, h => by
    rw [World.setCells] at h
    have h1 := setCells_room' b r (o + 1) _ a h
    by_cases e : (⟨b, o, none⟩ : Addr) = a
    · subst e
      simp only [World.cell?, World.setCell] at h1 ⊢
      rw [Array.getElem?_modify] at h1
      simp only [if_true] at h1
      cases hb : w.heap[b]? with
      | none => rw [hb] at h1; simp at h1
      | some x =>
        rw [hb] at h1
        cases x with
        | cells c t fr =>
          simp only [Option.map_some, Option.isSome_none, Bool.false_eq_true, if_false] at h1 ⊢
          have : o < (c.setIfInBounds o v).size := by
            rcases Nat.lt_or_ge o (c.setIfInBounds o v).size with h6 | h6
            · exact h6
            · rw [Array.getElem?_eq_none h6] at h1; simp at h1
          simp at this
          simp [this]
        | _ => simp at h1
    · rw [World.cell?_setCell_other _ _ _ _ e] at h1
      exact h1
end Go.Eng
