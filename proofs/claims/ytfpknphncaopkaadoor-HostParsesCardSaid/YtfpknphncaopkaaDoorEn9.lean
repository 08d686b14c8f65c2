/- The operations, one by one: slices, strings, appends. No condition. -/
import Derived.Test.YtfpknphncaopkaaDoorEn8
import Derived.Laws.BytesString
namespace Go.Eng
open Go

/-! ### bounds -/
theorem bnd_ok {P : Program} {c : Cx} {m m' : Nat} {x : AV} {y : Value} (hx : VR c x y) {i : Nat} (h : bnd m x = some i) (hm : m ≤ m') (code : BoundsCode) :
    (Instr.sliceBound y m' code).run P c.w = .ok i c.w ∧ i ≤ m := by
  unfold bnd at h
  split at h
  · split at h
    · rename_i k j hj
      cases h
      cases hx
      have : 0 ≤ j ∧ j ≤ (m' : Int) := ⟨hj.1, by omega⟩
      exact ⟨by simp [Instr.sliceBound, asIntOf, this], by omega⟩
    · cases h
  · cases h

inductive VRO (c : Cx) : Option AV → Option Value → Prop where
  | none : VRO c none none
  | some (a : AV) (v : Value) (h : VR c a v) : VRO c (some a) (some v)

/-- Bounds without a third index. -/
theorem bounds2_ok {P : Program} {c : Cx} {isSlice : Bool} {n cap : Nat} {lo hi : Option AV} {lo' hi' : Option Value} (hlo : VRO c lo lo') (hhi : VRO c hi hi') {h l : Nat} (hn : n ≤ cap)
    (h1 : bndO n n hi = some h) (h2 : bndO h 0 lo = some l) : (Instr.sliceBounds isSlice n cap lo' hi' none).run P c.w = .ok (l, h, cap) c.w ∧ l ≤ h ∧ h ≤ n := by
  cases hhi with
  | none =>
    simp only [bndO] at h1
    cases h1
    cases hlo with
    | none => simp only [bndO] at h2; cases h2; exact ⟨by simp [Instr.sliceBounds], by omega, by omega⟩
    | some a v hv =>
      simp only [bndO] at h2
      have := fun code => bnd_ok (P := P) hv h2 (Nat.le_refl _) code
      exact ⟨by simp [Instr.sliceBounds, (this _).1], (this .index).2, by omega⟩
  | some b u hu =>
    simp only [bndO] at h1
    have hb := fun code => bnd_ok (P := P) hu h1 hn code
    cases hlo with
    | none =>
      simp only [bndO] at h2; cases h2
      refine ⟨?_, by omega, (hb .index).2⟩
      cases isSlice <;> simp [Instr.sliceBounds, (hb _).1]
    | some a v hv =>
      simp only [bndO] at h2
      have ha := fun code => bnd_ok (P := P) hv h2 (Nat.le_refl _) code
      refine ⟨?_, (ha .index).2, (hb .index).2⟩
      cases isSlice <;> simp [Instr.sliceBounds, (hb _).1, (ha _).1]

/-- Bounds with a third index. -/
theorem bounds3_ok {P : Program} {c : Cx} {isSlice : Bool} {n cap : Nat} {lo hi : Option AV} {lo' hi' : Option Value} (hlo : VRO c lo lo') (hhi : VRO c hi hi') {mx : AV} {mx' : Value} (hmx : VR c mx mx') {h l m : Nat} (hn : n ≤ cap)
    (h0 : bnd n mx = some m) (h1 : bndR m hi = some h) (h2 : bndO h 0 lo = some l) : (Instr.sliceBounds isSlice n cap lo' hi' (some mx')).run P c.w = .ok (l, h, m) c.w ∧ l ≤ h ∧ h ≤ m ∧ m ≤ n := by
  have hm := fun code => bnd_ok (P := P) hmx h0 hn code
  cases hhi with
  | none => cases h1
  | some b u hu =>
    simp only [bndR] at h1
    have hb := fun code => bnd_ok (P := P) hu h1 (Nat.le_refl _) code
    cases hlo with
    | none =>
      simp only [bndO] at h2; cases h2
      refine ⟨?_, by omega, (hb .index).2, (hm .index).2⟩
      cases isSlice <;> simp [Instr.sliceBounds, (hb _).1, (hm _).1]
    | some a v hv =>
      simp only [bndO] at h2
      have ha := fun code => bnd_ok (P := P) hv h2 (Nat.le_refl _) code
      refine ⟨?_, (ha .index).2, (hb .index).2, (hm .index).2⟩
      cases isSlice <;> simp [Instr.sliceBounds, (hb _).1, (hm _).1, (ha _).1]

theorem extract_list (s : List UInt8) (l h : Nat) : (ByteArray.mk s.toArray).extract l h = ⟨((s.take h).drop l).toArray⟩ := by
  apply ByteArray.ext
  rw [ByteArray.data_extract]
  simp [List.extract_eq_take_drop, List.drop_take]

/-- What a slice's kind is, of its type. -/
def SlK (P : Program) (t : TypeId) (k : SlT) : Prop := match k with
  | .str => P.underlying t = some .string
  | .sl e => ∃ el, P.underlying t = some (.slice el) ∧ sizeO P el = some e
  | .arr n e => (∃ el, P.underlying t = some (.array n el) ∧ sizeO P el = some e) ∨ ∃ arr el, P.underlying t = some (.pointer arr) ∧ P.underlying arr = some (.array n el) ∧ sizeO P el = some e

theorem sl_sub {c : Cx} {full full' : Bool} {n e : Nat} {cells : List AV} {b o cap : Nat} {sp : Option Nat} (h : VR c (.sl full n e cells) (.slice (some ⟨b, o, sp⟩) n cap)) {l h' m : Nat} (hl : l ≤ h') (hh : h' ≤ n) (hm : h' ≤ m) (hf : full' = true → m = h') :
    VR c (.sl full' (h' - l) e ((cells.drop (l * e)).take ((h' - l) * e))) (.slice (some (if m = l then ⟨b, o, sp⟩ else (⟨b, o, sp⟩ : Addr).add (l * e))) (h' - l) (m - l)) := by
  cases h with
  | sl full n e cells vs b o cap sp hsp hn hf0 he hlen hr hp hc =>
    have hvs : VRs c cells vs := ⟨hlen, hr⟩
    by_cases hnil : cells = []
    · subst hnil
      simp only [List.length_nil] at he
      generalize (if m = l then (⟨b, o, sp⟩ : Addr) else (⟨b, o, sp⟩ : Addr).add (l * e)) = a'
      obtain ⟨b', o', sp'⟩ := a'
      have h0 : (h' - l) * e = 0 := by
        have : (h' - l) * e ≤ n * e := Nat.mul_le_mul_right _ (by omega)
        omega
      rw [List.drop_nil, List.take_nil]
      exact .sl _ _ _ _ [] b' o' _ _ (fun h => absurd rfl h) (by omega) (fun hx => by rw [hf hx]) (by rw [h0]; rfl) rfl (fun k a v h => by simp at h) (fun h => absurd rfl h) (fun k v h => by simp at h)
    obtain rfl := hsp hnil
    by_cases hml : m = l
    · have h0 : h' - l = 0 := by omega
      rw [if_pos hml, h0]
      simp only [Nat.zero_mul, List.take_zero]
      exact .sl _ _ _ _ [] b o _ _ (fun h => absurd rfl h) (by omega) (fun _ => by omega) (by simp) rfl (fun k a v h => by simp at h) (fun h => absurd rfl h) (fun k v h => by simp at h)
    · rw [if_neg hml, add_none]
      have hmul : l * e + (h' - l) * e ≤ n * e := by rw [← Nat.add_mul]; exact Nat.mul_le_mul_right _ (by omega)
      have hsub := (hvs.drop (l * e)).take ((h' - l) * e)
      refine .sl _ _ _ _ ((vs.drop (l * e)).take ((h' - l) * e)) b (o + l * e) _ none (fun _ => rfl) (by omega) (fun hx => by rw [hf hx]) (by simp; omega) hsub.len hsub.rel (fun hne => hp fun h0 => hne (by simp [h0])) (fun k v hk => ?_)
      rw [List.getElem?_take] at hk
      split at hk
      · rw [List.getElem?_drop] at hk
        rw [Nat.add_assoc]; exact hc _ v hk
      · cases hk

theorem ms_sub {c : Cx} {i off n e g : Nat} {a : Addr} {cap : Nat} (h : VR c (.ms i off n e g) (.slice (some a) n cap)) {l h' : Nat} (hl : l ≤ h') (hh : h' ≤ n) :
    VR c (.ms i (off + l * e) (h' - l) e g) (.slice (some (if cap = l then a else a.add (l * e))) (h' - l) (cap - l)) := by
  cases h with
  | ms i off n e g o a cap h1 hg hn hs ha hroom =>
    refine .ms _ _ _ _ _ o _ _ h1 hg (by omega) (by split; exact hs; unfold Addr.add; split <;> simp [hs]) (fun e1 hc => ?_) (fun e1 hc k hk => ?_)
    · rw [if_neg (by omega), ha e1 (by omega)]
      simp only [Cx.at]
      rw [add_none]; simp
    · refine hroom e1 (by omega) k ?_
      have : off + l * e + (cap - l) * e = off + cap * e := by rw [Nat.add_assoc, ← Nat.add_mul]; congr 2; omega
      omega

theorem slice_ok {P : Program} {T : Tab} {c : Cx} (hc : OK T c) {t : TypeId} {k : SlT} (hk : SlK P t k) {x : AV} {y : Value} (hx : VR c x y) {lo hi mx : Option AV} {lo' hi' mx' : Option Value} (hlo : VRO c lo lo') (hhi : VRO c hi hi') (hmx : VRO c mx mx')
    {v : AV} (h : aslice c.A k x lo hi mx = some v) : DoesV P (Instr.sliceAt t y lo' hi' mx') c v c.A := by
  unfold aslice at h
  split at h
  · -- a string
    rename_i s
    cases hx
    split at h
    · cases h
    · split at h
      · cases h
      · rename_i hh h1
        split at h
        · cases h
        · rename_i l h2
          cases h
          cases hmx
          have hb := (bounds2_ok (P := P) (isSlice := false) hlo hhi (Nat.le_refl _) h1 h2).1
          refine .same hc.wr (y := .string ((ByteArray.mk s.toArray).extract l hh)) ?_ ?_
          · simp only [Instr.sliceAt, Sem.run_bind, run_underlying hk, Result.andThen_ok, Instr.slice]
            rw [show (ByteArray.mk s.toArray).size = s.length from bytes_size s]
            simp [hb]
          · rw [extract_list]; exact .str _
  · -- a slice by value
    rename_i e full n e' cs
    split at h
    · rename_i he; subst he
      obtain ⟨el, hu, hs⟩ := hk
      cases hx with
      | sl full n e cells vs b o cap sp hsp hn hf0 he hlen hr hp hcc =>
        have hv : VR c (.sl full n e cs) (.slice (some ⟨b, o, sp⟩) n cap) := .sl full n e cs vs b o cap sp hsp hn hf0 he hlen hr hp hcc
        split at h
        · split at h
          · cases h
          · rename_i hh h1
            split at h
            · cases h
            · rename_i l h2
              cases h
              cases hmx
              obtain ⟨hb, b1, b2⟩ := bounds2_ok (P := P) (isSlice := true) hlo hhi hn h1 h2
              refine .same hc.wr (y := .slice (some (if cap = l then ⟨b, o, sp⟩ else (⟨b, o, sp⟩ : Addr).add (l * e))) (hh - l) (cap - l)) ?_ ?_
              · simp only [Instr.sliceAt, Sem.run_bind, run_underlying hu, Result.andThen_ok, Instr.slice, hb, run_size hs, Sem.run_pure]
                split <;> rfl
              · exact sl_sub hv b1 b2 (by omega) (fun hf => by
                  simp only [Bool.and_eq_true, beq_iff_eq] at hf
                  rw [hf0 hf.1, hf.2])
        · rename_i m
          split at h
          · cases h
          · rename_i m' h0
            split at h
            · cases h
            · rename_i hh h1
              split at h
              · cases h
              · rename_i l h2
                split at h
                · rename_i hle
                  cases h
                  cases hmx with
                  | some _ mv hmv =>
                    obtain ⟨hb, b1, b2, b3⟩ := bounds3_ok (P := P) (isSlice := true) hlo hhi hmv hn h0 h1 h2
                    refine .same hc.wr (y := .slice (some (if m' = l then ⟨b, o, sp⟩ else (⟨b, o, sp⟩ : Addr).add (l * e))) (hh - l) (m' - l)) ?_ ?_
                    · simp only [Instr.sliceAt, Sem.run_bind, run_underlying hu, Result.andThen_ok, Instr.slice, hb, run_size hs, Sem.run_pure]
                      split <;> rfl
                    · exact sl_sub hv b1 hle b2 (fun hf => by simp only [beq_iff_eq] at hf; omega)
                · cases h
    · cases h
  · -- a slice of a row
    rename_i e i off n e' g
    split at h
    · rename_i he; subst he
      obtain ⟨el, hu, hs⟩ := hk
      cases hx with
      | ms i off n e g ob a cap h3 hg hn hsp ha hroom =>
        have hv : VR c (.ms i off n e g) (.slice (some a) n cap) := .ms i off n e g ob a cap h3 hg hn hsp ha hroom
        split at h
        · split at h
          · cases h
          · rename_i hh h1
            split at h
            · cases h
            · rename_i l h2
              cases h
              cases hmx
              obtain ⟨hb, b1, b2⟩ := bounds2_ok (P := P) (isSlice := true) hlo hhi hn h1 h2
              refine .same hc.wr (y := .slice (some (if cap = l then a else a.add (l * e))) (hh - l) (cap - l)) ?_ ?_
              · simp only [Instr.sliceAt, Sem.run_bind, run_underlying hu, Result.andThen_ok, Instr.slice, hb, run_size hs, Sem.run_pure]
                split <;> rfl
              · exact ms_sub hv b1 b2
        · rename_i m
          split at h
          · cases h
          · rename_i m' h0
            split at h
            · cases h
            · rename_i hh h1
              split at h
              · cases h
              · rename_i l h2
                split at h
                · rename_i hm0
                  subst hm0
                  cases h
                  cases hmx with
                  | some _ mv hmv =>
                    obtain ⟨hb, b1, b2, b3⟩ := bounds3_ok (P := P) (isSlice := true) hlo hhi hmv hn h0 h1 h2
                    obtain rfl : hh = 0 := by omega
                    obtain rfl : l = 0 := by omega
                    obtain ⟨ab, ao, asp⟩ := a
                    simp only at hsp
                    subst hsp
                    refine .same hc.wr (y := .slice (some ⟨ab, ao, none⟩) 0 0) ?_ ?_
                    · simp [Instr.sliceAt, run_underlying hu, Instr.slice, hb, run_size hs]
                    · exact .sl _ _ _ _ [] ab ao _ none (fun _ => rfl) (by omega) (fun _ => rfl) (by simp) rfl (fun k a v h => by simp at h) (fun h => absurd rfl h) (fun k v h => by simp at h)
                · cases h
    · cases h
  · -- a nil slice
    rename_i e
    obtain ⟨el, hu, hs⟩ := hk
    cases hx
    split at h
    · split at h
      · cases h
      · rename_i hh h1
        split at h
        · cases h
        · rename_i l h2
          cases h
          cases hmx
          obtain ⟨hb, b1, b2⟩ := bounds2_ok (P := P) (isSlice := true) hlo hhi (Nat.le_refl _) h1 h2
          obtain rfl : hh = 0 := by omega
          obtain rfl : l = 0 := by omega
          exact .same hc.wr (y := .slice none 0 0) (by simp [Instr.sliceAt, run_underlying hu, Instr.slice, hb, run_size hs]) (.cst _)
    · rename_i m
      split at h
      · cases h
      · rename_i m' h0
        split at h
        · cases h
        · rename_i hh h1
          split at h
          · cases h
          · rename_i l h2
            cases h
            cases hmx with
            | some _ mv hmv =>
              obtain ⟨hb, b1, b2, b3⟩ := bounds3_ok (P := P) (isSlice := true) hlo hhi hmv (Nat.le_refl _) h0 h1 h2
              obtain rfl : m' = 0 := by omega
              obtain rfl : hh = 0 := by omega
              obtain rfl : l = 0 := by omega
              exact .same hc.wr (y := .slice none 0 0) (by simp [Instr.sliceAt, run_underlying hu, Instr.slice, hb, run_size hs]) (.cst _)
  · -- an array
    rename_i n e i off g
    split at h
    · rename_i cs hget0
      split at h
      · cases h
      · rename_i hh h1
        split at h
        · cases h
        · rename_i l h2
          cases h
          cases hmx
          cases hx with
          | ptr i off g ob a h3 hg ha =>
            obtain ⟨hb, b1, b2⟩ := bounds2_ok (P := P) (isSlice := false) hlo hhi (Nat.le_refl _) h1 h2
            obtain ⟨o', ho', hg', hle, _⟩ := hget_some hget0
            obtain rfl : ob = o' := Option.some.inj (h3.symm.trans ho')
            obtain rfl := ha hg'
            have hv : VR c (.ms i off n e g) (.slice (some (c.at i off)) n n) := .ms i off n e g ob _ n h3 hg (Nat.le_refl _) rfl (fun _ _ => rfl) (fun _ _ k hk => by
              obtain ⟨u, hu, _⟩ := hc.wr.cell i ob h3 k _ (List.getElem?_eq_getElem (by omega))
              rw [hu]; rfl)
            refine .same hc.wr (y := .slice (some (if n = l then c.at i off else (c.at i off).add (l * e))) (hh - l) (n - l)) ?_ (ms_sub hv b1 b2)
            rcases hk with ⟨el, hu, hs⟩ | ⟨arr, el, hu, hua, hs⟩
            · simp only [Instr.sliceAt, Sem.run_bind, run_underlying hu, Result.andThen_ok, Instr.sureAddr, hb, run_size hs, Sem.run_pure]
            · simp only [Instr.sliceAt, Sem.run_bind, run_underlying hu, Result.andThen_ok, Instr.slice, asAddr, run_underlying hua, hb, run_size hs, Sem.run_pure]
    · cases h
  · cases h
end Go.Eng
