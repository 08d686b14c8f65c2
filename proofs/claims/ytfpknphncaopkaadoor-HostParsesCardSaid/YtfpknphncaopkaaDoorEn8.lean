/- The operations, one by one: equality, conversions. No condition. -/
import Derived.Test.YtfpknphncaopkaaDoorEn7
namespace Go.Eng
open Go

theorem part_one_ok {P : Program} {c : Cx} {t : TypeId} (ht : aggO P t = some none) {cs : List AV} {vs : Array Value} (h : VRs c cs vs.toList) {off : Nat} {a : AV} (ha : cs[off]? = some a) :
    ∃ v, (part t vs off).run P c.w = .ok v c.w ∧ VR c a v := by
  obtain ⟨v, h1, h2⟩ := VRs.find h off a ha
  exact ⟨v, by simp [part, (run_agg ht c.w).1, h1], h2⟩

theorem part_agg_ok {P : Program} {c : Cx} {t : TypeId} {n : Nat} (ht : aggO P t = some (some n)) {cs : List AV} {vs : Array Value} (h : VRs c cs vs.toList) {off : Nat} (hn : off + n ≤ cs.length) :
    ∃ v, (part t vs off).run P c.w = .ok v c.w ∧ VR c (.agg ((cs.drop off).take n)) v := by
  refine ⟨.agg (vs.extract off (off + n)), by simp [part, (run_agg ht c.w).1, run_size ((run_agg ht c.w).2 _ rfl)], ?_⟩
  have hl := h.len
  simp at hl
  refine .agg _ _ (by simp; omega) (fun k a v h1 h2 => ?_)
  rw [List.getElem?_take] at h1
  split at h1
  · rename_i hk
    rw [List.getElem?_drop] at h1
    have hlt : off + k < vs.size := by rw [← hl]; exact (List.getElem?_eq_some_iff.1 h1).1
    refine h.rel _ a v h1 ?_
    rw [Array.getElem?_extract] at h2
    rw [if_pos (by omega)] at h2
    simpa using h2
  · cases h1

theorem partA_ok {P : Program} {c : Cx} {t : TypeId} {n : Option Nat} (ht : aggO P t = some n) {cs : List AV} {vs : Array Value} (h : VRs c cs vs.toList) {off : Nat} {a : AV} (ha : partA cs off n = some a) :
    ∃ v, (part t vs off).run P c.w = .ok v c.w ∧ VR c a v := by
  cases n with
  | none => exact part_one_ok ht h ha
  | some n =>
    simp only [partA] at ha
    split at ha
    · rename_i hn; cases ha; exact part_agg_ok ht h hn
    · cases ha

theorem VR.agg_inv {c : Cx} {x : List AV} {y : Value} (h : VR c (.agg x) y) : ∃ x' : Array Value, y = .agg x' ∧ VRs c x x'.toList := by
  cases h with
  | agg x x' hx hx' => exact ⟨x', rfl, by simpa using hx, fun k a v h1 h2 => hx' k a v h1 (by simpa using h2)⟩
theorem VR.tup_inv {c : Cx} {x : List AV} {y : Value} (h : VR c (.tup x) y) : ∃ x' : Array Value, y = .tuple x' ∧ VRs c x x'.toList := by
  cases h with
  | tup x x' hx hx' => exact ⟨x', rfl, by simpa using hx, fun k a v h1 h2 => hx' k a v h1 (by simpa using h2)⟩
theorem VRs.tup {c : Cx} {x : List AV} {y : List Value} (h : VRs c x y) : VR c (.tup x) (.tuple y.toArray) :=
  .tup _ _ (by simp [h.len]) fun k a v h1 h2 => h.rel k a v h1 (by simpa using h2)
theorem VRs.agg {c : Cx} {x : List AV} {y : List Value} (h : VRs c x y) : VR c (.agg x) (.agg y.toArray) :=
  .agg _ _ (by simp [h.len]) fun k a v h1 h2 => h.rel k a v h1 (by simpa using h2)

/-! ### equality -/
/-- '==' goes by Op.equal. -/
def Plain (x y : Value) : Prop := ∀ t, binOp .eql t x y = (do pure (.bool (← Op.equal t x y))) ∧ binOp .neq t x y = (do pure (.bool (!(← Op.equal t x y))))

def AV.num : AV → AV → Bool
  | .int _ _, .int _ _ => true
  | .str _, .str _ => true
  | _, _ => false

theorem eqtO_struct {P : Program} {k : Nat} {t : TypeId} {fs' : List (Nat × EqT)} (h : eqtO P k t = some (.struct fs')) :
    ∃ fs k', k = k' + 1 ∧ P.underlying t = some (.struct fs) ∧ P.stoodInHeld t = false ∧ mapOpt (eqField P (eqtO P k')) fs.toList = some fs' := by
  cases k with
  | zero => cases h
  | succ k =>
    unfold eqtO at h
    split at h <;> first | (cases h; done) | skip
    rename_i fs hu
    split at h
    · cases h
    · rename_i hs
      cases hm : mapOpt (eqField P (eqtO P k)) fs.toList with
      | none => rw [hm] at h; cases h
      | some l => rw [hm] at h; cases h; exact ⟨fs, k, rfl, hu, by simpa using hs, hm⟩

theorem eqtO_plain {P : Program} {k : Nat} {t : TypeId} {q : EqT} (h : eqtO P k t = some q) :
    match q with
    | .bool => P.underlying t = some .bool
    | .int => ∃ k, P.underlying t = some (.int k)
    | .str => P.underlying t = some .string
    | .iface => ∃ ms, P.underlying t = some (.interface ms)
    | .nsl => ∃ e, P.underlying t = some (.slice e)
    | .nfn => ∃ a b d, P.underlying t = some (.func a b d)
    | .nptr => ∃ e, P.underlying t = some (.pointer e)
    | .struct _ => True := by
  cases k with
  | zero => cases h
  | succ k =>
    unfold eqtO at h
    split at h <;> first
      | (cases h; done)
      | (cases h; rename_i hu; first | exact hu | exact ⟨_, hu⟩ | exact ⟨_, _, _, hu⟩)
      | skip
    split at h
    · cases h
    · simp only [Option.map_eq_some_iff] at h
      obtain ⟨l, _, rfl⟩ := h
      trivial

theorem beq_bytes (a b : List UInt8) : (ByteArray.mk a.toArray == ByteArray.mk b.toArray) = (a == b) := by
  rw [beq_toListBytes, bytes_toList, bytes_toList]

theorem aeq_ok {P : Program} {T : Tab} (hT : TabOK P T) {c : Cx} : ∀ (f : Nat) (q : EqT) (cn : Bool) (x y : AV) (r : Bool), aeq T f q cn x y = some r → ∀ (t : TypeId) (k : Nat), eqtO P k t = some q → ∀ d, f ≤ d → ∀ x' y', VR c x x' → VR c y y' →
    (Op.equalIn d t x' y').run P c.w = .ok r c.w ∧ (AV.num x y = false → Plain x' y') := by
  intro f
  induction f with
  | zero => intro q cn x y r h; cases h
  | succ f ih =>
    intro q cn x y r h t k hq d hd x' y' hx hy
    obtain ⟨d, rfl⟩ : ∃ m, d = m + 1 := ⟨d - 1, by omega⟩
    have hu := eqtO_plain hq
    unfold aeq at h
    split at h
    · cases hx; cases hy; cases h; exact ⟨by simp [Op.equalIn, run_underlying hu], fun _ t => ⟨rfl, rfl⟩⟩
    · cases hx; cases hy
      obtain ⟨kk, hu⟩ := hu
      split at h
      · rename_i e; subst e; cases h; exact ⟨by simp [Op.equalIn, run_underlying hu], fun hn => by simp [AV.num] at hn⟩
      · cases h
    · cases hx; cases hy; cases h; exact ⟨by simp [Op.equalIn, run_underlying hu, beq_bytes], fun hn => by simp [AV.num] at hn⟩
    · cases hx; cases hy
      obtain ⟨ms, hu⟩ := hu
      cases cn with
      | false => cases h
      | true => cases h; exact ⟨by simp [Op.equalIn, run_underlying hu], fun _ t => ⟨rfl, rfl⟩⟩
    · cases hx; cases hy; cases h
      obtain ⟨ms, hu⟩ := hu
      exact ⟨by simp [Op.equalIn, run_underlying hu], fun _ t => ⟨rfl, rfl⟩⟩
    · cases hx; cases hy; cases h
      obtain ⟨ms, hu⟩ := hu
      exact ⟨by simp [Op.equalIn, run_underlying hu], fun _ t => ⟨rfl, rfl⟩⟩
    · cases hx; cases hy
      rename_i y1 hx y2 hy
      obtain ⟨ms, hu⟩ := hu
      split at h
      · rename_i e; subst e
        split at h
        · rename_i q' hq'
          obtain ⟨⟨i, hi, hcmp⟩, he⟩ := hT.eqt _ _ hq'
          have := (ih _ _ _ _ _ h _ _ he d (by omega) _ _ hx hy).1
          exact ⟨by simp [Op.equalIn, run_underlying hu, typeInfo, hi, hcmp, this], fun _ t => ⟨rfl, rfl⟩⟩
        · cases h
      · rename_i e; cases h
        exact ⟨by simp [Op.equalIn, run_underlying hu, e], fun _ t => ⟨rfl, rfl⟩⟩
    all_goals try (cases hx; cases hy; cases h; obtain ⟨e1, e2, e3, hu⟩ := hu; refine ⟨?_, fun _ t => ⟨rfl, rfl⟩⟩; simp [Op.equalIn, run_underlying hu]; done)
    all_goals try (cases hx; cases hy; cases h; obtain ⟨e, hu⟩ := hu; refine ⟨?_, fun _ t => ⟨rfl, rfl⟩⟩; simp [Op.equalIn, run_underlying hu]; done)
    · rename_i fs' xs ys
      obtain ⟨xs', rfl, hxs⟩ := hx.agg_inv
      obtain ⟨ys', rfl, hys⟩ := hy.agg_inv
      clear hu
      obtain ⟨fs, k', rfl, hu, hst, hm⟩ := eqtO_struct hq
      refine ⟨?_, fun _ t => ⟨rfl, rfl⟩⟩
      have hfo : P.fieldsOf t = fs := by simp [Program.fieldsOf, hu]
      rw [run_equalIn_struct c.w d t xs' ys' (by rw [hfo]; exact hu) hst, hfo]
      generalize fs.toList = l at hm
      clear hq hfo hst hu
      induction l generalizing fs' r with
      | nil => cases hm; cases h; rfl
      | cons g l ihl =>
        unfold mapOpt at hm
        split at hm
        · rename_i p hp
          split at hm
          · rename_i ps hps
            cases hm
            unfold eqField at hp
            split at hp
            · cases hp
            · rename_i hname
              split at hp
              · rename_i hag
                cases hq' : eqtO P k' g.type with
                | none => rw [hq'] at hp; cases hp
                | some q' =>
                rw [hq'] at hp
                cases hp
                simp only [List.foldr_cons] at h
                split at h
                · rename_i x y hx1 hy1
                  obtain ⟨v, hv1, hv2⟩ := part_one_ok (P := P) hag hxs hx1
                  obtain ⟨u, hu1, hu2⟩ := part_one_ok (P := P) hag hys hy1
                  have hn : g.name ≠ "_" := by simpa using hname
                  split at h
                  · rename_i he
                    have := (ih _ _ _ _ _ he _ _ hq' d (by omega) _ _ hv2 hu2).1
                    simp only [Op.eqFields, hn, ne_eq, not_false_eq_true, if_true, Sem.run_bind, hv1, hu1, this, Result.andThen_ok, Bool.not_true, Bool.false_eq_true, if_false]
                    exact ihl _ _ h hps
                  · rename_i he
                    cases h
                    have := (ih _ _ _ _ _ he _ _ hq' d (by omega) _ _ hv2 hu2).1
                    simp [Op.eqFields, hn, hv1, hu1, this]
                  · cases h
                · cases h
              · cases hp
          · cases hm
        · cases hm
    · cases h
end Go.Eng
