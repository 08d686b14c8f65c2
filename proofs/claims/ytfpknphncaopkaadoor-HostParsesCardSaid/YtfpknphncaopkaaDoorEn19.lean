/- Regions whose order is drawn: any order does what the text's order does. No condition. -/
import Derived.Test.YtfpknphncaopkaaDoorEn18
namespace Go.Eng
open Go

/-- What an operation of a drawn region gives. -/
def Gives (T : Tab) (cf : CF) (H : Heap) (E : Env) (o : AOper) (v : AV) : Prop :=
  (wantedA E o.guard = some false ∧ v = .und) ∨ (wantedA E o.guard = some true ∧ quietOp T E o.op = true ∧ ∃ H', aop T cf o.op E H = some (v, H'))

/-- The run of a drawn region, by places. -/
theorem runDraw_steps {T : Tab} {cf : CF} {H : Heap} : ∀ (ops : List AOper) (e e' : Env), runDraw T cf ops e H = some e' → ∃ (es : Nat → Env) (vs : Nat → AV), es 0 = e ∧ es ops.length = e' ∧
    ∀ i o, ops[i]? = some o → Gives T cf H (es i) o (vs i) ∧ es (i + 1) = putA (es i) o.dst (vs i)
  | [], e, e', h => by cases h; exact ⟨fun _ => e, fun _ => .unk, rfl, rfl, fun i o h => by simp at h⟩
  | o :: ops, e, e', h => by
    have fin : ∀ v, Gives T cf H e o v → runDraw T cf ops (putA e o.dst v) H = some e' → ∃ (es : Nat → Env) (vs : Nat → AV), es 0 = e ∧ es (o :: ops).length = e' ∧
        ∀ i o', (o :: ops)[i]? = some o' → Gives T cf H (es i) o' (vs i) ∧ es (i + 1) = putA (es i) o'.dst (vs i) := by
      intro v hv hr
      obtain ⟨es, vs, h1, h2, h3⟩ := runDraw_steps ops _ _ hr
      refine ⟨fun i => match i with | 0 => e | i + 1 => es i, fun i => match i with | 0 => v | i + 1 => vs i, rfl, h2, fun i o' ho => ?_⟩
      cases i with
      | zero => simp at ho; subst ho; exact ⟨hv, h1⟩
      | succ i => simp at ho; exact h3 i o' ho
    unfold runDraw at h
    split at h
    · cases h
    · rename_i hw; exact fin .und (.inl ⟨hw, rfl⟩) h
    · rename_i hw
      cases hq : quietOp T e o.op with
      | false => rw [hq] at h; cases h
      | true =>
        rw [hq] at h
        simp only [cond_true] at h
        split at h
        · rename_i v H' ha; exact fin v (.inr ⟨hw, hq, H', ha⟩) h
        · cases h

theorem drawOK_spec {as : List AOper} {ops : Array Oper} (h : drawOK as ops = true) : as.length = ops.size ∧ ∀ (i : Nat) (ai : AOper) (oi : Oper), as[i]? = some ai → ops[i]? = some oi →
    (∀ e ∈ oi.after, Region.binds .any e = true → e.on < i) ∧ ∀ (k : Nat) (ak : AOper) (ok : Oper), as[k]? = some ak → ops[k]? = some ok → i ≠ k → ∀ d, ak.dst = some d → ai.dst ≠ some d ∧
      (d ∈ ai.names → (k < i ∧ ∃ e ∈ oi.after, e.on = k ∧ Region.binds .any e = true) ∨ (i < k ∧ ∃ e ∈ ok.after, e.on = i ∧ Region.binds .any e = true)) := by
  unfold drawOK at h
  simp only [Bool.and_eq_true, beq_iff_eq, List.all_eq_true, List.mem_range] at h
  obtain ⟨hlen, h⟩ := h
  refine ⟨hlen, fun i ai oi hai hoi => ?_⟩
  have hi : i < ops.size := (Array.getElem?_eq_some_iff.1 hoi).1
  have h := h i hi
  rw [hai, hoi] at h
  simp only [Bool.and_eq_true, List.all_eq_true, List.mem_range, Array.all_eq_true_iff_forall_mem, Bool.or_eq_true, Bool.not_eq_true', decide_eq_true_eq] at h
  refine ⟨fun e he hb => (h.1 e he).resolve_left (by simp [hb]), fun k ak ok hak hok hik d hd => ?_⟩
  have hk : k < ops.size := (Array.getElem?_eq_some_iff.1 hok).1
  have h := h.2 k hk
  rw [hak, hok] at h
  simp only [Bool.or_eq_true, beq_iff_eq, hik, false_or, hd, Bool.and_eq_true, bne_iff_ne] at h
  refine ⟨h.1, fun hm => ?_⟩
  have h2 := h.2
  simp only [Bool.not_eq_true', List.contains_eq_mem, hm, decide_true, Bool.true_eq_false, false_or] at h2
  split at h2
  · rename_i hlt
    rw [Array.any_eq_true] at h2
    obtain ⟨j, hj, hh⟩ := h2
    simp only [Bool.and_eq_true, beq_iff_eq] at hh
    exact .inl ⟨hlt, _, Array.getElem_mem hj, hh.1, hh.2⟩
  · rename_i hlt
    rw [Array.any_eq_true] at h2
    obtain ⟨j, hj, hh⟩ := h2
    simp only [Bool.and_eq_true, beq_iff_eq] at hh
    exact .inr ⟨by omega, _, Array.getElem_mem hj, hh.1, hh.2⟩

section
variable {P : Program} {T : Tab} (hT : TabOK P T) {cf : CF} (hcf : CFok P T cf) (hqf : QF T cf) {nt : Nat} {ops : Array Oper} {Q : Exit → Act → World → Prop}

/-- The slots as they stand where the listed operations have run. -/
def EL (as : List AOper) (e e' : Env) (listed : Array Bool) : Env :=
  ((List.range as.length).filterMap fun k => match as[k]? with
    | some a => (match a.dst with | some d => if listed.getD k false = true then some (d, e'.get d) else none | none => none)
    | none => none) ++ e

theorem get_append (l e : Env) (t : Nat) : ((∃ v : AV, (t, v) ∈ l) → Env.get (l ++ e) t = Env.get l t) ∧ ((¬ ∃ v : AV, (t, v) ∈ l) → Env.get (l ++ e) t = e.get t) := by
  induction l with
  | nil => exact ⟨fun h => by simp at h, fun _ => rfl⟩
  | cons p l ih =>
    obtain ⟨d, v⟩ := p
    simp only [List.cons_append, Env.get]
    by_cases hd : d = t
    · subst hd
      simp only [beq_self_eq_true, cond_true]
      exact ⟨fun _ => trivial, fun h => absurd ⟨v, by simp⟩ h⟩
    · have hb : (d == t) = false := by simpa using hd
      simp only [hb, cond_false]
      refine ⟨fun h => ih.1 ?_, fun h => ih.2 ?_⟩
      · obtain ⟨u, hu⟩ := h
        simp at hu
        rcases hu with ⟨rfl, _⟩ | hu
        · exact absurd rfl hd
        · exact ⟨u, hu⟩
      · rintro ⟨u, hu⟩
        exact h ⟨u, by simp [hu]⟩

theorem get_const (l : Env) (t : Nat) (u : AV) (h : ∀ v, (t, v) ∈ l → v = u) (hx : ∃ v, (t, v) ∈ l) : Env.get l t = u := by
  induction l with
  | nil => obtain ⟨v, hv⟩ := hx; simp at hv
  | cons p l ih =>
    obtain ⟨d, v⟩ := p
    simp only [Env.get]
    by_cases hd : d = t
    · subst hd
      simp only [beq_self_eq_true, cond_true]
      exact h v (by simp)
    · have hb : (d == t) = false := by simpa using hd
      simp only [hb, cond_false]
      refine ih (fun v hv => h v (by simp [hv])) ?_
      obtain ⟨w, hw⟩ := hx
      simp at hw
      rcases hw with ⟨rfl, _⟩ | hw
      · exact absurd rfl hd
      · exact ⟨w, hw⟩

theorem EL_get (as : List AOper) (e e' : Env) (listed : Array Bool) (t : Nat) :
    ((∃ (k : Nat) (a : AOper), as[k]? = some a ∧ a.dst = some t ∧ listed.getD k false = true) → (EL as e e' listed).get t = e'.get t) ∧
    ((¬ ∃ (k : Nat) (a : AOper), as[k]? = some a ∧ a.dst = some t ∧ listed.getD k false = true) → (EL as e e' listed).get t = e.get t) := by
  have mem : ∀ v, (t, v) ∈ ((List.range as.length).filterMap fun k => match as[k]? with
    | some a => (match a.dst with | some d => if listed.getD k false = true then some (d, e'.get d) else none | none => none)
    | none => none) ↔ (∃ (k : Nat) (a : AOper), as[k]? = some a ∧ a.dst = some t ∧ listed.getD k false = true) ∧ v = e'.get t := by
    intro v
    rw [List.mem_filterMap]
    constructor
    · rintro ⟨k, hk, hh⟩
      split at hh
      · rename_i a ha
        split at hh
        · rename_i d hd
          split at hh
          · rename_i hl
            simp at hh
            obtain ⟨rfl, rfl⟩ := hh
            exact ⟨⟨k, a, ha, hd, hl⟩, rfl⟩
          · cases hh
        · cases hh
      · cases hh
    · rintro ⟨⟨k, a, ha, hd, hl⟩, rfl⟩
      refine ⟨k, List.mem_range.2 (List.getElem?_eq_some_iff.1 ha).1, ?_⟩
      simp only [ha, hd, hl, if_true]
  constructor
  · intro h
    unfold EL
    rw [(get_append _ _ _).1 ⟨e'.get t, (mem _).2 ⟨h, rfl⟩⟩]
    exact get_const _ _ _ (fun v hv => ((mem v).1 hv).2) ⟨e'.get t, (mem _).2 ⟨h, rfl⟩⟩
  · intro h
    unfold EL
    rw [(get_append _ _ _).2 (by rintro ⟨v, hv⟩; exact h ((mem v).1 hv).1)]

theorem EnvR.same {c : Cx} {e e' : Env} {tmps : Array Value} (h : EnvR c e tmps) (hs : ∀ t, e.get t = e'.get t) : EnvR c e' tmps := fun t => by rw [← hs]; exact h t

/-- The slots after 'i' operations in the text's order. -/
theorem es_get {as : List AOper} {e e' : Env} {es : Nat → Env} {vs : Nat → AV} (h0 : es 0 = e) (hn : es as.length = e') (hs : ∀ i o, as[i]? = some o → es (i + 1) = putA (es i) o.dst (vs i))
    (hu : ∀ (i k : Nat) (a b : AOper), as[i]? = some a → as[k]? = some b → i ≠ k → ∀ d, b.dst = some d → a.dst ≠ some d) (t : Nat) :
    (∀ (k : Nat) (a : AOper), as[k]? = some a → a.dst = some t → e'.get t = vs k ∧ ∀ i, i ≤ as.length → (es i).get t = if k < i then vs k else e.get t) ∧
    ((¬ ∃ (k : Nat) (a : AOper), as[k]? = some a ∧ a.dst = some t) → ∀ i, i ≤ as.length → (es i).get t = e.get t) := by
  have key : ∀ (k : Nat) (a : AOper), as[k]? = some a → a.dst = some t → ∀ i, i ≤ as.length → (es i).get t = if k < i then vs k else e.get t := by
    intro k a ha hd i
    induction i with
    | zero => intro _; rw [h0]; rfl
    | succ i ih =>
      intro hi
      have hlt : i < as.length := by omega
      have ho := List.getElem?_eq_getElem hlt
      rw [hs i _ ho]
      by_cases hik : i = k
      · subst hik
        rw [ho] at ha; cases ha
        rw [hd, get_put]
        simp
      · have hne := hu i k _ a ho ha hik t hd
        have hg : (putA (es i) as[i].dst (vs i)).get t = (es i).get t := by
          cases hdd : as[i].dst with
          | none => rfl
          | some d =>
            rw [get_put]
            have : (d == t) = false := by
              simp only [beq_eq_false_iff_ne]
              rintro rfl
              exact hne hdd
            rw [this, cond_false]
        rw [hg, ih (by omega)]
        by_cases h1 : k < i
        · rw [if_pos h1, if_pos (by omega)]
        · rw [if_neg h1, if_neg (by omega)]
  refine ⟨fun k a ha hd => ⟨?_, key k a ha hd⟩, fun hno i => ?_⟩
  · rw [← hn, key k a ha hd _ (Nat.le_refl _), if_pos (List.getElem?_eq_some_iff.1 ha).1]
  · induction i with
    | zero => intro _; rw [h0]
    | succ i ih =>
      intro hi
      have ho := List.getElem?_eq_getElem (show i < as.length by omega)
      rw [hs i _ ho]
      cases hdd : as[i].dst with
      | none => exact ih (by omega)
      | some d =>
        rw [get_put]
        have : (d == t) = false := by
          simp only [beq_eq_false_iff_ne]
          rintro rfl
          exact hno ⟨i, _, ho, hdd⟩
        rw [this, cond_false]
        exact ih (by omega)
end
end Go.Eng
