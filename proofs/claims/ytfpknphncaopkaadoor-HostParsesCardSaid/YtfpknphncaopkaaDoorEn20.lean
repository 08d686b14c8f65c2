/- Regions whose order is drawn, and all code. No condition. -/
import Derived.Test.YtfpknphncaopkaaDoorEn19
namespace Go.Eng
open Go

theorem countP_lt {α : Type} {p q : α → Bool} : ∀ {l : List α}, (∀ x ∈ l, q x = true → p x = true) → (∃ x ∈ l, p x = true ∧ q x = false) → l.countP q < l.countP p
  | [], _, h => by obtain ⟨x, hx, _⟩ := h; simp at hx
  | y :: l, hq, h => by
    have hle : l.countP q ≤ l.countP p := List.countP_mono_left fun x hx => hq x (by simp [hx])
    rw [List.countP_cons, List.countP_cons]
    obtain ⟨x, hx, h1, h2⟩ := h
    simp at hx
    rcases hx with rfl | hx
    · simp only [h1, h2, if_true, Bool.false_eq_true, if_false]; omega
    · have := countP_lt (l := l) (fun x hx => hq x (by simp [hx])) ⟨x, hx, h1, h2⟩
      have hy := hq y (by simp)
      cases hpy : p y <;> cases hqy : q y <;> simp_all <;> omega

def left (n : Nat) (listed : Array Bool) : Nat := (List.range n).countP fun j => !listed.getD j true

section
variable {P : Program} {T : Tab} (hT : TabOK P T) {cf : CF} (hcf : CFok P T cf) (hqf : QF T cf) {nt : Nat} {ops : Array Oper} {Q : Exit → Act → World → Prop}

include hT hcf hqf in
theorem draw_any {as : List AOper} (has : as = ops.toList.map (trOper P nt ops)) (hd : drawOK as ops = true) {H : Heap} {e e' : Env} (hr : runDraw T cf as e H = some e') {c0 : Cx} {a0 : Act}
    (hQ : ∀ (a' : Act) (c' : Cx), Ext c0 c' → OK T c' → c'.A = H → EnvR c' e' a'.tmps → nt ≤ a'.tmps.size → a'.defers = a0.defers → Q .normal a' c'.w) :
    ∀ (fuel : Nat) (listed : Array Bool) (c : Cx) (a : Act), Ext c0 c → OK T c → c.A = H → EnvR c (EL as e e' listed) a.tmps → nt ≤ a.tmps.size → a.defers = a0.defers → listed.size = ops.size →
      (∀ (k : Nat) (o : Oper), ops[k]? = some o → listed.getD k false = true → ∀ ed ∈ o.after, Region.binds .any ed = true → listed.getD ed.on false = true) → left ops.size listed ≤ fuel →
      wpAny P .any ops Q fuel listed a c.w := by
  obtain ⟨es, vs, h0, hn, hst⟩ := runDraw_steps as e e' hr
  obtain ⟨hlen, hsp⟩ := drawOK_spec hd
  have hget : ∀ i, (as[i]?) = (ops[i]?).map (trOper P nt ops) := fun i => by rw [has, List.getElem?_map, Array.getElem?_toList]
  have hu : ∀ (i k : Nat) (x b : AOper), as[i]? = some x → as[k]? = some b → i ≠ k → ∀ d, b.dst = some d → x.dst ≠ some d := by
    intro i k x b hx hb hik d hbd
    rw [hget] at hx hb
    cases hoi : ops[i]? with
    | none => rw [hoi] at hx; cases hx
    | some oi =>
      cases hok : ops[k]? with
      | none => rw [hok] at hb; cases hb
      | some ok =>
        rw [hoi] at hx; rw [hok] at hb
        cases hx; cases hb
        exact ((hsp i _ oi (by rw [hget, hoi]; rfl) hoi).2 k _ ok (by rw [hget, hok]; rfl) hok hik d hbd).1
  have heg := fun t => es_get h0 hn (fun i o ho => (hst i o ho).2) hu t
  have gd : ∀ (listed : Array Bool) (j : Nat), listed.size = ops.size → j < ops.size → listed.getD j true = listed.getD j false := fun listed j hs hj => by
    simp only [Array.getD_eq_getD_getElem?]
    rw [Array.getElem?_eq_getElem (by omega)]; rfl
  have done : ∀ (listed : Array Bool) (c : Cx) (a : Act), Ext c0 c → OK T c → c.A = H → EnvR c (EL as e e' listed) a.tmps → nt ≤ a.tmps.size → a.defers = a0.defers → listed.size = ops.size → Region.ready .any ops listed = [] → Q .normal a c.w := by
    intro listed c a hE hc hA he hsz hdf hls hready
    have hall : ∀ k, k < ops.size → listed.getD k false = true := by
      intro k
      induction k using Nat.strongRecOn with
      | _ k ih =>
        intro hk
        cases hl : listed.getD k false with
        | true => rfl
        | false =>
          exfalso
          have hok := Array.getElem?_eq_getElem hk
          have : k ∈ Region.ready .any ops listed := by
            rw [mem_ready]
            refine ⟨by rw [gd _ _ hls hk]; exact hl, _, hok, fun ed hed hbd => ?_⟩
            have hlt := (hsp k _ _ (by rw [hget, hok]; rfl) hok).1 ed hed hbd
            exact ih ed.on hlt (by omega)
          rw [hready] at this; cases this
    refine hQ a c hE hc hA (he.same fun t => ?_) hsz hdf
    by_cases hx : ∃ (k : Nat) (x : AOper), as[k]? = some x ∧ x.dst = some t
    · obtain ⟨k, x, hx1, hx2⟩ := hx
      exact (EL_get as e e' listed t).1 ⟨k, x, hx1, hx2, hall k (by rw [← hlen]; exact (List.getElem?_eq_some_iff.1 hx1).1)⟩
    · rw [(EL_get as e e' listed t).2 (by rintro ⟨k, x, h1, h2, _⟩; exact hx ⟨k, x, h1, h2⟩), ← hn]
      exact ((heg t).2 hx _ (Nat.le_refl _)).symm
  intro fuel
  induction fuel with
  | zero =>
    intro listed c a hE hc hA he hsz hdf hls hcl hf
    have hready : Region.ready .any ops listed = [] := by
      rw [List.eq_nil_iff_forall_not_mem]
      intro k hk
      rw [mem_ready] at hk
      obtain ⟨hl, o, ho, _⟩ := hk
      have hlt := (Array.getElem?_eq_some_iff.1 ho).1
      have : left ops.size listed = 0 := by omega
      unfold left at this
      rw [List.countP_eq_zero] at this
      have := this k (List.mem_range.2 hlt)
      simp [hl] at this
    exact ⟨hready, done listed c a hE hc hA he hsz hdf hls hready⟩
  | succ fuel ih =>
    intro listed c a hE hc hA he hsz hdf hls hcl hf
    refine ⟨fun hready => done listed c a hE hc hA he hsz hdf hls hready, fun i hi => ?_⟩
    rw [mem_ready] at hi
    obtain ⟨hl, o, ho, hdep⟩ := hi
    have hilt := (Array.getElem?_eq_some_iff.1 ho).1
    have hai : as[i]? = some (trOper P nt ops o) := by rw [hget, ho]; rfl
    have hlf : listed.getD i false = false := by rw [← gd _ _ hls hilt]; exact hl
    obtain ⟨hg, hnext⟩ := hst i _ hai
    -- the slots that it reads stand as in the text's order
    have hsame : Same (trOper P nt ops o).names (EL as e e' listed) (es i) := by
      intro t ht
      by_cases hx : ∃ (k : Nat) (x : AOper), as[k]? = some x ∧ x.dst = some t
      · obtain ⟨k, x, hx1, hx2⟩ := hx
        have huniq : ∀ (k' : Nat) (x' : AOper), as[k']? = some x' → x'.dst = some t → k' = k := fun k' x' h1 h2 => by
          by_cases e1 : k' = k
          · exact e1
          · exact absurd h2 (hu k' k x' x h1 hx1 e1 t hx2)
        have hes := ((heg t).1 k x hx1 hx2).2 i (by rw [hlen]; omega)
        have hek := ((heg t).1 k x hx1 hx2).1
        cases hlk : listed.getD k false with
        | true =>
          rw [(EL_get as e e' listed t).1 ⟨k, x, hx1, hx2, hlk⟩, hek, hes]
          by_cases hki : k < i
          · rw [if_pos hki]
          · exfalso
            have hok := hx1
            rw [hget] at hok
            cases hok' : ops[k]? with
            | none => rw [hok'] at hok; cases hok
            | some ok =>
              rw [hok'] at hok; cases hok
              by_cases hik : i = k
              · subst hik; rw [hlf] at hlk; cases hlk
              · rcases ((hsp i _ o hai ho).2 k _ ok hx1 hok' hik t hx2).2 ht with ⟨h1, _⟩ | ⟨_, ed, hed, hon, hb⟩
                · exact hki h1
                · have := hcl k ok hok' hlk ed hed hb
                  rw [hon, hlf] at this; cases this
        | false =>
          have hno : ¬ ∃ (k' : Nat) (x' : AOper), as[k']? = some x' ∧ x'.dst = some t ∧ listed.getD k' false = true := by
            rintro ⟨k', x', h1, h2, h3⟩
            rw [huniq k' x' h1 h2, hlk] at h3; cases h3
          rw [(EL_get as e e' listed t).2 hno, hes]
          by_cases hki : k < i
          · exfalso
            have hok := hx1
            rw [hget] at hok
            cases hok' : ops[k]? with
            | none => rw [hok'] at hok; cases hok
            | some ok =>
              rw [hok'] at hok; cases hok
              rcases ((hsp i _ o hai ho).2 k _ ok hx1 hok' (by omega) t hx2).2 ht with ⟨_, ed, hed, hon, hb⟩ | ⟨h1, _⟩
              · have := hdep ed hed hb
                rw [hon, hlk] at this; cases this
              · omega
          · rw [if_neg hki]
      · rw [(EL_get as e e' listed t).2 (by rintro ⟨k, x, h1, h2, _⟩; exact hx ⟨k, x, h1, h2⟩)]
        exact ((heg t).2 hx i (by rw [hlen]; omega)).symm
    -- afterwards
    have hnew : ∀ t, (putA (EL as e e' listed) (trOper P nt ops o).dst (vs i)).get t = (EL as e e' (listed.setIfInBounds i true)).get t := by
      intro t
      have hother : ∀ k, k ≠ i → (listed.setIfInBounds i true).getD k false = listed.getD k false := fun k hk => getD_set_ne false (fun e => hk e.symm)
      have hself : (listed.setIfInBounds i true).getD i false = true := by
        simp only [Array.getD_eq_getD_getElem?]
        rw [Array.getElem?_setIfInBounds_self_of_lt (by omega)]; rfl
      by_cases hdt : (trOper P nt ops o).dst = some t
      · rw [hdt, get_put]
        simp only [beq_self_eq_true, cond_true]
        rw [(EL_get as e e' _ t).1 ⟨i, _, hai, hdt, hself⟩]
        exact (((heg t).1 i _ hai hdt).1).symm
      · have hg1 : (putA (EL as e e' listed) (trOper P nt ops o).dst (vs i)).get t = (EL as e e' listed).get t := by
          cases hdd : (trOper P nt ops o).dst with
          | none => rfl
          | some d =>
            rw [get_put]
            have : (d == t) = false := by
              simp only [beq_eq_false_iff_ne]
              rintro rfl
              exact hdt hdd
            rw [this, cond_false]
        rw [hg1]
        by_cases hx : ∃ (k : Nat) (x : AOper), as[k]? = some x ∧ x.dst = some t ∧ listed.getD k false = true
        · rw [(EL_get as e e' listed t).1 hx]
          obtain ⟨k, x, h1, h2, h3⟩ := hx
          refine ((EL_get as e e' _ t).1 ⟨k, x, h1, h2, ?_⟩).symm
          rw [hother k (by rintro rfl; rw [hai] at h1; cases h1; exact hdt h2)]; exact h3
        · rw [(EL_get as e e' listed t).2 hx]
          refine ((EL_get as e e' _ t).2 ?_).symm
          rintro ⟨k, x, h1, h2, h3⟩
          rw [hother k (by rintro rfl; rw [hai] at h1; cases h1; exact hdt h2)] at h3
          exact hx ⟨k, x, h1, h2, h3⟩
    have hcl' : ∀ (k : Nat) (o' : Oper), ops[k]? = some o' → (listed.setIfInBounds i true).getD k false = true → ∀ ed ∈ o'.after, Region.binds .any ed = true → (listed.setIfInBounds i true).getD ed.on false = true := by
      intro k o' ho' hlk ed hed hb
      have hmono : ∀ j, listed.getD j false = true → (listed.setIfInBounds i true).getD j false = true := fun j hj => by
        by_cases e1 : i = j
        · subst e1; rw [hlf] at hj; cases hj
        · rw [getD_set_ne false e1]; exact hj
      by_cases hki : i = k
      · subst hki
        rw [ho] at ho'; cases ho'
        exact hmono _ (hdep ed hed hb)
      · rw [getD_set_ne false hki] at hlk
        exact hmono _ (hcl k o' ho' hlk ed hed hb)
    have hf' : left ops.size (listed.setIfInBounds i true) ≤ fuel := by
      have : left ops.size (listed.setIfInBounds i true) < left ops.size listed := by
        refine countP_lt (fun x hx hq => ?_) ⟨i, List.mem_range.2 hilt, by simp [hl], ?_⟩
        · by_cases e1 : i = x
          · subst e1; simp [hl]
          · rw [getD_set_ne true e1] at hq; exact hq
        · simp only [Array.getD_eq_getD_getElem?]
          rw [Array.getElem?_setIfInBounds_self_of_lt (by omega)]; rfl
      omega
    unfold wpOp
    rw [ho]
    simp only
    rcases hg with ⟨hw, hv⟩ | ⟨hw, hq, H1, ha⟩
    · rw [← wantedA_congr hsame] at hw
      rw [wanted_ok he hw]
      simp only [Bool.false_eq_true, if_false]
      refine ih _ c _ hE hc hA ((envR_und he o.dst).same fun t => ?_) (by rw [put_size]; exact hsz) (by rw [put_defers]; exact hdf) (by simpa using hls) hcl' hf'
      rw [← hv]; exact hnew t
    · rw [← wantedA_congr hsame] at hw
      rw [← (aop_congr (T := T) (cf := cf) (H := H) _ (fun t ht => hsame t (by simp [AOper.names, ht]))).1] at ha
      rw [← (aop_congr (T := T) (cf := cf) (H := H) _ (fun t ht => hsame t (by simp [AOper.names, ht]))).2] at hq
      have hH := quiet_heap hqf hq ha
      subst hH
      rw [wanted_ok he hw]
      simp only [if_true]
      refine .inl ?_
      have ha' : (∀ x, o.dst = some x → x < nt) ∧ aop T cf ((trOp P o.op).getD .fail) (EL as e e' listed) c.A = some (vs i, H1) := by
        rw [hA]
        unfold trOper at ha
        simp only at ha
        cases hod : o.dst with
        | none =>
          rw [hod] at ha
          simp only [if_true] at ha
          exact ⟨fun x hx => (by cases hx), ha⟩
        | some d =>
          rw [hod] at ha
          by_cases hd : d < nt
          · simp only [hd, decide_true, if_true] at ha
            exact ⟨fun x hx => (by cases hx; exact hd), ha⟩
          · simp only [hd, decide_false, Bool.false_eq_true, if_false] at ha
            cases ha
      refine op_ok hT hc he hcf ha'.2 a o _ Q fun y c' hE' hW' hA' hv => ?_
      exact ih _ c' _ (hE.trans hE') (hc.ext hE' hW') hA' ((envR_put (he.ext hE') (fun x hx => Nat.lt_of_lt_of_le (ha'.1 x hx) hsz) hv).same hnew) (by rw [put_size]; exact hsz) (by rw [put_defers]; exact hdf) (by simpa using hls) hcl' hf'

include hT hcf hqf in
theorem draw_ok {id : Nat} (hd : (drawOK (ops.toList.map (trOper P nt ops)) ops && P.follows .mixedOrders) = true) {e e' : Env} {c : Cx} (hc : OK T c) {a : Act} (he : EnvR c e a.tmps) (hsz : nt ≤ a.tmps.size)
    (hr : runDraw T cf (ops.toList.map (trOper P nt ops)) e c.A = some e') (hQ : Post T nt c a .normal e' c.A Q) : (Code.region id ops true).wp P Q a c.w := by
  simp only [Bool.and_eq_true] at hd
  refine wp_region_any hd.2 ?_
  obtain ⟨hE, hW⟩ := world_ok hc.wr (w' := { c.w with drawn := c.w.drawn + 1 }) rfl rfl rfl
  refine draw_any hT hcf hqf rfl hd.1 hr (c0 := c) (a0 := a) hQ ops.size _ (c.setW { c.w with drawn := c.w.drawn + 1 }) a hE (hc.ext hE hW) rfl ?_ hsz rfl (by simp) ?_ ?_
  · refine (he.ext hE).same fun t => ((EL_get _ e e' _ t).2 ?_).symm
    rintro ⟨k, x, h1, h2, h3⟩
    have : k < ops.size := by have := (List.getElem?_eq_some_iff.1 h1).1; simpa using this
    simp [Array.getD_eq_getD_getElem?, this] at h3
  · intro k o ho hl
    have := (Array.getElem?_eq_some_iff.1 ho).1
    simp [Array.getD_eq_getD_getElem?, this] at hl
  · unfold left
    exact Nat.le_trans (List.countP_le_length) (by simp)
end
end Go.Eng
