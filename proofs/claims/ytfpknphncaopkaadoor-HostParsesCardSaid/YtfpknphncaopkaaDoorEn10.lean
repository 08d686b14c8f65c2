/- The operations, one by one: appends, copies. No condition. -/
import Derived.Test.YtfpknphncaopkaaDoorEn9
namespace Go.Eng
open Go

theorem cell_of_heap' {w w' : World} {a : Addr} (h : w'.heap[a.block]? = w.heap[a.block]?) : w'.cell? a = w.cell? a := by
  simp only [World.cell?, h]

theorem reads_heap {P : Program} {w w' : World} (h : w'.heap = w.heap) {b o : Nat} {vs : List Value} (hv : ∀ (k : Nat) (v : Value), vs[k]? = some v → w.cell? ⟨b, o + k, none⟩ = some v) :
    (loadCells ⟨b, o, none⟩ vs.length).run P w' = .ok vs.toArray w' :=
  run_loadCells' fun k v hk => by rw [← hv k v hk]; exact cell_of_heap (by rw [h])

theorem reads_sp {P : Program} {w w' : World} {cells : List AV} {vs : List Value} {sp : Option Nat} (hsp : cells ≠ [] → sp = none) (hl : cells.length = vs.length) (h : w'.heap = w.heap) {b o : Nat} (hv : ∀ (k : Nat) (v : Value), vs[k]? = some v → w.cell? ⟨b, o + k, none⟩ = some v) :
    (loadCells ⟨b, o, sp⟩ vs.length).run P w' = .ok vs.toArray w' := by
  by_cases hc : cells = []
  · subst hc
    obtain rfl : vs = [] := List.eq_nil_of_length_eq_zero (by simpa using hl.symm)
    simp [loadCells, loadCellsFrom]
  · rw [hsp hc]; exact reads_heap h hv

theorem bcells_vr (c : Cx) (s : List UInt8) : VRs c (bcells s) (s.map fun b => .int .u8 b.toNat) := VRs.map fun _ _ => .int _ _

/-- A source of elements: how many, and their cells. -/
theorem view_ok {P : Program} {T : Tab} {c : Cx} (hc : OK T c) {e : Nat} {x : AV} {y : Value} (hx : VR c x y) {m : Nat} {ys : List AV} (h : viewOf c.A e x = some (m, ys)) :
    ys.length = m * e ∧ ∃ vs : List Value, VRs c ys vs ∧ ∀ w', w'.heap = c.w.heap → (Builtin.lenOf y).run P w' = .ok m w' ∧ (Builtin.firstCells e m y).run P w' = .ok vs.toArray w' := by
  unfold viewOf at h
  split at h
  · cases hx; cases h
    exact ⟨by simp, [], .nil c, fun w' _ => ⟨by simp [Builtin.lenOf], by simp [Builtin.firstCells]⟩⟩
  · rename_i s
    cases hx
    split at h
    · rename_i he; subst he; cases h
      refine ⟨by simp [bcells], _, bcells_vr c s, fun w' _ => ⟨by simp [Builtin.lenOf, bytes_size], ?_⟩⟩
      simp only [Builtin.firstCells, Sem.run_pure]
      rw [extract_list]
      simp
    · cases h
  · rename_i full n e' cs
    split at h
    · rename_i he; subst he; cases h
      cases hx with
      | sl full n e cells vs b o cap sp hsp hn hf0 he hlen hr hp hcc =>
        refine ⟨he, vs, ⟨hlen, hr⟩, fun w' hw => ⟨by simp [Builtin.lenOf], ?_⟩⟩
        simp only [Builtin.firstCells]
        rw [show m * e' = vs.length by omega]
        exact reads_sp hsp hlen hw hcc
    · cases h
  · rename_i i off n e' g
    split at h
    · rename_i he; subst he
      cases hh : hget c.A i off (n * e') g with
      | none => rw [hh] at h; cases h
      | some cs =>
        rw [hh] at h; cases h
        obtain ⟨hl, vs, h2, h3⟩ := row_cells hc.wr hh
        obtain ⟨o', ho', hg', _, _⟩ := hget_some hh
        cases hx with
        | ms i off n e g ob a cap h1 hg hn hs ha hroom =>
          obtain rfl : ob = o' := Option.some.inj (h1.symm.trans ho')
          refine ⟨hl, vs, h2, fun w' hw => ⟨by simp [Builtin.lenOf], ?_⟩⟩
          simp only [Builtin.firstCells]
          by_cases hcap : cap = 0
          · have hm0 : m = 0 := by omega
            subst hm0
            have : vs = [] := by
              have := h2.len; simp at hl; rw [hl] at this; exact List.eq_nil_of_length_eq_zero (by simpa using this.symm)
            subst this
            simp [loadCells, loadCellsFrom]
          · rw [ha hg' hcap, show m * e' = vs.length by rw [← h2.len, hl]]
            exact reads_heap hw h3
    · cases h
  · cases h

/-! ### append -/
theorem growBy_le (need : Nat) : ∀ (r c : Nat), c ≤ 2 * need + 192 → Builtin.growBy need r c ≤ 2 * need + 192
  | 0, c, h => h
  | r + 1, c, h => by
    unfold Builtin.growBy
    split
    · exact h
    · exact growBy_le need r _ (by omega)
theorem nextslicecap_le {need cap : Nat} (h : cap < need) : Builtin.nextslicecap need cap ≤ 2 * need + 192 := by
  unfold Builtin.nextslicecap
  split
  · omega
  · split
    · omega
    · exact growBy_le need 4 cap (by omega)

/-- What an append asks of the types. -/
structure ElemOK (P : Program) (el : TypeId) (e bytes : Nat) : Prop where
  ex : ∃ i z, P.info? el = some i ∧ i.size = e ∧ i.bytes = bytes ∧ i.zero = some z ∧ z.cells.size = e
  pos : e ≠ 0

theorem ElemOK.size {P : Program} {el : TypeId} {e bytes : Nat} (h : ElemOK P el e bytes) (w : World) : (sizeOf el).run P w = .ok e w := by
  obtain ⟨i, z, h1, h2, _⟩ := h.ex; simp [sizeOf, typeInfo, h1, h2]
theorem ElemOK.info {P : Program} {el : TypeId} {e bytes : Nat} (h : ElemOK P el e bytes) (w : World) : ∃ i, (typeInfo el).run P w = .ok i w ∧ i.bytes = bytes := by
  obtain ⟨i, z, h1, h2, h3, _⟩ := h.ex; exact ⟨i, by simp [typeInfo, h1], h3⟩
theorem ElemOK.zero {P : Program} {el : TypeId} {e bytes : Nat} (h : ElemOK P el e bytes) : ∃ z, (∀ w, (zeroValue el).run P w = .ok z w) ∧ z.cells.size = e := by
  obtain ⟨i, z, h1, h2, h3, h4, h5⟩ := h.ex; exact ⟨z, fun w => by simp [zeroValue, typeInfo, h1, h4], h5⟩

theorem run_append_in {P : Program} {w : World} {sT xT ty el : TypeId} {e bytes : Nat} (hel : ElemOK P el e bytes) (hs : P.underlying sT = some (.slice el)) {d : TypeDesc} (hx : P.underlying xT = some d) (hd : ∀ k, d ≠ .int k)
    {base : Option Addr} {n cap m : Nat} {y : Value} {vs : List Value} (hl : (Builtin.lenOf y).run P w = .ok m w) (hv : (Builtin.firstCells e m y).run P w = .ok vs.toArray w) (hle : n + m ≤ cap) :
    (Builtin.append_ #[sT, xT] ty #[.slice base n cap, y]).run P w = match base with
      | some a => ((storeCells (a.add (n * e)) vs).run P w).andThen fun _ w' => .ok (.slice (some a) (n + m) cap) w'
      | none => .ok (.slice none (n + m) cap) w := by
  cases d with
  | int k => exact absurd rfl (hd k)
  | _ =>
    cases base <;> simp only [Builtin.append_, List.getElem?_toArray, List.getElem?_cons_zero, List.getElem?_cons_succ, Sem.run_bind, run_underlying hs, run_underlying hx, Result.andThen_ok, hel.size, Bool.false_eq_true, if_false, hl, hle, if_true, Bool.not_false, hv, Sem.run_pure]

theorem run_append_out {P : Program} {w : World} {sT xT ty el : TypeId} {e bytes : Nat} (hel : ElemOK P el e bytes) (hs : P.underlying sT = some (.slice el)) {d : TypeDesc} (hx : P.underlying xT = some d) (hd : ∀ k, d ≠ .int k)
    {base : Option Addr} {n cap m : Nat} {y : Value} {us vs : List Value} (hl : (Builtin.lenOf y).run P w = .ok m w) (hu : ∀ w', w'.heap = w.heap → (Builtin.firstCells e n (.slice base n cap)).run P w' = .ok us.toArray w')
    (hv : ∀ w', w'.heap = w.heap → (Builtin.firstCells e m y).run P w' = .ok vs.toArray w') (hgt : cap < n + m) (hlim : (n + m) * (bytes + 1) ≤ LIM) :
    ∃ (nc : Nat) (rest : List Value), n + m ≤ nc ∧ rest.length = (nc - (n + m)) * e ∧
      ∃ w' : World, w'.heap = w.heap.push (.cells (us ++ vs ++ rest).toArray el) ∧ w'.os = w.os ∧ w'.output = w.output ∧ (Builtin.append_ #[sT, xT] ty #[.slice base n cap, y]).run P w = .ok (.slice (some ⟨w.heap.size, 0, none⟩) (n + m) nc) w' := by
  obtain ⟨z, hz1, hz2⟩ := hel.zero
  obtain ⟨i, z', hi1, hi2, hi3, hi4, hi5⟩ := hel.ex
  have hinfo : ∀ w : World, (typeInfo el).run P w = .ok i w := fun w => by simp [typeInfo, hi1]
  let nc := (Question.appendCap (n + m) cap el).cut (w.tape w.drawn (Question.appendCap (n + m) cap el))
  refine ⟨nc, (Builtin.zeroCells z.cells (nc - (n + m))).toList, by simp [nc, Question.cut], by simp [Builtin.zeroCells, hz2],
    { w with drawn := w.drawn + 1, heap := w.heap.push (.cells (us ++ vs ++ (Builtin.zeroCells z.cells (nc - (n + m))).toList).toArray el) }, rfl, rfl, rfl, ?_⟩
  have hb : (n + m) * bytes ≤ LIM := Nat.le_trans (Nat.mul_le_mul_left _ (by omega)) hlim
  have hnm : n + m ≤ LIM := Nat.le_trans (by rw [Nat.mul_succ]; omega) hlim
  have hpos : 1 ≤ n + m := by omega
  have hbytes : bytes ≤ LIM := Nat.le_trans (by calc bytes = 1 * bytes := by omega
                                               _ ≤ (n + m) * bytes := Nat.mul_le_mul_right _ hpos) hb
  have h1 : ¬ ((((n + m : Nat) : Int) > IntKind.i64.max) ∧ (False ∨ i.bytes = 0)) := by
    have : IntKind.i64.max = 9223372036854775807 := by decide
    rw [this]; unfold LIM at hnm; omega
  have h2 : ¬ (Builtin.nextslicecap (n + m) cap * i.bytes > 2 ^ 48) := by
    rw [hi3]
    have hle := Nat.mul_le_mul_right bytes (nextslicecap_le hgt)
    have : (2 * (n + m) + 192) * bytes = 2 * ((n + m) * bytes) + 192 * bytes := by rw [Nat.add_mul, Nat.mul_assoc]
    unfold LIM at hb hbytes
    omega
  have hforced : (Question.appendCap (n + m) cap el).forced = false := rfl
  have hnle : ¬ (n + m ≤ cap) := by omega
  have harr : ∀ Z : Array Value, us.toArray ++ vs.toArray ++ Z = (us ++ vs ++ Z.toList).toArray := fun Z => by apply Array.ext'; simp
  have hu' := hu { w with drawn := w.drawn + 1 } rfl
  have hv' := hv { w with drawn := w.drawn + 1 } rfl
  cases d with
  | int k => exact absurd rfl (hd k)
  | _ =>
    simp only [Builtin.append_, List.getElem?_toArray, List.getElem?_cons_zero, List.getElem?_cons_succ, Sem.run_bind, run_underlying hs, run_underlying hx, Result.andThen_ok, hel.size, Bool.false_eq_true, if_false, hl, hnle, Bool.not_false, if_true,
      hinfo, Sem.run_ite, h1, h2, run_choose, hforced, run_askRoom, hu', hv', hz1, newRow, run_newObj, Sem.run_pure]
    rw [harr]

/-- New cells in a fresh row. -/
theorem append_fresh {P : Program} {T : Tab} {c : Cx} (hc : OK T c) {sT xT ty el : TypeId} {e bytes : Nat} (hel : ElemOK P el e bytes) (hs : P.underlying sT = some (.slice el)) {d : TypeDesc} (hx : P.underlying xT = some d) (hd : ∀ k, d ≠ .int k)
    {base : Option Addr} {n cap m : Nat} {y : Value} {xs ys : List AV} {us vs : List Value} (hxl : xs.length = n * e) (hyl : ys.length = m * e) (hxu : VRs c xs us) (hyv : VRs c ys vs)
    (hl : (Builtin.lenOf y).run P c.w = .ok m c.w) (hu : ∀ w', w'.heap = c.w.heap → (Builtin.firstCells e n (.slice base n cap)).run P w' = .ok us.toArray w')
    (hv : ∀ w', w'.heap = c.w.heap → (Builtin.firstCells e m y).run P w' = .ok vs.toArray w') (hgt : cap < n + m) (hlim : (n + m) * (bytes + 1) ≤ LIM) :
    DoesV P (Builtin.append_ #[sT, xT] ty #[.slice base n cap, y]) c (.ms c.A.length 0 (n + m) e 0) (hnew c.A (xs ++ ys)) := by
  obtain ⟨nc, rest, h1, h2, w', hw, hos, hout, h3⟩ := run_append_out (P := P) (w := c.w) (ty := ty) hel hs hx hd hl hu hv hgt hlim
  have hrel := hxu.append hyv
  have hn := new_ok hc.wr hc.fr (cs := xs ++ ys) (vs := (us ++ vs ++ rest).toArray) (t := el) (fr := (0, 0)) (w' := w') hw hos hout (fun k _ => by simp) (fun k a hk => by
    obtain ⟨v, hv1, hv2⟩ := hrel.get hk
    refine ⟨v, ?_, hv2⟩
    simp only [List.getElem?_toArray]
    rw [List.getElem?_append_left (List.getElem?_eq_some_iff.1 hv1).1]; exact hv1)
  refine ⟨_, c.new (xs ++ ys) w', h3, hn.1, hn.2, rfl, ?_⟩
  have htot : (us ++ vs ++ rest).length = nc * e := by
    have e1 := hxu.len; have e2 := hyv.len
    have e3 : nc * e = (n + m) * e + (nc - (n + m)) * e := by rw [← Nat.add_mul]; congr 1; omega
    have e4 : (n + m) * e = n * e + m * e := Nat.add_mul _ _ _
    simp only [List.length_append]
    omega
  refine .ms _ _ _ _ _ ⟨xs ++ ys, 0, true⟩ _ _ (hnew_new _ _) (Nat.le_refl _) h1 rfl (fun _ _ => by simp [Cx.at, Cx.new]) (fun _ _ k hk => ?_)
  have hnb : w'.heap[c.w.heap.size]? = some (.cells (us ++ vs ++ rest).toArray el) := by rw [hw, Array.getElem?_push]; simp
  simp only [Cx.at, Cx.new, if_true, World.cell?, hnb, Nat.zero_add, Option.isSome_none, Bool.false_eq_true, if_false]
  rw [List.getElem?_toArray, List.getElem?_eq_getElem (by omega)]; rfl

theorem append_ok {P : Program} {T : Tab} {c : Cx} (hc : OK T c) {sT xT ty el : TypeId} {e bytes : Nat} (hel : ElemOK P el e bytes) (hs : P.underlying sT = some (.slice el)) {d : TypeDesc} (hx : P.underlying xT = some d) (hd : ∀ k, d ≠ .int k)
    {x x2 : AV} {y y2 : Value} (hxy : VR c x y) (hxy2 : VR c x2 y2) {m : Nat} {ys : List AV} (hv : viewOf c.A e x2 = some (m, ys))
    {v : AV} {H' : Heap} (h : aappend c.A e bytes x m ys = some (v, H')) : DoesV P (Builtin.append_ #[sT, xT] ty #[y, y2]) c v H' := by
  obtain ⟨hyl, vs, hyv, hrd⟩ := view_ok (P := P) hc hxy2 hv
  have hl := (hrd c.w rfl).1
  unfold aappend at h
  split at h
  · -- nothing is appended
    rename_i hm
    subst hm
    have hvs : vs = [] := by
      have := hyv.len; simp at hyl; rw [hyl] at this; exact List.eq_nil_of_length_eq_zero (by simpa using this.symm)
    subst hvs
    have fin : ∀ base n cap, y = .slice base n cap → n ≤ cap → DoesV P (Builtin.append_ #[sT, xT] ty #[y, y2]) c x c.A := by
      rintro base n cap rfl hle
      have hr := run_append_in (P := P) (w := c.w) (ty := ty) (base := base) (n := n) (cap := cap) (m := 0) hel hs hx hd hl (hrd c.w rfl).2 (by omega)
      refine .same hc.wr (y := .slice base n cap) ?_ hxy
      rw [hr]
      cases base <;> simp [storeCells]
    split at h
    · cases h; cases hxy; exact fin _ _ _ rfl (Nat.le_refl _)
    · cases h; cases hxy with
      | sl full n e cells vs b o cap sp hsp hn => exact fin _ _ _ rfl hn
    · cases h; cases hxy with
      | ms i off n e g o a cap h hg hn => exact fin _ _ _ rfl hn
    · cases h
  · rename_i hm
    cases hcell0 : ys.all AV.isCell with
    | false => rw [hcell0] at h; cases h
    | true =>
    rw [hcell0] at h
    simp only [Bool.not_true, cond_false] at h
    have hone := (cells_ok (c := c) (a := .agg ys) (v := .agg vs.toArray) hyv.agg hcell0).2
    simp only [Value.cells] at hone
    split at h
    · -- nil
      cases hxy
      split at h
      · rename_i hlim
        cases h
        have := append_fresh (P := P) (ty := ty) hc hel hs hx hd (base := none) (n := 0) (cap := 0) (m := m) (xs := []) (us := []) (by simp) hyl (.nil c) hyv hl (fun w' _ => by simp [Builtin.firstCells]) (fun w' hw => (hrd w' hw).2) (by omega) (by simpa using hlim)
        simpa using this
      · cases h
    · -- full
      rename_i n e' cs
      split at h
      · rename_i hlim
        obtain ⟨rfl, hlim⟩ := hlim
        cases h
        cases hxy with
        | sl full n e cells us b o cap sp hsp hn hf0 he hlen hr hp hcc =>
          have hcap : cap = n := hf0 rfl
          exact append_fresh (P := P) (ty := ty) hc hel hs hx hd (xs := cs) he hyl ⟨hlen, hr⟩ hyv hl (fun w' hw => by
            simp only [Builtin.firstCells]
            rw [show n * e = us.length by omega]
            exact reads_sp hsp hlen hw hcc) (fun w' hw => (hrd w' hw).2) (by omega) hlim
      · cases h
    · -- a row
      rename_i i off n e' g
      split at h
      · rename_i hlim
        obtain ⟨rfl, hlim⟩ := hlim
        split at h
        · rename_i o ho
          split at h
          · rename_i hcond
            obtain ⟨hg, hlive, hoff⟩ := hcond
            cases h
            have hget0 : hget c.A i off (n * e) g = some ((o.cells.drop off).take (n * e)) := by
              unfold hget; rw [ho]; simp [hg, hoff]
            obtain ⟨hxl, us, hxu, hxc⟩ := row_cells hc.wr hget0
            have hrel := hxu.append hyv
            cases hxy with
            | ms i off n e g ob a cap h1 hgo hn hsp ha hroom =>
              obtain rfl : ob = o := Option.some.inj (h1.symm.trans ho)
              by_cases hle : n + m ≤ cap
              · -- in place
                have hcap : cap ≠ 0 := by omega
                have hA := ha hg hcap
                have hrun := run_append_in (P := P) (w := c.w) (ty := ty) (base := some a) hel hs hx hd hl (hrd c.w rfl).2 hle
                have hne : (n + m) * e ≤ cap * e := Nat.mul_le_mul_right _ hle
                have hsum : (n + m) * e = n * e + m * e := Nat.add_mul _ _ _
                have hvl : vs.length = m * e := by rw [← hyv.len, hyl]
                have hcell : ∀ j, j < vs.length → (c.w.cell? ⟨c.blk i, c.base i + off + n * e + j, none⟩).isSome = true := fun j hj => by
                  have := hroom hg hcap (off + n * e + j) (by omega)
                  simpa [Cx.at, Nat.add_assoc] using this
                have hst := run_storeCells_cells (P := P) (c.blk i) (c.base i + off + n * e) vs 0 c.w (fun j hj => by simpa using hcell j hj)
                  (fun j hj => by have := hc.wr.soft i ob ho hlive _ (hcell j hj); simpa using this) hone
                have hre := re_ok hc.wr ho (b := c.blk i) (p := c.base i + off) (o' := ⟨(ob.cells.drop off).take (n * e) ++ ys, g + 1, true⟩) (w' := c.w.setCells (c.blk i) (c.base i + off + n * e) vs)
                  (fun _ => hlive) (by simp; omega) (fun hh => by simp at hh; omega) (.inl rfl) (Nat.le_of_eq (setCells_size _ _ _ _).symm) (by rw [setCells_size]; exact hc.wr.lt i ob ho)
                  (fun j _ hj => setCells_heap _ _ _ _ _ (by rcases hj with h | h; exact h; rw [hlive] at h; cases h)) (fun a ha => setCells_room _ _ _ _ _ ha)
                  (setCells_os _ _ _ _).1 (setCells_os _ _ _ _).2
                  (fun _ k hk => by rw [World.frozen?_setCells]; exact hc.wr.soft i ob ho hlive k (setCells_room' _ _ _ _ _ hk))
                  (fun k a hk => by
                    obtain ⟨v, hv1, hv2⟩ := hrel.get hk
                    refine ⟨v, ?_, hv2⟩
                    have hus : us.length = n * e := by rw [← hxu.len, hxl]
                    rcases Nat.lt_or_ge k (n * e) with hlt | hge
                    · rw [List.getElem?_append_left (by omega)] at hv1
                      rw [World.cell?_setCells_out _ _ _ _ _ (fun _ _ => by simp only; omega)]
                      exact hxc k v hv1
                    · rw [List.getElem?_append_right (by omega), hus] at hv1
                      have hlt := (List.getElem?_eq_some_iff.1 hv1).1
                      have := World.cell?_setCells_in (c.blk i) vs (c.base i + off + n * e) c.w hcell (k - n * e) hlt
                      rw [show c.base i + off + n * e + (k - n * e) = c.base i + off + k by omega] at this
                      rw [this, ← hv1, List.getElem?_eq_getElem hlt])
                refine ⟨.slice (some a) (n + m) cap, c.re i (c.blk i) (c.base i + off) ⟨(ob.cells.drop off).take (n * e) ++ ys, g + 1, true⟩ (c.w.setCells (c.blk i) (c.base i + off + n * e) vs), ?_, hre.1, hre.2, rfl, ?_⟩
                · rw [hrun, hA]
                  simp only [Cx.at]
                  rw [add_none, hst]
                  simp [Cx.re]
                · have hlt := lt_of_some ho
                  refine .ms _ _ _ _ _ ⟨(ob.cells.drop off).take (n * e) ++ ys, g + 1, true⟩ _ _ (by simp [Cx.re, hlt]) (Nat.le_refl _) hle hsp (fun _ _ => by rw [hA]; simp [Cx.re, Cx.at]) (fun _ _ k hk => ?_)
                  simp only [Cx.re, Cx.at, if_true]
                  refine setCells_room _ _ _ _ _ ?_
                  have := hroom hg hcap (off + k) (by omega)
                  simpa [Cx.at, Nat.add_assoc] using this
              · -- moved
                have hus : us.length = n * e := by rw [← hxu.len, hxl]
                obtain ⟨nc, rest, r1, r2, w', hw, hos, hout, r3⟩ := run_append_out (P := P) (w := c.w) (ty := ty) (base := some a) (n := n) (cap := cap) (m := m) (us := us) hel hs hx hd hl (fun w' hw => by
                    simp only [Builtin.firstCells]
                    by_cases hcap : cap = 0
                    · obtain rfl : n = 0 := by omega
                      simp at hus
                      subst hus
                      simp [loadCells, loadCellsFrom]
                    · rw [ha hg hcap, show n * e = us.length by omega]
                      exact reads_heap hw hxc) (fun w' hw => (hrd w' hw).2) (by omega) hlim
                have hold : ∀ j, j < c.w.heap.size → w'.heap[j]? = c.w.heap[j]? := fun j hj => by
                  rw [hw, Array.getElem?_push, if_neg (by omega)]
                have hnewb : w'.heap[c.w.heap.size]? = some (.cells (us ++ vs ++ rest).toArray el) := by
                  rw [hw, Array.getElem?_push]; simp
                have hre := re_ok hc.wr ho (b := c.w.heap.size) (p := 0) (o' := ⟨(ob.cells.drop off).take (n * e) ++ ys, g + 1, true⟩) (w' := w')
                  (fun _ => hlive) (by simp; omega) (fun hh => by simp at hh; omega) (.inr ⟨Nat.le_refl _, hc.fr _ (Nat.le_refl _)⟩) (by rw [hw]; simp) (by rw [hw]; simp)
                  (fun j hj _ => hold j hj) (fun a ha => by rw [cell_of_heap' (hold _ (cell_lt ha))]; exact ha) hos hout
                  (fun _ k hk => by simp [World.frozen?, hnewb])
                  (fun k a hk => by
                    obtain ⟨v, hv1, hv2⟩ := hrel.get hk
                    refine ⟨v, ?_, hv2⟩
                    simp only [World.cell?, hnewb, Nat.zero_add, Option.isSome_none, Bool.false_eq_true, if_false]
                    rw [List.getElem?_toArray, List.getElem?_append_left (List.getElem?_eq_some_iff.1 hv1).1]; exact hv1)
                refine ⟨_, c.re i c.w.heap.size 0 ⟨(ob.cells.drop off).take (n * e) ++ ys, g + 1, true⟩ w', r3, hre.1, hre.2, rfl, ?_⟩
                have hlt := lt_of_some ho
                have hi' : (c.re i c.w.heap.size 0 ⟨(ob.cells.drop off).take (n * e) ++ ys, g + 1, true⟩ w').A[i]? = some ⟨(ob.cells.drop off).take (n * e) ++ ys, g + 1, true⟩ := by simp [Cx.re, hlt]
                have htot : (us ++ vs ++ rest).length = nc * e := by
                  have e2 := hyv.len
                  have e3 : nc * e = (n + m) * e + (nc - (n + m)) * e := by rw [← Nat.add_mul]; congr 1; omega
                  have e4 : (n + m) * e = n * e + m * e := Nat.add_mul _ _ _
                  simp only [List.length_append]
                  omega
                refine .ms i 0 (n + m) e (g + 1) _ ⟨c.w.heap.size, 0, none⟩ nc hi' (Nat.le_refl _) r1 rfl (fun _ _ => by simp [Cx.re, Cx.at]) (fun _ _ k hk => ?_)
                simp only [Cx.re, Cx.at, if_true, World.cell?, hnewb, Nat.zero_add, Option.isSome_none, Bool.false_eq_true, if_false]
                rw [List.getElem?_toArray, List.getElem?_eq_getElem (by omega)]; rfl
          · cases h
        · cases h
      · cases h
    · cases h
end Go.Eng
