/- The operations, one by one: appends, copies. The operations, one by one: conversions, literals, makes, indexes. Every operation of the loaded code does what its translation says. Every operation of the loaded code does what its translation says. No condition. -/
import Derived.Test.YtgjgcjhmaibblaaGreatDoorEb
namespace Go.Eng
open Go

theorem cell_of_heap' {w w' : World} {a : Addr} (h : w'.heap[a.block]? = w.heap[a.block]?) : w'.cell? a = w.cell? a := by
  simp only [World.cell?, h]

theorem reads_heap {P : Program} {w w' : World} (h : w'.heap = w.heap) {b o : Nat} {vs : List Value} (hv : ∀ (k : Nat) (v : Value), vs[k]? = some v → w.cell? ⟨b, o + k, none⟩ = some v) :
    (loadCells ⟨b, o, none⟩ vs.length).run P w' = .ok vs.toArray w' :=
  run_loadCells' fun k v hk => by rw [← hv k v hk]; exact cell_of_heap (by rw [h])

theorem reads_sp {P : Program} {w w' : World} {cells : List AV} {vs : List Value} {sp : Option Nat} (hsp : cells ≠ [] → sp = none) (hl : cells.length = vs.length) (h : w'.heap = w.heap) {b o : Nat} (hv : ∀ (k : Nat) (v : Value), vs[k]? = some v → w.cell? ⟨b, o + k, none⟩ = some v) :
    (loadCells ⟨b, o, sp⟩ vs.length).run P w' = .ok vs.toArray w' := by
  by_cases hc : cells = []
  · subst hc
    obtain rfl : vs = [] := List.eq_nil_of_length_eq_zero (by simpa using hl.symm)
    simp [loadCells, loadCellsFrom]
  · rw [hsp hc]; exact reads_heap h hv

theorem bcells_vr (c : Cx) (s : List UInt8) : VRs c (bcells s) (s.map fun b => .int .u8 b.toNat) := VRs.map fun _ _ => .int _ _

/-- A source of elements: how many, and their cells. -/
theorem view_ok {P : Program} {T : Tab} {c : Cx} (hc : OK T c) {e : Nat} {x : AV} {y : Value} (hx : VR c x y) {m : Nat} {ys : List AV} (h : viewOf c.A e x = some (m, ys)) :
    ys.length = m * e ∧ ∃ vs : List Value, VRs c ys vs ∧ ∀ w', w'.heap = c.w.heap → (Builtin.lenOf y).run P w' = .ok m w' ∧ (Builtin.firstCells e m y).run P w' = .ok vs.toArray w' := by
  unfold viewOf at h
  split at h
  · cases hx; cases h
    exact ⟨by simp, [], .nil c, fun w' _ => ⟨by simp [Builtin.lenOf], by simp [Builtin.firstCells]⟩⟩
  · rename_i s
    cases hx
    split at h
    · rename_i he; subst he; cases h
      refine ⟨by simp [bcells], _, bcells_vr c s, fun w' _ => ⟨by simp [Builtin.lenOf, bytes_size], ?_⟩⟩
      simp only [Builtin.firstCells, Sem.run_pure]
      rw [extract_list]
      simp
    · cases h
  · rename_i full n e' cs
    split at h
    · rename_i he; subst he; cases h
      cases hx with
      | sl full n e cells vs b o cap sp hsp hn hf0 he hlen hr hp hcc =>
        refine ⟨he, vs, ⟨hlen, hr⟩, fun w' hw => ⟨by simp [Builtin.lenOf], ?_⟩⟩
        simp only [Builtin.firstCells]
        rw [show m * e' = vs.length by omega]
        exact reads_sp hsp hlen hw hcc
    · cases h
  · rename_i i off n e' g
    split at h
    · rename_i he; subst he
      cases hh : hget c.A i off (n * e') g with
      | none => rw [hh] at h; cases h
      | some cs =>
        rw [hh] at h; cases h
        obtain ⟨hl, vs, h2, h3⟩ := row_cells hc.wr hh
        obtain ⟨o', ho', hg', _, _⟩ := hget_some hh
        cases hx with
        | ms i off n e g ob a cap h1 hg hn hs ha hroom =>
          obtain rfl : ob = o' := Option.some.inj (h1.symm.trans ho')
          refine ⟨hl, vs, h2, fun w' hw => ⟨by simp [Builtin.lenOf], ?_⟩⟩
          simp only [Builtin.firstCells]
          by_cases hcap : cap = 0
          · have hm0 : m = 0 := by omega
            subst hm0
            have : vs = [] := by
              have := h2.len; simp at hl; rw [hl] at this; exact List.eq_nil_of_length_eq_zero (by simpa using this.symm)
            subst this
            simp [loadCells, loadCellsFrom]
          · rw [ha hg' hcap, show m * e' = vs.length by rw [← h2.len, hl]]
            exact reads_heap hw h3
    · cases h
  · cases h

/-! ### append -/
theorem growBy_le (need : Nat) : ∀ (r c : Nat), c ≤ 2 * need + 192 → Builtin.growBy need r c ≤ 2 * need + 192
  | 0, c, h => h
  | r + 1, c, h => by
    unfold Builtin.growBy
    split
    · exact h
    · exact growBy_le need r _ (by omega)
theorem nextslicecap_le {need cap : Nat} (h : cap < need) : Builtin.nextslicecap need cap ≤ 2 * need + 192 := by
  unfold Builtin.nextslicecap
  split
  · omega
  · split
    · omega
    · exact growBy_le need 4 cap (by omega)

/-- What an append asks of the types. -/
structure ElemOK (P : Program) (el : TypeId) (e bytes : Nat) : Prop where
  ex : ∃ i z, P.info? el = some i ∧ i.size = e ∧ i.bytes = bytes ∧ i.zero = some z ∧ z.cells.size = e
  pos : e ≠ 0

theorem ElemOK.size {P : Program} {el : TypeId} {e bytes : Nat} (h : ElemOK P el e bytes) (w : World) : (sizeOf el).run P w = .ok e w := by
  obtain ⟨i, z, h1, h2, _⟩ := h.ex; simp [sizeOf, typeInfo, h1, h2]
theorem ElemOK.info {P : Program} {el : TypeId} {e bytes : Nat} (h : ElemOK P el e bytes) (w : World) : ∃ i, (typeInfo el).run P w = .ok i w ∧ i.bytes = bytes := by
  obtain ⟨i, z, h1, h2, h3, _⟩ := h.ex; exact ⟨i, by simp [typeInfo, h1], h3⟩
theorem ElemOK.zero {P : Program} {el : TypeId} {e bytes : Nat} (h : ElemOK P el e bytes) : ∃ z, (∀ w, (zeroValue el).run P w = .ok z w) ∧ z.cells.size = e := by
  obtain ⟨i, z, h1, h2, h3, h4, h5⟩ := h.ex; exact ⟨z, fun w => by simp [zeroValue, typeInfo, h1, h4], h5⟩

theorem run_append_in {P : Program} {w : World} {sT xT ty el : TypeId} {e bytes : Nat} (hel : ElemOK P el e bytes) (hs : P.underlying sT = some (.slice el)) {d : TypeDesc} (hx : P.underlying xT = some d) (hd : ∀ k, d ≠ .int k)
    {base : Option Addr} {n cap m : Nat} {y : Value} {vs : List Value} (hl : (Builtin.lenOf y).run P w = .ok m w) (hv : (Builtin.firstCells e m y).run P w = .ok vs.toArray w) (hle : n + m ≤ cap) :
    (Builtin.append_ #[sT, xT] ty #[.slice base n cap, y]).run P w = match base with
      | some a => ((storeCells (a.add (n * e)) vs).run P w).andThen fun _ w' => .ok (.slice (some a) (n + m) cap) w'
      | none => .ok (.slice none (n + m) cap) w := by
  cases d with
  | int k => exact absurd rfl (hd k)
  | _ =>
    cases base <;> simp only [Builtin.append_, List.getElem?_toArray, List.getElem?_cons_zero, List.getElem?_cons_succ, Sem.run_bind, run_underlying hs, run_underlying hx, Result.andThen_ok, hel.size, Bool.false_eq_true, if_false, hl, hle, if_true, Bool.not_false, hv, Sem.run_pure]

theorem run_append_out {P : Program} {w : World} {sT xT ty el : TypeId} {e bytes : Nat} (hel : ElemOK P el e bytes) (hs : P.underlying sT = some (.slice el)) {d : TypeDesc} (hx : P.underlying xT = some d) (hd : ∀ k, d ≠ .int k)
    {base : Option Addr} {n cap m : Nat} {y : Value} {us vs : List Value} (hl : (Builtin.lenOf y).run P w = .ok m w) (hu : ∀ w', w'.heap = w.heap → (Builtin.firstCells e n (.slice base n cap)).run P w' = .ok us.toArray w')
    (hv : ∀ w', w'.heap = w.heap → (Builtin.firstCells e m y).run P w' = .ok vs.toArray w') (hgt : cap < n + m) (hlim : (n + m) * (bytes + 1) ≤ LIM) :
    ∃ (nc : Nat) (rest : List Value), n + m ≤ nc ∧ rest.length = (nc - (n + m)) * e ∧
      ∃ w' : World, w'.heap = w.heap.push (.cells (us ++ vs ++ rest).toArray el) ∧ w'.os = w.os ∧ w'.output = w.output ∧ (Builtin.append_ #[sT, xT] ty #[.slice base n cap, y]).run P w = .ok (.slice (some ⟨w.heap.size, 0, none⟩) (n + m) nc) w' := by
  obtain ⟨z, hz1, hz2⟩ := hel.zero
  obtain ⟨i, z', hi1, hi2, hi3, hi4, hi5⟩ := hel.ex
  have hinfo : ∀ w : World, (typeInfo el).run P w = .ok i w := fun w => by simp [typeInfo, hi1]
  let nc := (Question.appendCap (n + m) cap el).cut (w.tape w.drawn (Question.appendCap (n + m) cap el))
  refine ⟨nc, (Builtin.zeroCells z.cells (nc - (n + m))).toList, by simp [nc, Question.cut], by simp [Builtin.zeroCells, hz2],
    { w with drawn := w.drawn + 1, heap := w.heap.push (.cells (us ++ vs ++ (Builtin.zeroCells z.cells (nc - (n + m))).toList).toArray el) }, rfl, rfl, rfl, ?_⟩
  have hb : (n + m) * bytes ≤ LIM := Nat.le_trans (Nat.mul_le_mul_left _ (by omega)) hlim
  have hnm : n + m ≤ LIM := Nat.le_trans (by rw [Nat.mul_succ]; omega) hlim
  have hpos : 1 ≤ n + m := by omega
  have hbytes : bytes ≤ LIM := Nat.le_trans (by calc bytes = 1 * bytes := by omega
                                               _ ≤ (n + m) * bytes := Nat.mul_le_mul_right _ hpos) hb
  have h1 : ¬ ((((n + m : Nat) : Int) > IntKind.i64.max) ∧ (False ∨ i.bytes = 0)) := by
    have : IntKind.i64.max = 9223372036854775807 := by decide
    rw [this]; unfold LIM at hnm; omega
  have h2 : ¬ (Builtin.nextslicecap (n + m) cap * i.bytes > 2 ^ 48) := by
    rw [hi3]
    have hle := Nat.mul_le_mul_right bytes (nextslicecap_le hgt)
    have : (2 * (n + m) + 192) * bytes = 2 * ((n + m) * bytes) + 192 * bytes := by rw [Nat.add_mul, Nat.mul_assoc]
    unfold LIM at hb hbytes
    omega
  have hforced : (Question.appendCap (n + m) cap el).forced = false := rfl
  have hnle : ¬ (n + m ≤ cap) := by omega
  have harr : ∀ Z : Array Value, us.toArray ++ vs.toArray ++ Z = (us ++ vs ++ Z.toList).toArray := fun Z => by apply Array.ext'; simp
  have hu' := hu { w with drawn := w.drawn + 1 } rfl
  have hv' := hv { w with drawn := w.drawn + 1 } rfl
  cases d with
  | int k => exact absurd rfl (hd k)
  | _ =>
    simp only [Builtin.append_, List.getElem?_toArray, List.getElem?_cons_zero, List.getElem?_cons_succ, Sem.run_bind, run_underlying hs, run_underlying hx, Result.andThen_ok, hel.size, Bool.false_eq_true, if_false, hl, hnle, Bool.not_false, if_true,
      hinfo, Sem.run_ite, h1, h2, run_choose, hforced, run_askRoom, hu', hv', hz1, newRow, run_newObj, Sem.run_pure]
    rw [harr]

theorem join_ok {w : World} {b p q off : Nat} {kd k' : Kd} {t : TypeId} (hkd : kd = .no ∨ kd = .typ t) (hk : KdOK w b p k') (hq : off = 0 → p = 0 → q = 0) (hs : (∃ n, w.shape? b = some (t, n)) → KdOK w b q (kd.join k' off) → True) : KdOK w b q (kd.join k' off) := by
  rcases hkd with rfl | rfl
  · trivial
  · cases k' with
    | no => trivial
    | it s pos => trivial
    | typ u =>
      simp only [Kd.join]
      cases hb : (t == u && off == 0) with
      | false => trivial
      | true =>
        simp only [Bool.and_eq_true, beq_iff_eq] at hb
        obtain ⟨rfl, rfl⟩ := hb
        obtain ⟨h1, n, h2⟩ := hk
        exact ⟨hq rfl h1, n, h2⟩
theorem join_new {w : World} {b off : Nat} {kd k' : Kd} {t : TypeId} (hkd : kd = .no ∨ kd = .typ t) {n : Nat} (hs : w.shape? b = some (t, n)) : KdOK w b 0 (kd.join k' off) := by
  rcases hkd with rfl | rfl
  · trivial
  · cases k' with
    | no => trivial
    | it s pos => trivial
    | typ u =>
      simp only [Kd.join]
      cases hb : (t == u && off == 0) with
      | false => trivial
      | true => exact ⟨rfl, n, hs⟩
/-- New cells in a fresh row. -/
theorem append_fresh {P : Program} {T : Tab} {c : Cx} (hc : OK T c) {kd : Kd} {sT xT ty el : TypeId} (hkd : kd = .no ∨ kd = .typ el) {e bytes : Nat} (hel : ElemOK P el e bytes) (hs : P.underlying sT = some (.slice el)) {d : TypeDesc} (hx : P.underlying xT = some d) (hd : ∀ k, d ≠ .int k)
    {base : Option Addr} {n cap m : Nat} {y : Value} {xs ys : List AV} {us vs : List Value} (hxl : xs.length = n * e) (hyl : ys.length = m * e) (hxu : VRs c xs us) (hyv : VRs c ys vs)
    (hl : (Builtin.lenOf y).run P c.w = .ok m c.w) (hu : ∀ w', w'.heap = c.w.heap → (Builtin.firstCells e n (.slice base n cap)).run P w' = .ok us.toArray w')
    (hv : ∀ w', w'.heap = c.w.heap → (Builtin.firstCells e m y).run P w' = .ok vs.toArray w') (hgt : cap < n + m) (hlim : (n + m) * (bytes + 1) ≤ LIM) :
    DoesV P (Builtin.append_ #[sT, xT] ty #[.slice base n cap, y]) c (.ms c.A.length 0 (n + m) e 0) (hnewK c.A kd (xs ++ ys)) := by
  obtain ⟨nc, rest, h1, h2, w', hw, hos, hout, h3⟩ := run_append_out (P := P) (w := c.w) (ty := ty) hel hs hx hd hl hu hv hgt hlim
  have hrel := hxu.append hyv
  have hn := newT_ok hc.wr hc.fr (cs := xs ++ ys) (vs := (us ++ vs ++ rest).toArray) (t := el) (fr := (0, 0)) (w' := w') hkd hw hos hout (fun k _ => by simp) (Nat.le_refl _) (fun k a hk => by
    obtain ⟨v, hv1, hv2⟩ := hrel.get hk
    refine ⟨v, ?_, hv2⟩
    simp only [List.getElem?_toArray]
    rw [List.getElem?_append_left (List.getElem?_eq_some_iff.1 hv1).1]; exact hv1)
  refine ⟨_, c.newK kd (xs ++ ys) w', h3, hn.1, hn.2, rfl, ?_⟩
  have htot : (us ++ vs ++ rest).length = nc * e := by
    have e1 := hxu.len; have e2 := hyv.len
    have e3 : nc * e = (n + m) * e + (nc - (n + m)) * e := by rw [← Nat.add_mul]; congr 1; omega
    have e4 : (n + m) * e = n * e + m * e := Nat.add_mul _ _ _
    simp only [List.length_append]
    omega
  refine .ms _ _ _ _ _ ⟨xs ++ ys, 0, true, kd⟩ _ _ (hnewK_new _ _ _) (Nat.le_refl _) h1 rfl (fun _ _ => by simp [Cx.at, Cx.newK]) (fun _ _ k hk => ?_)
  have hnb : w'.heap[c.w.heap.size]? = some (.cells (us ++ vs ++ rest).toArray el) := by rw [hw, Array.getElem?_push]; simp
  simp only [Cx.at, Cx.newK, if_true, World.cell?, hnb, Nat.zero_add, Option.isSome_none, Bool.false_eq_true, if_false]
  rw [List.getElem?_toArray, List.getElem?_eq_getElem (by omega)]; rfl

theorem append_ok {P : Program} {T : Tab} {c : Cx} (hc : OK T c) {kd : Kd} {sT xT ty el : TypeId} (hkd : kd = .no ∨ kd = .typ el) {e bytes : Nat} (hel : ElemOK P el e bytes) (hs : P.underlying sT = some (.slice el)) {d : TypeDesc} (hx : P.underlying xT = some d) (hd : ∀ k, d ≠ .int k)
    {x x2 : AV} {y y2 : Value} (hxy : VR c x y) (hxy2 : VR c x2 y2) {m : Nat} {ys : List AV} (hv : viewOf c.A e x2 = some (m, ys))
    {v : AV} {H' : Heap} (h : aappend kd c.A e bytes x m ys = some (v, H')) : DoesV P (Builtin.append_ #[sT, xT] ty #[y, y2]) c v H' := by
  obtain ⟨hyl, vs, hyv, hrd⟩ := view_ok (P := P) hc hxy2 hv
  have hl := (hrd c.w rfl).1
  unfold aappend at h
  split at h
  · -- nothing is appended
    rename_i hm
    subst hm
    have hvs : vs = [] := by
      have := hyv.len; simp at hyl; rw [hyl] at this; exact List.eq_nil_of_length_eq_zero (by simpa using this.symm)
    subst hvs
    have fin : ∀ base n cap, y = .slice base n cap → n ≤ cap → DoesV P (Builtin.append_ #[sT, xT] ty #[y, y2]) c x c.A := by
      rintro base n cap rfl hle
      have hr := run_append_in (P := P) (w := c.w) (ty := ty) (base := base) (n := n) (cap := cap) (m := 0) hel hs hx hd hl (hrd c.w rfl).2 (by omega)
      refine .same hc.wr (y := .slice base n cap) ?_ hxy
      rw [hr]
      cases base <;> simp [storeCells]
    split at h
    · cases h; cases hxy; exact fin _ _ _ rfl (Nat.le_refl _)
    · cases h; cases hxy with
      | sl full n e cells vs b o cap sp hsp hn => exact fin _ _ _ rfl hn
    · cases h; cases hxy with
      | ms i off n e g o a cap h hg hn => exact fin _ _ _ rfl hn
    · cases h
  · rename_i hm
    cases hcell0 : ys.all AV.isCell with
    | false => rw [hcell0] at h; cases h
    | true =>
    rw [hcell0] at h
    simp only [Bool.not_true, cond_false] at h
    have hone := (cells_ok (c := c) (a := .agg ys) (v := .agg vs.toArray) hyv.agg hcell0).2
    simp only [Value.cells] at hone
    split at h
    · -- nil
      cases hxy
      split at h
      · rename_i hlim
        cases h
        have := append_fresh (P := P) (ty := ty) hc hkd hel hs hx hd (base := none) (n := 0) (cap := 0) (m := m) (xs := []) (us := []) (by simp) hyl (.nil c) hyv hl (fun w' _ => by simp [Builtin.firstCells]) (fun w' hw => (hrd w' hw).2) (by omega) (by simpa using hlim)
        simpa using this
      · cases h
    · -- full
      rename_i n e' cs
      split at h
      · rename_i hlim
        obtain ⟨rfl, hlim⟩ := hlim
        cases h
        cases hxy with
        | sl full n e cells us b o cap sp hsp hn hf0 he hlen hr hp hcc =>
          have hcap : cap = n := hf0 rfl
          exact append_fresh (P := P) (ty := ty) hc hkd hel hs hx hd (xs := cs) he hyl ⟨hlen, hr⟩ hyv hl (fun w' hw => by
            simp only [Builtin.firstCells]
            rw [show n * e = us.length by omega]
            exact reads_sp hsp hlen hw hcc) (fun w' hw => (hrd w' hw).2) (by omega) hlim
      · cases h
    · -- a row
      rename_i i off n e' g
      split at h
      · rename_i hlim
        obtain ⟨rfl, hlim⟩ := hlim
        split at h
        · rename_i o ho
          split at h
          · rename_i hcond
            obtain ⟨hg, hlive, hoff⟩ := hcond
            cases h
            have hget0 : hget c.A i off (n * e) g = some ((o.cells.drop off).take (n * e)) := by
              unfold hget; rw [ho]; simp [hg, hoff]
            obtain ⟨hxl, us, hxu, hxc⟩ := row_cells hc.wr hget0
            have hrel := hxu.append hyv
            cases hxy with
            | ms i off n e g ob a cap h1 hgo hn hsp ha hroom =>
              obtain rfl : ob = o := Option.some.inj (h1.symm.trans ho)
              by_cases hle : n + m ≤ cap
              · -- in place
                have hcap : cap ≠ 0 := by omega
                have hA := ha hg hcap
                have hrun := run_append_in (P := P) (w := c.w) (ty := ty) (base := some a) hel hs hx hd hl (hrd c.w rfl).2 hle
                have hne : (n + m) * e ≤ cap * e := Nat.mul_le_mul_right _ hle
                have hsum : (n + m) * e = n * e + m * e := Nat.add_mul _ _ _
                have hvl : vs.length = m * e := by rw [← hyv.len, hyl]
                have hcell : ∀ j, j < vs.length → (c.w.cell? ⟨c.blk i, c.base i + off + n * e + j, none⟩).isSome = true := fun j hj => by
                  have := hroom hg hcap (off + n * e + j) (by omega)
                  simpa [Cx.at, Nat.add_assoc] using this
                have hst := run_storeCells_cells (P := P) (c.blk i) (c.base i + off + n * e) vs 0 c.w (fun j hj => by simpa using hcell j hj)
                  (fun j hj => by have := hc.wr.soft i ob ho hlive _ (hcell j hj); simpa using this) hone
                have hre := re_ok hc.wr ho (b := c.blk i) (p := c.base i + off) (o' := ⟨(ob.cells.drop off).take (n * e) ++ ys, g + 1, true, kd.join ob.kd off⟩) (w' := c.w.setCells (c.blk i) (c.base i + off + n * e) vs)
                  (fun _ => hlive) (by simp; omega) (fun hh => by simp at hh; omega) (.inl rfl) (Nat.le_of_eq (setCells_size _ _ _ _).symm) (by rw [setCells_size]; exact hc.wr.lt i ob ho)
                  (fun j _ hj => setCells_heap _ _ _ _ _ (by rcases hj with h | h; exact h; rw [hlive] at h; cases h)) (fun a ha => setCells_room _ _ _ _ _ ha)
                  (setCells_os _ _ _ _).1 (setCells_os _ _ _ _).2
                  (fun _ k hk => by rw [World.frozen?_setCells]; exact hc.wr.soft i ob ho hlive k (setCells_room' _ _ _ _ _ hk)) (fun _ => setCells_flat _ _ _ _ _ (hc.wr.flat i ob ho hlive)) (fun _ => join_ok hkd ((hc.wr.kind i ob ho hlive).setCells _ _) (fun h1 h2 => by omega) (fun _ _ => trivial))
                  (fun k a hk => by
                    obtain ⟨v, hv1, hv2⟩ := hrel.get hk
                    refine ⟨v, ?_, hv2⟩
                    have hus : us.length = n * e := by rw [← hxu.len, hxl]
                    rcases Nat.lt_or_ge k (n * e) with hlt | hge
                    · rw [List.getElem?_append_left (by omega)] at hv1
                      rw [World.cell?_setCells_out _ _ _ _ _ (fun _ _ => by simp only; omega)]
                      exact hxc k v hv1
                    · rw [List.getElem?_append_right (by omega), hus] at hv1
                      have hlt := (List.getElem?_eq_some_iff.1 hv1).1
                      have := World.cell?_setCells_in (c.blk i) vs (c.base i + off + n * e) c.w hcell (k - n * e) hlt
                      rw [show c.base i + off + n * e + (k - n * e) = c.base i + off + k by omega] at this
                      rw [this, ← hv1, List.getElem?_eq_getElem hlt])
                refine ⟨.slice (some a) (n + m) cap, c.re i (c.blk i) (c.base i + off) ⟨(ob.cells.drop off).take (n * e) ++ ys, g + 1, true, kd.join ob.kd off⟩ (c.w.setCells (c.blk i) (c.base i + off + n * e) vs), ?_, hre.1, hre.2, rfl, ?_⟩
                · rw [hrun, hA]
                  simp only [Cx.at]
                  rw [add_none, hst]
                  simp [Cx.re]
                · have hlt := lt_of_some ho
                  refine .ms _ _ _ _ _ ⟨(ob.cells.drop off).take (n * e) ++ ys, g + 1, true, kd.join ob.kd off⟩ _ _ (by simp [Cx.re, hlt]) (Nat.le_refl _) hle hsp (fun _ _ => by rw [hA]; simp [Cx.re, Cx.at]) (fun _ _ k hk => ?_)
                  simp only [Cx.re, Cx.at, if_true]
                  refine setCells_room _ _ _ _ _ ?_
                  have := hroom hg hcap (off + k) (by omega)
                  simpa [Cx.at, Nat.add_assoc] using this
              · -- moved
                have hus : us.length = n * e := by rw [← hxu.len, hxl]
                obtain ⟨nc, rest, r1, r2, w', hw, hos, hout, r3⟩ := run_append_out (P := P) (w := c.w) (ty := ty) (base := some a) (n := n) (cap := cap) (m := m) (us := us) hel hs hx hd hl (fun w' hw => by
                    simp only [Builtin.firstCells]
                    by_cases hcap : cap = 0
                    · obtain rfl : n = 0 := by omega
                      simp at hus
                      subst hus
                      simp [loadCells, loadCellsFrom]
                    · rw [ha hg hcap, show n * e = us.length by omega]
                      exact reads_heap hw hxc) (fun w' hw => (hrd w' hw).2) (by omega) hlim
                have hold : ∀ j, j < c.w.heap.size → w'.heap[j]? = c.w.heap[j]? := fun j hj => by
                  rw [hw, Array.getElem?_push, if_neg (by omega)]
                have hnewb : w'.heap[c.w.heap.size]? = some (.cells (us ++ vs ++ rest).toArray el) := by
                  rw [hw, Array.getElem?_push]; simp
                have hre := re_ok hc.wr ho (b := c.w.heap.size) (p := 0) (o' := ⟨(ob.cells.drop off).take (n * e) ++ ys, g + 1, true, kd.join ob.kd off⟩) (w' := w')
                  (fun _ => hlive) (by simp; omega) (fun hh => by simp at hh; omega) (.inr ⟨Nat.le_refl _, hc.fr _ (Nat.le_refl _)⟩) (by rw [hw]; simp) (by rw [hw]; simp)
                  (fun j hj _ => hold j hj) (fun a ha => by rw [cell_of_heap' (hold _ (cell_lt ha))]; exact ha) hos hout
                  (fun _ k hk => by simp [World.frozen?, hnewb]) (fun _ cs t fr e => by rw [hnewb] at e; cases e; exact Nat.le_refl _) (fun _ => join_new hkd (n := (us ++ vs ++ rest).toArray.size) (by simp only [World.shape?, hnewb]))
                  (fun k a hk => by
                    obtain ⟨v, hv1, hv2⟩ := hrel.get hk
                    refine ⟨v, ?_, hv2⟩
                    simp only [World.cell?, hnewb, Nat.zero_add, Option.isSome_none, Bool.false_eq_true, if_false]
                    rw [List.getElem?_toArray, List.getElem?_append_left (List.getElem?_eq_some_iff.1 hv1).1]; exact hv1)
                refine ⟨_, c.re i c.w.heap.size 0 ⟨(ob.cells.drop off).take (n * e) ++ ys, g + 1, true, kd.join ob.kd off⟩ w', r3, hre.1, hre.2, rfl, ?_⟩
                have hlt := lt_of_some ho
                have hi' : (c.re i c.w.heap.size 0 ⟨(ob.cells.drop off).take (n * e) ++ ys, g + 1, true, kd.join ob.kd off⟩ w').A[i]? = some ⟨(ob.cells.drop off).take (n * e) ++ ys, g + 1, true, kd.join ob.kd off⟩ := by simp [Cx.re, hlt]
                have htot : (us ++ vs ++ rest).length = nc * e := by
                  have e2 := hyv.len
                  have e3 : nc * e = (n + m) * e + (nc - (n + m)) * e := by rw [← Nat.add_mul]; congr 1; omega
                  have e4 : (n + m) * e = n * e + m * e := Nat.add_mul _ _ _
                  simp only [List.length_append]
                  omega
                refine .ms i 0 (n + m) e (g + 1) _ ⟨c.w.heap.size, 0, none⟩ nc hi' (Nat.le_refl _) r1 rfl (fun _ _ => by simp [Cx.re, Cx.at]) (fun _ _ k hk => ?_)
                simp only [Cx.re, Cx.at, if_true, World.cell?, hnewb, Nat.zero_add, Option.isSome_none, Bool.false_eq_true, if_false]
                rw [List.getElem?_toArray, List.getElem?_eq_getElem (by omega)]; rfl
          · cases h
        · cases h
      · cases h
    · cases h
end Go.Eng

namespace Go.Eng
open Go

/-! ### literals -/
theorem foldl_set (off : Nat) : ∀ (vs : List Value) (j : Nat) (cs : Array Value), off + j + vs.length ≤ cs.size →
    ((vs.zipIdx j).foldl (fun cs (c, j) => cs.setIfInBounds (off + j) c) cs).toList = cs.toList.take (off + j) ++ vs ++ cs.toList.drop (off + j + vs.length)
  | [], j, cs, h => by simp
  | v :: vs, j, cs, h => by
    simp only [List.zipIdx_cons, List.foldl_cons]
    rw [foldl_set off vs (j + 1) _ (by simp at h ⊢; omega)]
    simp only [Array.toList_setIfInBounds, List.length_cons] at h ⊢
    apply List.ext_getElem?
    intro k
    have hsz : cs.toList.length = cs.size := by simp
    by_cases h1 : k < off + j
    · rw [List.getElem?_append_left (by simp; omega), List.getElem?_append_left (by simp; omega), List.getElem?_append_left (by simp; omega), List.getElem?_append_left (by simp; omega)]
      rw [List.getElem?_take, if_pos (by omega), List.getElem?_take, if_pos h1, List.getElem?_set_ne (by omega)]
    · by_cases h2 : k = off + j
      · subst h2
        rw [List.getElem?_append_left (by simp; omega), List.getElem?_append_left (by simp; omega), List.getElem?_take, if_pos (by omega), List.getElem?_set_self (by rw [hsz]; omega)]
        rw [List.getElem?_append_left (by simp; omega), List.getElem?_append_right (by rw [List.length_take, hsz]; omega)]
        rw [List.length_take, hsz, Nat.min_eq_left (by omega)]
        simp
      · by_cases h3 : k < off + j + 1 + vs.length
        · rw [List.getElem?_append_left (by simp; omega), List.getElem?_append_right (by simp; omega), List.getElem?_append_left (by simp; omega), List.getElem?_append_right (by simp; omega)]
          simp only [List.length_take, List.length_set, hsz]
          rw [Nat.min_eq_left (by omega), Nat.min_eq_left (by omega)]
          rw [show k - (off + j) = (k - (off + (j + 1))) + 1 by omega]
          simp
        · rw [List.getElem?_append_right (by simp; omega), List.getElem?_append_right (by simp; omega)]
          simp only [List.length_append, List.length_take, List.length_set, hsz, List.length_cons]
          rw [Nat.min_eq_left (by omega), Nat.min_eq_left (by omega), List.getElem?_drop, List.getElem?_drop, List.getElem?_set_ne (by omega)]
          congr 1
          omega

theorem VRs.splice {c : Cx} {xs ys : List AV} {xs' ys' : List Value} (h : VRs c xs xs') (k : VRs c ys ys') (off : Nat) : VRs c (Eng.splice xs off ys) (xs'.take off ++ ys' ++ xs'.drop (off + ys'.length)) := by
  unfold Eng.splice
  rw [k.len]
  exact ((h.take off).append k).append (h.drop _)

theorem fill_ok {c : Cx} {place : Nat → Option (Nat × Nat)} : ∀ {ps : List (Nat × Nat × AV)} {qs : List (Nat × Value)} {cs : List AV} {vs : Array Value} {r : List AV}, VRs c cs vs.toList → ps.length = qs.length →
    (∀ (k : Nat) (p : Nat × Nat × AV) (q : Nat × Value), ps[k]? = some p → qs[k]? = some q → place q.1 = some (p.1, p.2.1) ∧ VR c p.2.2 q.2) → fillP cs ps = some r → ∃ us, Instr.fill place vs qs = some us ∧ VRs c r us.toList
  | [], [], cs, vs, r, h, _, _, hf => by cases hf; exact ⟨vs, rfl, h⟩
  | p :: ps, q :: qs, cs, vs, r, h, hl, hp, hf => by
    obtain ⟨off, size, v⟩ := p
    obtain ⟨i, u⟩ := q
    obtain ⟨hpl, hv⟩ := hp 0 _ _ rfl rfl
    simp only at hpl hv
    unfold fillP at hf
    split at hf
    · rename_i hc
      obtain ⟨h1, h2, h3⟩ := hc
      obtain ⟨hcs, _⟩ := cells_ok hv h3
      have hsz : u.cells.size = size := by have := hcs.len; simp at this; omega
      have hvl : cs.length = vs.size := by simpa using h.len
      have hset := foldl_set off u.cells.toList 0 vs (by simp; omega)
      obtain ⟨us, hu1, hu2⟩ := fill_ok (vs := u.cells.zipIdx.foldl (fun cs (c, j) => cs.setIfInBounds (off + j) c) vs) (by
        rw [← Array.foldl_toList]
        have := h.splice hcs off
        simp only [Array.toList_zipIdx]
        rw [hset]
        simpa using this) (by simpa using hl) (fun k p q hk hq => hp (k + 1) p q (by simpa using hk) (by simpa using hq)) hf
      refine ⟨us, ?_, hu2⟩
      unfold Instr.fill
      rw [hpl]
      simp only
      rw [if_neg (by simp; omega)]
      exact hu1
    · cases hf
  | [], _ :: _, _, _, _, _, hl, _, _ => by simp at hl
  | _ :: _, [], _, _, _, _, hl, _, _ => by simp at hl

theorem reps_len (z : List AV) : ∀ n, (reps n z).length = n * z.length
  | 0 => by simp [reps]
  | n + 1 => by simp [reps, reps_len z n, Nat.add_mul]; omega

theorem reps_get (z : List AV) : ∀ (n k : Nat), k < n * z.length → (reps n z)[k]? = z[k % z.length]?
  | 0, k, h => by simp at h
  | n + 1, k, h => by
    unfold reps
    rcases Nat.lt_or_ge k z.length with h1 | h1
    · rw [List.getElem?_append_left h1, Nat.mod_eq_of_lt h1]
    · rw [List.getElem?_append_right h1, reps_get z n _ (by rw [Nat.add_mul] at h; omega), Nat.mod_eq_sub_mod h1]

theorem reps_vr {c : Cx} {z : List AV} {zv : Array Value} (h : VRs c z zv.toList) (n : Nat) : VRs c (reps n z) ((Array.range (n * zv.size)).map (zv[· % zv.size]!)).toList := by
  have hl : z.length = zv.size := by simpa using h.len
  refine ⟨by simp [reps_len, hl], fun k a v h1 h2 => ?_⟩
  have hk : k < n * z.length := by rw [← reps_len z n]; exact (List.getElem?_eq_some_iff.1 h1).1
  have hz : 0 < z.length := by
    rcases Nat.eq_zero_or_pos z.length with h0 | h0
    · rw [h0] at hk; simp at hk
    · exact h0
  rw [reps_get z n k hk] at h1
  have hm : k % z.length < z.length := Nat.mod_lt _ hz
  refine h.rel _ a v h1 ?_
  rw [hl] at hk hm
  simp [hk] at h2
  rw [← h2, hl]
  rw [Array.getElem?_toList, Array.getElem?_eq_getElem hm]
  simp [hm]

/-- A fresh row of permanent cells: a slice by value. -/
theorem fresh_sl {P : Program} {T : Tab} {c : Cx} (hc : OK T c) {cs : List AV} {vs : Array Value} (t : TypeId) (h : VRs c cs vs.toList) {n e : Nat} (hn : cs.length = n * e) :
    ∃ c', (newRow t vs).run P c.w = .ok ⟨c.w.heap.size, 0, none⟩ c'.w ∧ Ext c c' ∧ WR c' ∧ c'.A = c.A ∧ VR c' (.sl true n e cs) (.slice (some ⟨c.w.heap.size, 0, none⟩) n n) := by
  have hold : ∀ b, b < c.w.heap.size → (c.w.heap.push (Obj.cells vs t))[b]? = c.w.heap[b]? := fun b hb => by rw [Array.getElem?_push, if_neg (by omega)]
  have hnb : (c.w.heap.push (Obj.cells vs t))[c.w.heap.size]? = some (.cells vs t) := by rw [Array.getElem?_push]; simp
  let w' : World := { c.w with heap := c.w.heap.push (.cells vs t) }
  have hE : Ext c (c.setW w') :=
    { F := rfl
      row := fun i o h => ⟨o, h, Nat.le_refl _, fun _ => ⟨rfl, rfl⟩⟩
      own := fun b h => .inl h
      size := by simp [Cx.setW, w']
      frame := fun b hb _ => hold b hb
      room := fun a ha => by
        have := cell_lt ha
        show ((c.setW w').w.cell? a).isSome = true
        rw [cell_of_heap' (w := c.w) (hold _ this)]; exact ha
      os := rfl
      out := rfl }
  have hW : WR (c.setW w') :=
    { lt := fun i o h => by have := hc.wr.lt i o h; simp [Cx.setW, w']; omega
      nf := hc.wr.nf
      inj := hc.wr.inj
      cell := fun i o h k a hk => by
        obtain ⟨v, h1, h2⟩ := hc.wr.cell i o h k a hk
        exact ⟨v, by rw [← h1]; exact cell_of_heap (hold _ (hc.wr.lt i o h)), h2.ext hE⟩
      soft := fun i o h hl k hk => by
        have hb := hold _ (hc.wr.lt i o h)
        have hk' : (c.w.cell? ⟨c.blk i, k, none⟩).isSome = true := by rw [← hk]; congr 1; exact (cell_of_heap hb).symm
        rw [← hc.wr.soft i o h hl k hk']; exact frozen_of_heap hb
      flat := fun i o h hl => (hc.wr.flat i o h hl).of (hold _ (hc.wr.lt i o h))
      kind := fun i o h hl => (hc.wr.kind i o h hl).of (hold _ (hc.wr.lt i o h)) }
  refine ⟨c.setW w', by simp [newRow, Cx.setW, w'], hE, hW, rfl, ?_⟩
  have h' := h.ext hE
  refine .sl true n e cs vs.toList c.w.heap.size 0 n none (fun _ => rfl) (Nat.le_refl _) (fun _ => rfl) hn h'.len h'.rel (fun _ => ⟨by simp [Cx.setW, w'], fun ho => ?_⟩) (fun k v hk => ?_)
  · rcases ho with ho | ⟨i, o, h1, _, h3⟩
    · exact hc.fr _ (Nat.le_refl _) ho
    · have := hc.wr.lt i o h1
      simp only [Cx.setW] at h3
      omega
  · simp only [Cx.setW, w', World.cell?, hnb, Nat.zero_add]
    simpa using hk

/-! ### conversions -/
theorem bytesOf_ok {c : Cx} : ∀ {cs : List AV} {vs : List Value} {s : List UInt8}, VRs c cs vs → bytesOf cs = some s → ∃ ns : List Int, vs = ns.map (Value.int .u8) ∧ s = ns.map fun n => UInt8.ofNat n.toNat
  | [], vs, s, h, hb => by
    cases hb
    obtain rfl : vs = [] := List.eq_nil_of_length_eq_zero (by simpa using h.len.symm)
    exact ⟨[], rfl, rfl⟩
  | a :: cs, vs, s, h, hb => by
    obtain ⟨v, vs', rfl, hv, hvs⟩ := h.uncons
    unfold bytesOf at hb
    split at hb
    · rename_i heq; cases heq
    · rename_i n r heq
      cases heq
      cases hv
      split at hb
      · rename_i l hl
        cases hb
        obtain ⟨ns, h1, h2⟩ := bytesOf_ok hvs hl
        exact ⟨n :: ns, by simp [h1], by simp [h2]⟩
      · cases hb
    · cases hb

theorem foldl_push (ns : List Int) : ∀ s : ByteArray, ns.foldl (fun r n => r.push (UInt8.ofNat n.toNat)) s = ⟨(s.data.toList ++ ns.map fun n => UInt8.ofNat n.toNat).toArray⟩ := by
  induction ns with
  | nil => intro s; simp
  | cons n ns ih =>
    intro s
    simp only [List.foldl_cons, ih]
    apply ByteArray.ext
    apply Array.ext'
    simp [ByteArray.push]

theorem push_modify (h : Array Obj) (x : Obj) (f : Obj → Obj) : (h.push x).modify h.size f = h.push (f x) := by
  apply Array.ext
  · simp
  · intro i h1 h2
    simp only [Array.getElem_modify, Array.getElem_push]
    by_cases e : h.size = i
    · subst e; simp
    · simp at h2
      rw [if_neg e]
      simp [show i < h.size by omega]

theorem toBytes_ok {P : Program} {T : Tab} {c : Cx} (hc : OK T c) (el : TypeId) (s : List UInt8) : DoesV P (Conv.stringToBytes el ⟨s.toArray⟩) c (.ms c.A.length 0 s.length 1 0) (hnew c.A (bcells s)) := by
  let cap := (Question.appendCap s.length 0 el).cut (c.w.tape c.w.drawn (Question.appendCap s.length 0 el))
  let vs : Array Value := (s.toArray.map fun b => Value.int .u8 b.toNat) ++ Array.replicate (cap - s.length) (.int .u8 0)
  have hcap : s.length ≤ cap := by simp [cap, Question.cut]
  have hvs : vs.size = cap := by simp [vs]; omega
  have hrun : (Conv.stringToBytes el ⟨s.toArray⟩).run P c.w = .ok (.slice (some ⟨c.w.heap.size, 0, none⟩) s.length cap) { c.w with drawn := c.w.drawn + 1, heap := c.w.heap.push (.cells vs el (cap, cap + 1)) } := by
    have hf : (Question.appendCap s.length 0 el).forced = false := rfl
    have hsz := bytes_size s
    simp only [Conv.stringToBytes, Sem.run_bind, hsz, run_choose, hf, Bool.false_eq_true, if_false, Result.andThen_ok, newRow, run_newObj, Sem.run_pure, markStringish, run_shape]
    have hsh : (World.shape? { c.w with drawn := c.w.drawn + 1, heap := c.w.heap.push (.cells vs el) } c.w.heap.size) = some (el, cap) := by
      simp [World.shape?, hvs]
    rw [show (Array.map (fun b => Value.int .u8 (b.toNat : Int)) (ByteArray.mk s.toArray).data ++ Array.replicate (Question.cut (Question.appendCap s.length 0 el) (c.w.tape c.w.drawn (Question.appendCap s.length 0 el)) - s.length) (Value.int .u8 0)) = vs from rfl, hsh]
    simp only [run_freeze, Result.andThen_ok, World.freeze]
    rw [if_neg (by decide)]
    simp only [push_modify]
    rfl
  have hn := new_ok hc.wr hc.fr (cs := bcells s) (vs := vs) (t := el) (fr := (cap, cap + 1)) (w' := { c.w with drawn := c.w.drawn + 1, heap := c.w.heap.push (.cells vs el (cap, cap + 1)) }) rfl rfl rfl (fun k hk => by simp; omega) (Nat.le_succ _) (fun k a hk => by
    unfold bcells at hk
    rw [List.getElem?_map] at hk
    cases hb : s[k]? with
    | none => rw [hb] at hk; cases hk
    | some b =>
      rw [hb] at hk; cases hk
      have hlt := (List.getElem?_eq_some_iff.1 hb).1
      refine ⟨.int .u8 b.toNat, ?_, .int _ _⟩
      simp only [vs]
      rw [Array.getElem?_append_left (by simpa using hlt)]
      simp [hb])
  refine ⟨_, _, hrun, hn.1, hn.2, rfl, ?_⟩
  refine .ms _ _ _ _ _ ⟨bcells s, 0, true, .no⟩ _ _ (hnew_new _ _) (Nat.le_refl _) hcap rfl (fun _ _ => by simp [Cx.at, Cx.new]) (fun _ _ k hk => ?_)
  simp only [Cx.at, Cx.new, if_true, World.cell?]
  rw [Array.getElem?_push]
  simp only [if_true, Option.isSome_none, Bool.false_eq_true, if_false]
  rw [Array.getElem?_eq_getElem (by rw [hvs]; omega)]; rfl

theorem ofBytes_ok {P : Program} {T : Tab} {c : Cx} (hc : OK T c) {x : AV} {y : Value} (hx : VR c x y) {m : Nat} {cs : List AV} (hv : viewOf c.A 1 x = some (m, cs)) (hs : ∀ s, x ≠ .str s) {s : List UInt8} (h : bytesOf cs = some s) :
    DoesV P (Conv.bytesToString y) c (.str s) c.A := by
  obtain ⟨hl, vs, hvs, hrd⟩ := view_ok (P := P) hc hx hv
  obtain ⟨ns, rfl, rfl⟩ := bytesOf_ok hvs h
  have h2 := (hrd c.w rfl).2
  unfold viewOf at hv
  split at hv
  · cases hv; cases hx
    have hns : ns = [] := by have := hvs.len; simpa using this.symm
    subst hns
    exact .same hc.wr (y := .string .empty) (by simp [Conv.bytesToString]) (.str [])
  · exact absurd rfl (hs _)
  all_goals first | (cases hv; done) | skip
  · rename_i full n e' cs'
    split at hv
    · cases hv
      cases hx with
      | sl full n e cells us b o cap sp hsp hn hf0 he hlen hr hp hcc =>
        simp only [Builtin.firstCells, Nat.mul_one] at h2
        refine .same hc.wr (y := .string ⟨(ns.map fun n => UInt8.ofNat n.toNat).toArray⟩) ?_ (.str _)
        rw [run_bytesToString c.w _ _ cap ns h2, foldl_push]
        simp
    · cases hv
  · rename_i i off n e' g
    split at hv
    · cases hh : hget c.A i off (n * 1) g with
      | none => rw [hh] at hv; cases hv
      | some cs' =>
        rw [hh] at hv; cases hv
        cases hx with
        | ms i off n e g ob a cap h1 hg hn hsp ha hroom =>
          simp only [Builtin.firstCells, Nat.mul_one] at h2
          refine .same hc.wr (y := .string ⟨(ns.map fun n => UInt8.ofNat n.toNat).toArray⟩) ?_ (.str _)
          rw [run_bytesToString c.w _ _ cap ns h2, foldl_push]
          simp
    · cases hv
end Go.Eng

namespace Go.Eng
open Go

/-- Calls do what the table's functions say. -/
def CFok (P : Program) (T : Tab) (cf : CF) : Prop := ∀ (f : FuncId) (args : List AV) (H : Heap) (r : AV) (H' : Heap), cf f args H = some (r, H') → ∀ c : Cx, OK T c → c.A = H → ∀ args' : Array Value, VRs c args args'.toList →
  Does P ((callFunc f args').run P c.w) c r H'

theorem vro {T : Tab} {c : Cx} (hc : OK T c) {e : Env} {a : Act} (he : EnvR c e a.tmps) {x : Option Operand} {x' : Option Opd} (h : trOpdO x = some x') : VRO c (evO T e x') (x.map a.eval) := by
  cases x with
  | none => cases h; exact .none
  | some x =>
    simp only [trOpdO] at h
    cases hx : trOpd x with
    | none => rw [hx] at h; cases h
    | some y => rw [hx] at h; cases h; exact .some _ _ (opd_ok hc he hx)

theorem invoke_ok {P : Program} {T : Tab} (hT : TabOK P T) {c : Cx} (hc : OK T c) {cf : CF} (hcf : CFok P T cf) {x : AV} {y : Value} (hx : VR c x y) {m : String} {args : List AV} {args' : Array Value} (ha : VRs c args args'.toList)
    {v : AV} {H' : Heap} (h : invokeM T cf x m args c.A = some (v, H')) : Does P ((callMethod y m args').run P c.w) c v H' := by
  unfold invokeM at h
  split at h
  · rename_i t u
    split at h
    · rename_i f hf
      cases hx with
      | iface t u y hu =>
        have hm := (hT.meth _ _ _ hf y c.w).1
        have := hcf _ _ _ _ _ h c hc rfl (#[y] ++ args') (by simpa using VRs.cons hu ha)
        simpa [callMethod, hm] using this
    · rename_i f k hf
      split at h
      · rename_i z
        cases hx with
        | iface t u y hu =>
          obtain ⟨us, rfl, hl⟩ := hu.agg_inv
          obtain ⟨q, rs, h1, hq2, h3⟩ := hl.uncons
          obtain rfl : rs = [] := List.eq_nil_of_length_eq_zero (by simpa using h3.len.symm)
          obtain rfl : us = #[q] := by rw [← Array.toArray_toList (xs := us), h1]
          have hm := hT.methAt _ _ _ _ hf q c.w
          have := hcf _ _ _ _ _ h c hc rfl (#[q] ++ args') (by simpa using VRs.cons hq2 ha)
          simpa [callMethod, hm] using this
      · cases h
    · cases h
  · cases h

theorem applyF_ok {P : Program} {T : Tab} (hT : TabOK P T) {c : Cx} (hc : OK T c) {cf : CF} (hcf : CFok P T cf) {f : AV} {y : Value} (hf : VR c f y) {args : List AV} {args' : Array Value} (ha : VRs c args args'.toList)
    {v : AV} {H' : Heap} (h : applyF T cf f args c.A = some (v, H')) : Does P ((do let d ← Deferred.ofValue y args'; invoke d.target d.args : Sem Next).run P c.w) c v H' := by
  unfold applyF at h
  split at h
  · rename_i f first cap
    cases hf with
    | fn f x z x' z' hx hx' hz hz' =>
      have h1 : VRs c first x'.toList := ⟨by simpa using hx, fun k a v h1 h2 => hx' k a v h1 (by simpa using h2)⟩
      have h2 : VRs c cap z'.toList := ⟨by simpa using hz, fun k a v h1 h2 => hz' k a v h1 (by simpa using h2)⟩
      have := hcf _ _ _ _ _ h c hc rfl (x' ++ args' ++ z') (by simpa using (h1.append ha).append h2)
      simpa [Deferred.ofValue, invoke] using this
  · rename_i m first cap
    cases hf with
    | fn f x z x' z' hx hx' hz hz' =>
      have h1 : VRs c first x'.toList := ⟨by simpa using hx, fun k a v h1 h2 => hx' k a v h1 (by simpa using h2)⟩
      have hfa := h1.append ha
      split at h
      · rename_i x r heq
        rw [heq] at hfa
        obtain ⟨u, us, e1, hu, hus⟩ := hfa.uncons
        have hargs : x' ++ args' = (u :: us).toArray := by apply Array.ext'; simpa using e1
        have := invoke_ok hT hc hcf hu (args' := us.toArray) (by simpa using hus) h
        have hget : (x' ++ args')[0]? = some u := by rw [hargs]; simp
        have hext : (x' ++ args').extract 1 (x' ++ args').size = us.toArray := by rw [hargs]; apply Array.ext'; simp
        simp only [Deferred.ofValue, Sem.run_bind, Sem.run_pure, Result.andThen_ok, invoke, hget, hext]
        exact this
      · cases h
  · rename_i fv first cap _ _
    cases hf with
    | fn f x z x' z' hx hx' hz hz' =>
      have h1 : VRs c first x'.toList := ⟨by simpa using hx, fun k a v h1 h2 => hx' k a v h1 (by simpa using h2)⟩
      have hfa := h1.append ha
      split at h
      · rename_i f x r hv heq
        rw [heq] at hfa
        obtain ⟨u, us, e1, hu, hus⟩ := hfa.uncons
        have hargs : x' ++ args' = #[u] ++ us.toArray := by apply Array.ext'; simpa using e1
        have := hcf _ _ _ _ _ h c hc rfl (#[u] ++ us.toArray) (by simpa using VRs.cons hu hus)
        simp only [Deferred.ofValue, Sem.run_bind, Sem.run_pure, Result.andThen_ok, hargs]
        rw [hT.via _ _ hv]
        exact this
      · cases h
  · cases h

theorem ix_ok {c : Cx} {m : Nat} {x : AV} {y : Value} (hx : VR c x y) {i : Nat} (h : ix m x = some i) : ∃ k j, y = .int k j ∧ 0 ≤ j ∧ j < (m : Int) ∧ j.toNat = i := by
  unfold ix at h
  split at h
  · split at h
    · rename_i k j hj
      cases h; cases hx
      exact ⟨_, _, rfl, hj.1, hj.2, rfl⟩
    · cases h
  · cases h

theorem aeqBin_ok {P : Program} {T : Tab} (hT : TabOK P T) {c : Cx} (hc : OK T c) {t : TypeId} {q : EqT} (hq : eqtO P 9 t = some q) {cn : Bool} {x y : AV} {x' y' : Value} (hx : VR c x x') (hy : VR c y y') (hn : AV.num x y = false) {r : Bool} (h : aeq T 9 q cn x y = some r) :
    DoesV P (binOp .eql t x' y') c (.bool r) c.A ∧ DoesV P (binOp .neq t x' y') c (.bool (!r)) c.A := by
  obtain ⟨h1, h2⟩ := aeq_ok hT 9 q cn x y r h t 9 hq Op.maxDepth (by decide) x' y' hx hy
  have hp := h2 hn t
  constructor
  · exact .same hc.wr (y := .bool r) (by rw [hp.1]; simp [Op.equal, h1]) (.bool _)
  · exact .same hc.wr (y := .bool (!r)) (by rw [hp.2]; simp [Op.equal, h1]) (.bool _)

theorem aeq_unk {T : Tab} {f : Nat} {q : EqT} {cn : Bool} {x : AV} : aeq T f q cn .unk x = none ∧ aeq T f q cn x .unk = none := by
  cases f with
  | zero => exact ⟨rfl, rfl⟩
  | succ f => constructor <;> (unfold aeq; split <;> first | rfl | (rename_i h; cases h) | (rename_i h1 h2; cases h1) | (rename_i h1 h2; cases h2))

theorem aeq_nil {T : Tab} {f : Nat} {q : EqT} {cn : Bool} {r : Bool} (h : aeq T f q cn (.cst .nilIface) (.cst .nilIface) = some r) : cn = true := by
  cases f with
  | zero => cases h
  | succ f => cases q <;> cases cn <;> simp [aeq] at h ⊢

theorem guard_nil {T : Tab} {c : Cx} {a b : AV} {q : EqT} {cn r : Bool} (ha : VR c a .nilIface) (hb : VR c b .nilIface) (h : aeq T 9 q cn a b = some r) : cn = true := by
  cases ha with
  | unk => rw [aeq_unk.1] at h; cases h
  | cst =>
    cases hb with
    | unk => rw [aeq_unk.2] at h; cases h
    | cst => exact aeq_nil h

theorem guard_agg {P : Program} {T : Tab} {c : Cx} {a b : AV} {q : EqT} {cn r : Bool} {t : TypeId} {u u' : Array Value} (ha : VR c a (.agg u)) (hb : VR c b (.agg u')) (hng : noGuard P t = true) (hq : eqtO P 9 t = some q) (h : aeq T 9 q cn a b = some r) :
    P.eqGuardType P.depth t = false := by
  have hs : ∃ fs, q = .struct fs := by
    cases ha with
    | unk => rw [aeq_unk.1] at h; cases h
    | cst => cases q <;> simp [aeq] at h
    | agg x x' _ _ =>
      cases hb with
      | unk => rw [aeq_unk.2] at h; cases h
      | cst => cases q <;> simp [aeq] at h
      | agg y y' _ _ => cases q <;> first | exact ⟨_, rfl⟩ | (simp [aeq] at h; done)
  obtain ⟨fs, rfl⟩ := hs
  obtain ⟨fs', k', _, hu, _⟩ := eqtO_struct hq
  unfold noGuard at hng
  rw [hu] at hng
  simpa using hng

/-- The guard against two nil interface values does not speak up. -/
theorem eqGuard_ok {P : Program} {T : Tab} {c : Cx} (op : BinOp) {t : TypeId} {x y : Operand} {a b : AV} {a' b' : Value} (ha : VR c a a') (hb : VR c b b') {q : EqT} {r : Bool} (hng : noGuard P t = true) (hq : eqtO P 9 t = some q)
    (h : aeq T 9 q (isK x || isK y) a b = some r) : (eqGuard op t x y a' b').run P c.w = .ok () c.w := by
  have hA : a' = .nilIface → b' = .nilIface → (isK x || isK y) = true := by rintro rfl rfl; exact guard_nil ha hb h
  have hB : ∀ u u', a' = .agg u → b' = .agg u' → P.eqGuardType P.depth t = false := by rintro u u' rfl rfl; exact guard_agg ha hb hng hq h
  clear ha hb h hq hng
  cases op with
  | eql =>
    unfold eqGuard
    simp only [Bool.not_true, Bool.false_eq_true, if_false]
    split
    · have hk := hA rfl rfl
      clear hA hB
      cases x <;> cases y <;> first | rfl | (simp; done) | (simp [isK] at hk; done)
    · simp [hB _ _ rfl rfl]
    · rfl
  | neq =>
    unfold eqGuard
    simp only [Bool.not_true, Bool.false_eq_true, if_false]
    split
    · have hk := hA rfl rfl
      clear hA hB
      cases x <;> cases y <;> first | rfl | (simp; done) | (simp [isK] at hk; done)
    · simp [hB _ _ rfl rfl]
    · rfl
  | _ => simp [eqGuard]
end Go.Eng

namespace Go.Eng
open Go

theorem some_pair {α : Type} {o : Option α} {H H' : Heap} {f : α → AV} {v : AV} (h : o.map (fun x => (f x, H)) = some (v, H')) : ∃ x, o = some x ∧ f x = v ∧ H = H' := by
  cases o with
  | none => cases h
  | some x => simp at h; exact ⟨x, rfl, h.1, h.2⟩

theorem some_pair' {o : Option AV} {H H' : Heap} {v : AV} (h : o.map (·, H) = some (v, H')) : o = some v ∧ H = H' := by
  cases o with
  | none => cases h
  | some x => simp at h; exact ⟨by rw [h.1], h.2⟩

section
variable {P : Program} {T : Tab} (hT : TabOK P T) {c : Cx} (hc : OK T c) {a : Act} {e : Env} (he : EnvR c e a.tmps) {cf : CF} (hcf : CFok P T cf)

theorem parts_ok {fs : List (Nat × Operand)} {g : Nat × Operand → Option (Nat × Nat × Opd)} {ps : List (Nat × Nat × Opd)} {place : Nat → Option (Nat × Nat)} {T : Tab} {c : Cx} (hc : OK T c) {a : Act} {e : Env} (he : EnvR c e a.tmps)
    (hg : ∀ p q, g p = some q → place p.1 = some (q.1, q.2.1) ∧ trOpd p.2 = some q.2.2) (h : mapOpt g fs = some ps) :
    (ps.map fun p => (p.1, p.2.1, ev T e p.2.2)).length = (fs.map fun p => (p.1, a.eval p.2)).length ∧
    ∀ (k : Nat) (p : Nat × Nat × AV) (q : Nat × Value), (ps.map fun p => (p.1, p.2.1, ev T e p.2.2))[k]? = some p → (fs.map fun p => (p.1, a.eval p.2))[k]? = some q → place q.1 = some (p.1, p.2.1) ∧ VR c p.2.2 q.2 := by
  obtain ⟨h1, h2⟩ := mapOpt_len h
  refine ⟨by simp [h1], fun k p q hp hq => ?_⟩
  rw [List.getElem?_map] at hp hq
  cases hx : fs[k]? with
  | none => rw [hx] at hq; cases hq
  | some x =>
    obtain ⟨b, hb, hgb⟩ := h2 k x hx
    rw [hx] at hq; rw [hb] at hp
    cases hq; cases hp
    obtain ⟨g1, g2⟩ := hg _ _ hgb
    exact ⟨g1, opd_ok hc he g2⟩

include hc he in
theorem op_mem {o : Oper} {ao : AOp} (htr : trOp P o.op = some ao) (hop : match o.op with
    | .move _ | .assign _ | .pick .. | .alloc _ | .box .. | .load .. | .store .. | .nilCheck _ | .unOp .. | .makeInterface .. | .makeFunc .. | .extract .. | .fieldAddr .. | .field .. | .indexAddr .. | .index .. => True
    | _ => False) (hT : TabOK P T) {v : AV} {H' : Heap} (h : aop T cf ao e c.A = some (v, H')) : Does P ((execOp a.eval o).run P c.w) c v H' := by
  obtain ⟨dst, op, ty, pos, after, guard⟩ := o
  simp only at htr hop
  cases op <;> simp only at hop <;> simp only [trOp] at htr <;> simp only [execOp]
  case move x =>
    cases hx : trOpd x with
    | none => rw [hx] at htr; cases htr
    | some x' => rw [hx] at htr; cases htr; cases h; exact Does.same hc.wr rfl (opd_ok hc he hx)
  case assign x =>
    cases hx : trOpd x with
    | none => rw [hx] at htr; cases htr
    | some x' => rw [hx] at htr; cases htr; cases h; exact Does.same hc.wr rfl (opd_ok hc he hx)
  case pick k x y =>
    split at htr
    · rename_i k' x' y' hk hx hy
      cases htr
      simp only [aop] at h
      split at h
      · rename_i t ht
        cases h
        have hb := opd_ok hc he hk
        rw [ht] at hb
        generalize hz : a.eval k = z at hb
        cases hb
        cases t with
        | true => exact Does.same hc.wr (y := a.eval x) (by simp [asBool]) (opd_ok hc he hx)
        | false => exact Does.same hc.wr (y := a.eval y) (by simp [asBool]) (opd_ok hc he hy)
      · cases h
    · cases htr
  case alloc t =>
    cases hz : zeroO P t with
    | none => rw [hz] at htr; cases htr
    | some z => rw [hz] at htr; cases htr; cases h; exact (alloc_ok hc hz).does
  case box t x =>
    cases hx : trOpd x with
    | none => rw [hx] at htr; cases htr
    | some x' =>
      rw [hx] at htr; cases htr
      simp only [aop] at h
      cases hb : (ev T e x').cells.all AV.isCell with
      | false => rw [hb] at h; cases h
      | true => rw [hb] at h; cases h; exact (box_ok hc (opd_ok hc he hx) hb).does
  case load t x =>
    split at htr
    · rename_i n x' hn hx
      cases htr
      have hv := opd_ok hc he hx
      cases n with
      | none =>
        simp only [aop] at h
        split at h
        · rename_i i off g hev
          rw [hev] at hv
          split at h
          · rename_i u hu; cases h; exact (load_one_ok hc hn hv hu).does
          · cases h
        · rename_i u r hev
          rw [hev] at hv
          cases h
          exact (load_one_ok hc hn hv (by simp [behind])).does
        · cases h
      | some n =>
        simp only [aop] at h
        split at h
        · rename_i i off g hev
          rw [hev] at hv
          split at h
          · rename_i cs hcs; cases h; exact (load_agg_ok hc hn hv hcs).does
          · cases h
        · rename_i cs hev
          rw [hev] at hv
          split at h
          · rename_i hle; cases h; exact (load_agg_ok hc hn hv (by simp [behind, hle])).does
          · cases h
        · cases h
    · cases htr
  case store t x y =>
    split at htr
    · rename_i n x' y' hn hx hy
      cases htr
      simp only [aop] at h
      split at h
      · rename_i i off g hev
        have hv := opd_ok hc he hx
        rw [hev] at hv
        split at h
        · rename_i hcond
          split at h
          · rename_i H1 hH
            cases h
            exact (store_ok hc hn hv (opd_ok hc he hy) hcond.1 hcond.2 hH).does
          · cases h
        · cases h
      · cases h
    · cases htr
  case nilCheck x =>
    cases hx : trOpd x with
    | none => rw [hx] at htr; cases htr
    | some x' =>
      rw [hx] at htr; cases htr
      have hv := opd_ok hc he hx
      simp only [aop] at h
      split at h <;> first | (cases h; done) | skip
      all_goals (rename_i hev; rw [hev] at hv; generalize a.eval x = y at hv)
      · cases h
        cases hv with
        | ptr _ _ _ o ad h1 h2 h3 => exact Does.same hc.wr rfl (.ptr _ _ _ o ad h1 h2 h3)
      · cases h
        cases hv with
        | ep _ vs b o hl hr hp hcc => exact Does.same hc.wr rfl (.ep _ vs b o hl hr hp hcc)
      · cases h
        cases hv with
        | iface _ _ y hh => exact Does.same hc.wr rfl (.iface _ _ y hh)
      · split at h
        · rename_i f hf
          cases h
          cases hv with
          | fn f x y x' y' hx hx' hy hy' =>
            have hl : VRs c _ x'.toList := ⟨by simpa using hx, fun k a v h1 h2 => hx' k a v h1 (by simpa using h2)⟩
            obtain ⟨u, us, e1, hu, hus⟩ := hl.uncons
            have hxa : x' = (u :: us).toArray := by apply Array.ext'; simpa using e1
            cases hu with
            | iface t x y hh =>
              have hm := (hT.meth _ _ _ hf y c.w).2
              refine Does.same hc.wr (y := .func (.method _) x' y') ?_ (.fn _ _ _ _ _ hx hx' hy hy')
              subst hxa
              simp [hm]
        · cases h
      · cases h
        cases hv with
        | fn f x y x' y' hx hx' hy hy' => exact Does.same hc.wr rfl (.fn _ _ _ _ _ hx hx' hy hy')
  case unOp op t x =>
    cases hx : trOpd x with
    | none => rw [hx] at htr; cases htr
    | some x' =>
      rw [hx] at htr; cases htr
      have hv := opd_ok hc he hx
      simp only [aop] at h
      obtain ⟨h1, rfl⟩ := some_pair' h
      generalize ev T e x' = z at hv h1
      generalize a.eval x = y at hv
      unfold aun at h1
      split at h1
      · cases hv
        split at h1 <;> first
          | (cases h1; done)
          | (cases h1; exact Does.same hc.wr (by simp [Op.unary, Op.intArith, Op.intBits] <;> rfl) (.int _ _))
      · cases hv
        split at h1 <;> first
          | (cases h1; done)
          | (cases h1; exact Does.same hc.wr (by simp [Op.unary] <;> rfl) (.bool _))
      · cases h1
  case makeInterface t x =>
    split at htr
    · cases htr
    · rename_i d x' hni hd hx
      cases htr
      cases h
      have hr : (Instr.makeInterface t (a.eval x)).run P c.w = .ok (.iface t (a.eval x)) c.w := by
        simp only [Instr.makeInterface, Sem.run_bind, run_underlying hd, Result.andThen_ok]
        rfl
      exact (DoesV.same hc.wr hr (.iface _ _ _ (opd_ok hc he hx))).does
    · cases htr
  case makeFunc f x y =>
    split at htr
    · rename_i x' y' hx hy
      cases htr
      cases h
      have h1 := opds_ok hc he hx
      have h2 := opds_ok hc he hy
      exact (DoesV.same hc.wr (y := .func f (x.map a.eval) (y.map a.eval)) (by simp [Instr.makeFunc]) (.fn _ _ _ _ _ (by simpa using h1.len) (fun k b v hk hv => h1.rel k b v hk (by simpa using hv)) (by simpa using h2.len) (fun k b v hk hv => h2.rel k b v hk (by simpa using hv)))).does
    · cases htr
  case extract x k =>
    cases hx : trOpd x with
    | none => rw [hx] at htr; cases htr
    | some x' =>
      rw [hx] at htr; cases htr
      have hv := opd_ok hc he hx
      simp only [aop] at h
      split at h
      · rename_i xs hev
        rw [hev] at hv
        obtain ⟨ys, hy, hl⟩ := hv.tup_inv
        split at h
        · rename_i u hu
          cases h
          obtain ⟨z, h1, h2⟩ := VRs.find hl _ _ hu
          exact (DoesV.same hc.wr (y := z) (by simp [Instr.extract, hy, h1]) h2).does
        · cases h
      · cases h
  case fieldAddr s x k =>
    split at htr
    · rename_i fs x' hu hx
      split at htr
      · rename_i f hf
        split at htr
        · rename_i n hn
          cases htr
          have hv := opd_ok hc he hx
          have hfp : ∀ ad : Addr, (fieldPlace ad f).run P c.w = .ok (ad.add f.offset) c.w := fun ad => by simp [fieldPlace, run_size hn]
          simp only [aop] at h
          split at h
          · rename_i i off g hev
            cases h
            rw [hev] at hv
            generalize hz : a.eval x = z at hv
            cases hv with
            | ptr i off g o ad h1 h2 h3 =>
              refine (DoesV.same hc.wr (y := .pointer (some (ad.add f.offset))) (by simp [Instr.fieldAt, run_underlying hu, hf, Instr.sureAddr, hfp]) (.ptr _ _ _ o _ h1 h2 fun e1 => ?_)).does
              rw [h3 e1]; simp only [Cx.at]; rw [add_none]; simp
          · rename_i cs hev
            cases h
            rw [hev] at hv
            generalize hz : a.eval x = z at hv
            cases hv with
            | ep cells vs b o hl hr hp hcc =>
              have hd := VRs.drop ⟨hl, hr⟩ f.offset
              refine (DoesV.same hc.wr (y := .pointer (some ⟨b, o + f.offset, none⟩)) (by simp [Instr.fieldAt, run_underlying hu, hf, Instr.sureAddr, hfp, add_none]) (.ep _ (vs.drop f.offset) b _ hd.len hd.rel hp fun k v hk => ?_)).does
              rw [List.getElem?_drop] at hk
              rw [Nat.add_assoc]; exact hcc _ v hk
          · cases h
        · cases htr
      · cases htr
    · cases htr
  case field s x k =>
    split at htr
    · rename_i fs x' hu hx
      split at htr
      · rename_i f hf
        cases hag : aggO P f.type with
        | none => rw [hag] at htr; cases htr
        | some n =>
          rw [hag] at htr; cases htr
          have hv := opd_ok hc he hx
          simp only [aop] at h
          split at h
          · rename_i cs hev
            rw [hev] at hv
            obtain ⟨ys, hy, hl⟩ := hv.agg_inv
            obtain ⟨h1, rfl⟩ := some_pair' h
            obtain ⟨z, hz1, hz2⟩ := partA_ok (P := P) hag hl h1
            exact (DoesV.same hc.wr (y := z) (by simp [Instr.field, run_underlying hu, hf, hy, asAgg, hz1]) hz2).does
          · cases h
      · cases htr
    · cases htr
  case indexAddr t x i =>
    split at htr
    · rename_i x' i' hx hi
      have hvx := opd_ok hc he hx
      have hvi := opd_ok hc he hi
      split at htr
      · rename_i n el hu
        cases hs : sizeO P el with
        | none => rw [hs] at htr; cases htr
        | some s =>
          rw [hs] at htr; cases htr
          simp only [aop] at h
          split at h
          · rename_i j off g hev
            rw [hev] at hvx
            obtain ⟨k, hk, rfl, rfl⟩ := some_pair h
            obtain ⟨ik, z, hz, h0, h1, rfl⟩ := ix_ok hvi hk
            generalize hy : a.eval x = y at hvx
            cases hvx with
            | ptr _ _ _ o ad q1 q2 q3 =>
              refine (DoesV.same hc.wr (y := .pointer (some (ad.add (z.toNat * s)))) (by simp [Instr.indexAt, hz, asIntOf, run_underlying hu, Instr.sureAddr, h0, h1, run_size hs]) (.ptr _ _ _ o _ q1 q2 fun e1 => ?_)).does
              rw [q3 e1]; simp only [Cx.at]; rw [add_none]; simp
          · rename_i cs hev
            rw [hev] at hvx
            obtain ⟨k, hk, rfl, rfl⟩ := some_pair h
            obtain ⟨ik, z, hz, h0, h1, rfl⟩ := ix_ok hvi hk
            generalize hy : a.eval x = y at hvx
            cases hvx with
            | ep cells vs b o hl hr hp hcc =>
              have hd := VRs.drop ⟨hl, hr⟩ (z.toNat * s)
              refine (DoesV.same hc.wr (y := .pointer (some ⟨b, o + z.toNat * s, none⟩)) (by simp [Instr.indexAt, hz, asIntOf, run_underlying hu, Instr.sureAddr, h0, h1, run_size hs, add_none]) (.ep _ (vs.drop (z.toNat * s)) b _ hd.len hd.rel hp fun k v hk => ?_)).does
              rw [List.getElem?_drop] at hk
              rw [Nat.add_assoc]; exact hcc _ v hk
          · cases h
      · rename_i el hu
        split at htr
        · rename_i s0 hs
          cases htr
          obtain ⟨s, hs1⟩ : ∃ s, s = s0 + 1 := ⟨_, rfl⟩
          change sizeO P el = some (s0 + 1) at hs
          rw [← hs1] at h hs
          simp only [aop] at h
          split at h
          · rename_i full n s' cs hev
            rw [hev] at hvx
            split at h
            · rename_i hss
              subst hss
              obtain ⟨k, hk, rfl, rfl⟩ := some_pair h
              obtain ⟨ik, z, hz, h0, h1, rfl⟩ := ix_ok hvi hk
              generalize hy : a.eval x = y at hvx
              cases hvx with
              | sl full n e cells vs b o cap sp hsp hn hf0 hee hlen hr hp hcc =>
                have hd := VRs.drop ⟨hlen, hr⟩ (z.toNat * s)
                have hne : cs ≠ [] := by
                  rintro rfl
                  simp only [List.length_nil] at hee
                  rcases Nat.mul_eq_zero.1 hee.symm with h2 | h2 <;> omega
                obtain rfl := hsp hne
                · refine (DoesV.same hc.wr (y := .pointer (some ⟨b, o + z.toNat * s, none⟩)) (by simp [Instr.indexAt, hz, asIntOf, run_underlying hu, h0, h1, run_size hs, add_none]) (.ep _ (vs.drop (z.toNat * s)) b _ hd.len hd.rel (hp hne) fun k v hk => ?_)).does
                  rw [List.getElem?_drop] at hk
                  rw [Nat.add_assoc]; exact hcc _ v hk
            · cases h
          · rename_i j off n s' g hev
            rw [hev] at hvx
            split at h
            · rename_i hss
              subst hss
              obtain ⟨k, hk, rfl, rfl⟩ := some_pair h
              obtain ⟨ik, z, hz, h0, h1, rfl⟩ := ix_ok hvi hk
              generalize hy : a.eval x = y at hvx
              cases hvx with
              | ms i off n e g o ad cap q1 q2 hn hsp ha hroom =>
                refine (DoesV.same hc.wr (y := .pointer (some (ad.add (z.toNat * s)))) (by simp [Instr.indexAt, hz, asIntOf, run_underlying hu, h0, h1, run_size hs]) (.ptr _ _ _ o _ q1 q2 fun e1 => ?_)).does
                rw [ha e1 (by omega)]; simp only [Cx.at]; rw [add_none]; simp
            · cases h
          · cases h
        · cases htr
      · cases htr
    · cases htr
  case index t x i =>
    split at htr
    · rename_i x' i' hx hi
      have hvx := opd_ok hc he hx
      have hvi := opd_ok hc he hi
      split at htr
      · rename_i hu
        cases htr
        simp only [aop] at h
        split at h
        · rename_i s hev
          rw [hev] at hvx
          split at h
          · rename_i k hk
            split at h
            · rename_i b hb
              cases h
              obtain ⟨ik, z, hz, h0, h1, rfl⟩ := ix_ok hvi hk
              generalize hy : a.eval x = y at hvx
              cases hvx
              have hget : (ByteArray.mk s.toArray)[z.toNat]? = some b := by
                have hlt := (List.getElem?_eq_some_iff.1 hb).1
                have e1 : s[z.toNat] = b := (List.getElem?_eq_some_iff.1 hb).2
                rw [getElem?_pos _ _ (by rw [bytes_size]; exact hlt)]
                rw [← e1]; rfl
              exact (DoesV.same hc.wr (y := .int .u8 b.toNat) (by simp [Instr.index, hz, asIntOf, run_underlying hu, h0, hget]) (.int _ _)).does
            · cases h
          · cases h
        · cases h
      · rename_i n el hu
        split at htr
        · rename_i s ag hs hag
          cases htr
          simp only [aop] at h
          split at h
          · rename_i cs hev
            rw [hev] at hvx
            split at h
            · rename_i k hk
              obtain ⟨h1', rfl⟩ := some_pair' h
              obtain ⟨ik, z, hz, h0, h1, rfl⟩ := ix_ok hvi hk
              obtain ⟨ys, hy, hl⟩ := hvx.agg_inv
              obtain ⟨u, hu1, hu2⟩ := partA_ok (P := P) hag hl h1'
              exact (DoesV.same hc.wr (y := u) (by simp [Instr.index, hz, asIntOf, run_underlying hu, h0, h1, hy, run_size hs, hu1]) hu2).does
            · cases h
          · cases h
        · cases htr
      · cases htr
    · cases htr
end
end Go.Eng
