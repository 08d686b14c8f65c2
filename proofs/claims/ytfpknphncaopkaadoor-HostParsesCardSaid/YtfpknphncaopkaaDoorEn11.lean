/- The operations, one by one: conversions, literals, makes, indexes. No condition. -/
import Derived.Test.YtfpknphncaopkaaDoorEn10
namespace Go.Eng
open Go

/-! ### literals -/
theorem foldl_set (off : Nat) : ∀ (vs : List Value) (j : Nat) (cs : Array Value), off + j + vs.length ≤ cs.size →
    ((vs.zipIdx j).foldl (fun cs (c, j) => cs.setIfInBounds (off + j) c) cs).toList = cs.toList.take (off + j) ++ vs ++ cs.toList.drop (off + j + vs.length)
  | [], j, cs, h => by simp
  | v :: vs, j, cs, h => by
    simp only [List.zipIdx_cons, List.foldl_cons]
    rw [foldl_set off vs (j + 1) _ (by simp at h ⊢; omega)]
    simp only [Array.toList_setIfInBounds, List.length_cons] at h ⊢
    apply List.ext_getElem?
    intro k
    have hsz : cs.toList.length = cs.size := by simp
    by_cases h1 : k < off + j
    · rw [List.getElem?_append_left (by simp; omega), List.getElem?_append_left (by simp; omega), List.getElem?_append_left (by simp; omega), List.getElem?_append_left (by simp; omega)]
      rw [List.getElem?_take, if_pos (by omega), List.getElem?_take, if_pos h1, List.getElem?_set_ne (by omega)]
    · by_cases h2 : k = off + j
      · subst h2
        rw [List.getElem?_append_left (by simp; omega), List.getElem?_append_left (by simp; omega), List.getElem?_take, if_pos (by omega), List.getElem?_set_self (by rw [hsz]; omega)]
        rw [List.getElem?_append_left (by simp; omega), List.getElem?_append_right (by rw [List.length_take, hsz]; omega)]
        rw [List.length_take, hsz, Nat.min_eq_left (by omega)]
        simp
      · by_cases h3 : k < off + j + 1 + vs.length
        · rw [List.getElem?_append_left (by simp; omega), List.getElem?_append_right (by simp; omega), List.getElem?_append_left (by simp; omega), List.getElem?_append_right (by simp; omega)]
          simp only [List.length_take, List.length_set, hsz]
          rw [Nat.min_eq_left (by omega), Nat.min_eq_left (by omega)]
          rw [show k - (off + j) = (k - (off + (j + 1))) + 1 by omega]
          simp
        · rw [List.getElem?_append_right (by simp; omega), List.getElem?_append_right (by simp; omega)]
          simp only [List.length_append, List.length_take, List.length_set, hsz, List.length_cons]
          rw [Nat.min_eq_left (by omega), Nat.min_eq_left (by omega), List.getElem?_drop, List.getElem?_drop, List.getElem?_set_ne (by omega)]
          congr 1
          omega

theorem VRs.splice {c : Cx} {xs ys : List AV} {xs' ys' : List Value} (h : VRs c xs xs') (k : VRs c ys ys') (off : Nat) : VRs c (Eng.splice xs off ys) (xs'.take off ++ ys' ++ xs'.drop (off + ys'.length)) := by
  unfold Eng.splice
  rw [k.len]
  exact ((h.take off).append k).append (h.drop _)

theorem fill_ok {c : Cx} {place : Nat → Option (Nat × Nat)} : ∀ {ps : List (Nat × Nat × AV)} {qs : List (Nat × Value)} {cs : List AV} {vs : Array Value} {r : List AV}, VRs c cs vs.toList → ps.length = qs.length →
    (∀ (k : Nat) (p : Nat × Nat × AV) (q : Nat × Value), ps[k]? = some p → qs[k]? = some q → place q.1 = some (p.1, p.2.1) ∧ VR c p.2.2 q.2) → fillP cs ps = some r → ∃ us, Instr.fill place vs qs = some us ∧ VRs c r us.toList
  | [], [], cs, vs, r, h, _, _, hf => by cases hf; exact ⟨vs, rfl, h⟩
  | p :: ps, q :: qs, cs, vs, r, h, hl, hp, hf => by
    obtain ⟨off, size, v⟩ := p
    obtain ⟨i, u⟩ := q
    obtain ⟨hpl, hv⟩ := hp 0 _ _ rfl rfl
    simp only at hpl hv
    unfold fillP at hf
    split at hf
    · rename_i hc
      obtain ⟨h1, h2, h3⟩ := hc
      obtain ⟨hcs, _⟩ := cells_ok hv h3
      have hsz : u.cells.size = size := by have := hcs.len; simp at this; omega
      have hvl : cs.length = vs.size := by simpa using h.len
      have hset := foldl_set off u.cells.toList 0 vs (by simp; omega)
      obtain ⟨us, hu1, hu2⟩ := fill_ok (vs := u.cells.zipIdx.foldl (fun cs (c, j) => cs.setIfInBounds (off + j) c) vs) (by
        rw [← Array.foldl_toList]
        have := h.splice hcs off
        simp only [Array.toList_zipIdx]
        rw [hset]
        simpa using this) (by simpa using hl) (fun k p q hk hq => hp (k + 1) p q (by simpa using hk) (by simpa using hq)) hf
      refine ⟨us, ?_, hu2⟩
      unfold Instr.fill
      rw [hpl]
      simp only
      rw [if_neg (by simp; omega)]
      exact hu1
    · cases hf
  | [], _ :: _, _, _, _, _, hl, _, _ => by simp at hl
  | _ :: _, [], _, _, _, _, hl, _, _ => by simp at hl

theorem reps_len (z : List AV) : ∀ n, (reps n z).length = n * z.length
  | 0 => by simp [reps]
  | n + 1 => by simp [reps, reps_len z n, Nat.add_mul]; omega

theorem reps_get (z : List AV) : ∀ (n k : Nat), k < n * z.length → (reps n z)[k]? = z[k % z.length]?
  | 0, k, h => by simp at h
  | n + 1, k, h => by
    unfold reps
    rcases Nat.lt_or_ge k z.length with h1 | h1
    · rw [List.getElem?_append_left h1, Nat.mod_eq_of_lt h1]
    · rw [List.getElem?_append_right h1, reps_get z n _ (by rw [Nat.add_mul] at h; omega), Nat.mod_eq_sub_mod h1]

theorem reps_vr {c : Cx} {z : List AV} {zv : Array Value} (h : VRs c z zv.toList) (n : Nat) : VRs c (reps n z) ((Array.range (n * zv.size)).map (zv[· % zv.size]!)).toList := by
  have hl : z.length = zv.size := by simpa using h.len
  refine ⟨by simp [reps_len, hl], fun k a v h1 h2 => ?_⟩
  have hk : k < n * z.length := by rw [← reps_len z n]; exact (List.getElem?_eq_some_iff.1 h1).1
  have hz : 0 < z.length := by
    rcases Nat.eq_zero_or_pos z.length with h0 | h0
    · rw [h0] at hk; simp at hk
    · exact h0
  rw [reps_get z n k hk] at h1
  have hm : k % z.length < z.length := Nat.mod_lt _ hz
  refine h.rel _ a v h1 ?_
  rw [hl] at hk hm
  simp [hk] at h2
  rw [← h2, hl]
  rw [Array.getElem?_toList, Array.getElem?_eq_getElem hm]
  simp [hm]

/-- A fresh row of permanent cells: a slice by value. -/
theorem fresh_sl {P : Program} {T : Tab} {c : Cx} (hc : OK T c) {cs : List AV} {vs : Array Value} (t : TypeId) (h : VRs c cs vs.toList) {n e : Nat} (hn : cs.length = n * e) :
    ∃ c', (newRow t vs).run P c.w = .ok ⟨c.w.heap.size, 0, none⟩ c'.w ∧ Ext c c' ∧ WR c' ∧ c'.A = c.A ∧ VR c' (.sl true n e cs) (.slice (some ⟨c.w.heap.size, 0, none⟩) n n) := by
  have hold : ∀ b, b < c.w.heap.size → (c.w.heap.push (Obj.cells vs t))[b]? = c.w.heap[b]? := fun b hb => by rw [Array.getElem?_push, if_neg (by omega)]
  have hnb : (c.w.heap.push (Obj.cells vs t))[c.w.heap.size]? = some (.cells vs t) := by rw [Array.getElem?_push]; simp
  let w' : World := { c.w with heap := c.w.heap.push (.cells vs t) }
  have hE : Ext c (c.setW w') :=
    { F := rfl
      row := fun i o h => ⟨o, h, Nat.le_refl _, fun _ => ⟨rfl, rfl⟩⟩
      own := fun b h => .inl h
      size := by simp [Cx.setW, w']
      frame := fun b hb _ => hold b hb
      room := fun a ha => by
        have := cell_lt ha
        show ((c.setW w').w.cell? a).isSome = true
        rw [cell_of_heap' (w := c.w) (hold _ this)]; exact ha
      os := rfl
      out := rfl }
  have hW : WR (c.setW w') :=
    { lt := fun i o h => by have := hc.wr.lt i o h; simp [Cx.setW, w']; omega
      nf := hc.wr.nf
      inj := hc.wr.inj
      cell := fun i o h k a hk => by
        obtain ⟨v, h1, h2⟩ := hc.wr.cell i o h k a hk
        exact ⟨v, by rw [← h1]; exact cell_of_heap (hold _ (hc.wr.lt i o h)), h2.ext hE⟩
      soft := fun i o h hl k hk => by
        have hb := hold _ (hc.wr.lt i o h)
        have hk' : (c.w.cell? ⟨c.blk i, k, none⟩).isSome = true := by rw [← hk]; congr 1; exact (cell_of_heap hb).symm
        rw [← hc.wr.soft i o h hl k hk']; exact frozen_of_heap hb }
  refine ⟨c.setW w', by simp [newRow, Cx.setW, w'], hE, hW, rfl, ?_⟩
  have h' := h.ext hE
  refine .sl true n e cs vs.toList c.w.heap.size 0 n none (fun _ => rfl) (Nat.le_refl _) (fun _ => rfl) hn h'.len h'.rel (fun _ => ⟨by simp [Cx.setW, w'], fun ho => ?_⟩) (fun k v hk => ?_)
  · rcases ho with ho | ⟨i, o, h1, _, h3⟩
    · exact hc.fr _ (Nat.le_refl _) ho
    · have := hc.wr.lt i o h1
      simp only [Cx.setW] at h3
      omega
  · simp only [Cx.setW, w', World.cell?, hnb, Nat.zero_add]
    simpa using hk

/-! ### conversions -/
theorem bytesOf_ok {c : Cx} : ∀ {cs : List AV} {vs : List Value} {s : List UInt8}, VRs c cs vs → bytesOf cs = some s → ∃ ns : List Int, vs = ns.map (Value.int .u8) ∧ s = ns.map fun n => UInt8.ofNat n.toNat
  | [], vs, s, h, hb => by
    cases hb
    obtain rfl : vs = [] := List.eq_nil_of_length_eq_zero (by simpa using h.len.symm)
    exact ⟨[], rfl, rfl⟩
  | a :: cs, vs, s, h, hb => by
    obtain ⟨v, vs', rfl, hv, hvs⟩ := h.uncons
    unfold bytesOf at hb
    split at hb
    · rename_i heq; cases heq
    · rename_i n r heq
      cases heq
      cases hv
      split at hb
      · rename_i l hl
        cases hb
        obtain ⟨ns, h1, h2⟩ := bytesOf_ok hvs hl
        exact ⟨n :: ns, by simp [h1], by simp [h2]⟩
      · cases hb
    · cases hb

theorem foldl_push (ns : List Int) : ∀ s : ByteArray, ns.foldl (fun r n => r.push (UInt8.ofNat n.toNat)) s = ⟨(s.data.toList ++ ns.map fun n => UInt8.ofNat n.toNat).toArray⟩ := by
  induction ns with
  | nil => intro s; simp
  | cons n ns ih =>
    intro s
    simp only [List.foldl_cons, ih]
    apply ByteArray.ext
    apply Array.ext'
    simp [ByteArray.push]

theorem push_modify (h : Array Obj) (x : Obj) (f : Obj → Obj) : (h.push x).modify h.size f = h.push (f x) := by
  apply Array.ext
  · simp
  · intro i h1 h2
    simp only [Array.getElem_modify, Array.getElem_push]
    by_cases e : h.size = i
    · subst e; simp
    · simp at h2
      rw [if_neg e]
      simp [show i < h.size by omega]

theorem toBytes_ok {P : Program} {T : Tab} {c : Cx} (hc : OK T c) (el : TypeId) (s : List UInt8) : DoesV P (Conv.stringToBytes el ⟨s.toArray⟩) c (.ms c.A.length 0 s.length 1 0) (hnew c.A (bcells s)) := by
  let cap := (Question.appendCap s.length 0 el).cut (c.w.tape c.w.drawn (Question.appendCap s.length 0 el))
  let vs : Array Value := (s.toArray.map fun b => Value.int .u8 b.toNat) ++ Array.replicate (cap - s.length) (.int .u8 0)
  have hcap : s.length ≤ cap := by simp [cap, Question.cut]
  have hvs : vs.size = cap := by simp [vs]; omega
  have hrun : (Conv.stringToBytes el ⟨s.toArray⟩).run P c.w = .ok (.slice (some ⟨c.w.heap.size, 0, none⟩) s.length cap) { c.w with drawn := c.w.drawn + 1, heap := c.w.heap.push (.cells vs el (cap, cap + 1)) } := by
    have hf : (Question.appendCap s.length 0 el).forced = false := rfl
    have hsz := bytes_size s
    simp only [Conv.stringToBytes, Sem.run_bind, hsz, run_choose, hf, Bool.false_eq_true, if_false, Result.andThen_ok, newRow, run_newObj, Sem.run_pure, markStringish, run_shape]
    have hsh : (World.shape? { c.w with drawn := c.w.drawn + 1, heap := c.w.heap.push (.cells vs el) } c.w.heap.size) = some (el, cap) := by
      simp [World.shape?, hvs]
    rw [show (Array.map (fun b => Value.int .u8 (b.toNat : Int)) (ByteArray.mk s.toArray).data ++ Array.replicate (Question.cut (Question.appendCap s.length 0 el) (c.w.tape c.w.drawn (Question.appendCap s.length 0 el)) - s.length) (Value.int .u8 0)) = vs from rfl, hsh]
    simp only [run_freeze, Result.andThen_ok, World.freeze]
    rw [if_neg (by decide)]
    simp only [push_modify]
    rfl
  have hn := new_ok hc.wr hc.fr (cs := bcells s) (vs := vs) (t := el) (fr := (cap, cap + 1)) (w' := { c.w with drawn := c.w.drawn + 1, heap := c.w.heap.push (.cells vs el (cap, cap + 1)) }) rfl rfl rfl (fun k hk => by simp; omega) (fun k a hk => by
    unfold bcells at hk
    rw [List.getElem?_map] at hk
    cases hb : s[k]? with
    | none => rw [hb] at hk; cases hk
    | some b =>
      rw [hb] at hk; cases hk
      have hlt := (List.getElem?_eq_some_iff.1 hb).1
      refine ⟨.int .u8 b.toNat, ?_, .int _ _⟩
      simp only [vs]
      rw [Array.getElem?_append_left (by simpa using hlt)]
      simp [hb])
  refine ⟨_, _, hrun, hn.1, hn.2, rfl, ?_⟩
  refine .ms _ _ _ _ _ ⟨bcells s, 0, true⟩ _ _ (hnew_new _ _) (Nat.le_refl _) hcap rfl (fun _ _ => by simp [Cx.at, Cx.new]) (fun _ _ k hk => ?_)
  simp only [Cx.at, Cx.new, if_true, World.cell?]
  rw [Array.getElem?_push]
  simp only [if_true, Option.isSome_none, Bool.false_eq_true, if_false]
  rw [Array.getElem?_eq_getElem (by rw [hvs]; omega)]; rfl

theorem ofBytes_ok {P : Program} {T : Tab} {c : Cx} (hc : OK T c) {x : AV} {y : Value} (hx : VR c x y) {m : Nat} {cs : List AV} (hv : viewOf c.A 1 x = some (m, cs)) (hs : ∀ s, x ≠ .str s) {s : List UInt8} (h : bytesOf cs = some s) :
    DoesV P (Conv.bytesToString y) c (.str s) c.A := by
  obtain ⟨hl, vs, hvs, hrd⟩ := view_ok (P := P) hc hx hv
  obtain ⟨ns, rfl, rfl⟩ := bytesOf_ok hvs h
  have h2 := (hrd c.w rfl).2
  unfold viewOf at hv
  split at hv
  · cases hv; cases hx
    have hns : ns = [] := by have := hvs.len; simpa using this.symm
    subst hns
    exact .same hc.wr (y := .string .empty) (by simp [Conv.bytesToString]) (.str [])
  · exact absurd rfl (hs _)
  all_goals first | (cases hv; done) | skip
  · rename_i full n e' cs'
    split at hv
    · cases hv
      cases hx with
      | sl full n e cells us b o cap sp hsp hn hf0 he hlen hr hp hcc =>
        simp only [Builtin.firstCells, Nat.mul_one] at h2
        refine .same hc.wr (y := .string ⟨(ns.map fun n => UInt8.ofNat n.toNat).toArray⟩) ?_ (.str _)
        rw [run_bytesToString c.w _ _ cap ns h2, foldl_push]
        simp
    · cases hv
  · rename_i i off n e' g
    split at hv
    · cases hh : hget c.A i off (n * 1) g with
      | none => rw [hh] at hv; cases hv
      | some cs' =>
        rw [hh] at hv; cases hv
        cases hx with
        | ms i off n e g ob a cap h1 hg hn hsp ha hroom =>
          simp only [Builtin.firstCells, Nat.mul_one] at h2
          refine .same hc.wr (y := .string ⟨(ns.map fun n => UInt8.ofNat n.toNat).toArray⟩) ?_ (.str _)
          rw [run_bytesToString c.w _ _ cap ns h2, foldl_push]
          simp
    · cases hv
end Go.Eng
