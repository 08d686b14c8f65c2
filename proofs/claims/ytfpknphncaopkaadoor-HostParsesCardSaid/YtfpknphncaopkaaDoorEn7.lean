/- The operations, one by one: numbers, memory, aggregates. No condition. -/
import Derived.Test.YtfpknphncaopkaaDoorEn6
namespace Go.Eng
open Go

/-- A run that gives a value. -/
def DoesV (P : Program) (s : Sem Value) (c : Cx) (v : AV) (H' : Heap) : Prop :=
  ∃ (y : Value) (c' : Cx), s.run P c.w = .ok y c'.w ∧ Ext c c' ∧ WR c' ∧ c'.A = H' ∧ VR c' v y

theorem DoesV.same {P : Program} {c : Cx} (hW : WR c) {s : Sem Value} {v : AV} {y : Value} (hr : s.run P c.w = .ok y c.w) (h : VR c v y) : DoesV P s c v c.A :=
  ⟨y, c, hr, Ext.refl c, hW, rfl, h⟩

theorem DoesV.does {P : Program} {s : Sem Value} {c : Cx} {v : AV} {H' : Heap} (h : DoesV P s c v H') : Does P ((do pure (Next.value (← s)) : Sem Next).run P c.w) c v H' := by
  obtain ⟨y, c', hr, hE, hW, hA, hv⟩ := h
  subst hA
  exact Does.of hE hW (by simp [hr]) hv

def DoesU (P : Program) (s : Sem Unit) (c : Cx) (H' : Heap) : Prop := ∃ (c' : Cx), s.run P c.w = .ok () c'.w ∧ Ext c c' ∧ WR c' ∧ c'.A = H'

theorem DoesU.does {P : Program} {s : Sem Unit} {c : Cx} {H' : Heap} (h : DoesU P s c H') : Does P ((do s; pure Next.skip : Sem Next).run P c.w) c .und H' := by
  obtain ⟨c', hr, hE, hW, hA⟩ := h
  subst hA
  exact Does.skip hE hW (by simp [hr])

/-! ### new rows -/
theorem new_row {P : Program} {T : Tab} {c : Cx} (hc : OK T c) {cs : List AV} {vs : Array Value} (t : TypeId) (hcs : ∀ (k : Nat) (a : AV), cs[k]? = some a → ∃ v, vs[k]? = some v ∧ VR c a v) :
    ∃ c', (newRow t vs).run P c.w = .ok ⟨c.w.heap.size, 0, none⟩ c'.w ∧ Ext c c' ∧ WR c' ∧ c'.A = hnew c.A cs ∧ c'.blk c.A.length = c.w.heap.size ∧ c'.base c.A.length = 0 ∧
      c'.w.heap = c.w.heap.push (.cells vs t) := by
  have hn := new_ok hc.wr hc.fr (cs := cs) (vs := vs) (t := t) (fr := (0, 0)) (w' := { c.w with heap := c.w.heap.push (.cells vs t) }) rfl rfl rfl (fun k _ => by simp) hcs
  exact ⟨c.new cs { c.w with heap := c.w.heap.push (.cells vs t) }, by simp [newRow, Cx.new], hn.1, hn.2, rfl, by simp [Cx.new], by simp [Cx.new], rfl⟩

theorem ptr_new {c' : Cx} {A : Heap} {cs : List AV} {b : Nat} (hA : c'.A = hnew A cs) (hb : c'.blk A.length = b) (hp : c'.base A.length = 0) : VR c' (.ptr A.length 0 0) (.pointer (some ⟨b, 0, none⟩)) :=
  .ptr _ _ _ ⟨cs, 0, true⟩ _ (by rw [hA]; exact hnew_new _ _) (Nat.le_refl _) fun _ => by simp [Cx.at, hb, hp]

theorem VRs.find {c : Cx} {x : List AV} {x' : Array Value} (h : VRs c x x'.toList) : ∀ (k : Nat) (a : AV), x[k]? = some a → ∃ v, x'[k]? = some v ∧ VR c a v := fun k a hk => by
  obtain ⟨v, h1, h2⟩ := h.get hk
  exact ⟨v, by simpa using h1, h2⟩

theorem alloc_ok {P : Program} {T : Tab} {c : Cx} (hc : OK T c) {t : TypeId} {z : List AV} (hz : zeroO P t = some z) : DoesV P (Instr.alloc t true (.tuple #[])) c (.ptr c.A.length 0 0) (hnew c.A z) := by
  unfold zeroO at hz
  split at hz
  · rename_i zv hzv
    obtain ⟨c', h1, h2, h3, h4, h5, h6, _⟩ := new_row (P := P) hc (cs := z) (vs := zv.cells) t (VRs.find (by simpa using mapOpt_rel (c := c) (g := id) (fun x a hx => ofC_ok hx) hz))
    exact ⟨_, c', by simp [Instr.alloc, run_zero hzv, newVar, h1], h2, h3, h4, ptr_new h4 h5 h6⟩
  · cases hz

theorem box_ok {P : Program} {T : Tab} {c : Cx} (hc : OK T c) {t : TypeId} {x : AV} {y : Value} (hx : VR c x y) (ha : x.cells.all AV.isCell = true) : DoesV P (Instr.box t y) c (.ptr c.A.length 0 0) (hnew c.A x.cells) := by
  obtain ⟨h, _⟩ := cells_ok hx ha
  obtain ⟨c', h1, h2, h3, h4, h5, h6, _⟩ := new_row (P := P) hc (cs := x.cells) (vs := y.cells) t (VRs.find h)
  exact ⟨_, c', by simp [Instr.box, newVar, h1], h2, h3, h4, ptr_new h4 h5 h6⟩

/-! ### loads and stores -/
theorem load_one_ok {P : Program} {T : Tab} {c : Cx} (hc : OK T c) {t : TypeId} (ht : aggO P t = some none) {x : AV} {y : Value} (hx : VR c x y) {v : AV} (h : behind c.A 1 x = some [v]) : DoesV P (Instr.loadAt t y) c v c.A := by
  obtain ⟨_, b, o, vs, rfl, h2, h3⟩ := behind_ok hc.wr hx h
  obtain ⟨u, x', rfl, h4, h5⟩ := h2.uncons
  have h0 : c.w.cell? ⟨b, o, none⟩ = some u := by simpa using h3 0 u rfl
  exact .same hc.wr (y := u) (by simp [Instr.loadAt, Instr.sureAddr, run_loadVar_one ht h0]) h4

theorem load_agg_ok {P : Program} {T : Tab} {c : Cx} (hc : OK T c) {t : TypeId} {n : Nat} (ht : aggO P t = some (some n)) {x : AV} {y : Value} (hx : VR c x y) {cs : List AV} (h : behind c.A n x = some cs) : DoesV P (Instr.loadAt t y) c (.agg cs) c.A := by
  obtain ⟨hl, b, o, vs, rfl, h2, h3⟩ := behind_ok hc.wr hx h
  exact .same hc.wr (y := .agg vs.toArray) (by simp [Instr.loadAt, Instr.sureAddr, run_loadVar_agg ht (h2.len.symm.trans hl) h3]) (.agg _ _ (by simp [h2.len]) (fun k a v h1 h2' => h2.rel k a v h1 (by simpa using h2')))

theorem splice_get {cs vs : List AV} {off k : Nat} (h : off + vs.length ≤ cs.length) : (splice cs off vs)[k]? = if off ≤ k ∧ k < off + vs.length then vs[k - off]? else cs[k]? := by
  unfold splice
  rw [List.append_assoc]
  rcases Nat.lt_or_ge k off with h1 | h1
  · rw [List.getElem?_append_left (by simp; omega), if_neg (by omega), List.getElem?_take, if_pos h1]
  · rw [List.getElem?_append_right (by simp; omega)]
    simp only [List.length_take, Nat.min_eq_left (show off ≤ cs.length by omega)]
    rcases Nat.lt_or_ge (k - off) vs.length with h2 | h2
    · rw [List.getElem?_append_left h2, if_pos (by omega)]
    · rw [List.getElem?_append_right h2, if_neg (by omega), List.getElem?_drop]
      congr 1; omega
theorem splice_len {cs vs : List AV} {off : Nat} (h : off + vs.length ≤ cs.length) : (splice cs off vs).length = cs.length := by
  unfold splice; simp; omega

theorem hset_some {H H' : Heap} {i off g : Nat} {vs : List AV} (h : hset H i off g vs = some H') : ∃ o, H[i]? = some o ∧ g = o.gen ∧ o.live = true ∧ off + vs.length ≤ o.cells.length ∧ H' = H.set i { o with cells := splice o.cells off vs } := by
  unfold hset at h
  split at h
  · rename_i o ho
    split at h
    · rename_i hc; cases h; exact ⟨o, ho, hc.1, hc.2.1, hc.2.2, rfl⟩
    · cases h
  · cases h

/-- Cells written into a row. -/
theorem write_row {P : Program} {T : Tab} {c : Cx} (hc : OK T c) {i off g : Nat} {xs : List AV} {ys : List Value} (hxy : VRs c xs ys) (h1 : ∀ v ∈ ys, v.oneCell' = true) {H' : Heap} (h : hset c.A i off g xs = some H') :
    ∃ c', (storeCells (c.at i off) ys).run P c.w = .ok () c'.w ∧ Ext c c' ∧ WR c' ∧ c'.A = H' := by
  obtain ⟨o, ho, hg, hl, hn, rfl⟩ := hset_some h
  have hcell : ∀ j, j < o.cells.length → (c.w.cell? ⟨c.blk i, c.base i + j, none⟩).isSome = true := fun j hj => by
    obtain ⟨v, hv, _⟩ := hc.wr.cell i o ho j _ (List.getElem?_eq_getElem hj)
    rw [show (⟨c.blk i, c.base i + j, none⟩ : Addr) = c.at i j from rfl, hv]; rfl
  have hlen := hxy.len
  have hc' : ∀ j, j < ys.length → (c.w.cell? ⟨c.blk i, c.base i + off + j, none⟩).isSome = true := fun j hj => by
    rw [Nat.add_assoc]; exact hcell _ (by omega)
  have hrun := run_storeCells_cells (P := P) (c.blk i) (c.base i + off) ys 0 c.w (fun j hj => by simpa using hc' j hj)
    (fun j hj => by have := hc.wr.soft i o ho hl _ (hc' j hj); simpa using this) h1
  have hre := re_ok hc.wr ho (b := c.blk i) (p := c.base i) (o' := { o with cells := splice o.cells off xs }) (w' := c.w.setCells (c.blk i) (c.base i + off) ys)
    (fun h => h) (Nat.le_refl _) (fun _ => ⟨rfl, rfl⟩) (.inl rfl) (Nat.le_of_eq (setCells_size _ _ _ _).symm) (by rw [setCells_size]; exact hc.wr.lt i o ho)
    (fun j _ hj => setCells_heap _ _ _ _ _ (by rcases hj with h | h; exact h; rw [hl] at h; cases h)) (fun a ha => setCells_room _ _ _ _ _ ha)
    (setCells_os _ _ _ _).1 (setCells_os _ _ _ _).2
    (fun _ k hk => by rw [World.frozen?_setCells]; exact hc.wr.soft i o ho hl k (setCells_room' _ _ _ _ _ hk))
    (fun k a hk => by
      simp only at hk
      rw [splice_get hn] at hk
      split at hk
      · rename_i hr
        obtain ⟨v, hv, hvr⟩ := hxy.get hk
        refine ⟨v, ?_, hvr⟩
        have := World.cell?_setCells_in (c.blk i) ys (c.base i + off) c.w hc' (k - off) (by omega)
        rw [show c.base i + off + (k - off) = c.base i + k by omega] at this
        rw [this, ← hv, List.getElem?_eq_getElem]
      · rename_i hr
        obtain ⟨v, hv, hvr⟩ := hc.wr.cell i o ho k a hk
        refine ⟨v, ?_, hvr⟩
        rw [World.cell?_setCells_out _ _ _ _ _ (fun _ _ => by simp only; omega)]
        exact hv)
  refine ⟨c.re i (c.blk i) (c.base i) { o with cells := splice o.cells off xs } (c.w.setCells (c.blk i) (c.base i + off) ys), ?_, hre.1, hre.2, rfl⟩
  simpa [Cx.re, Cx.at] using hrun

theorem store_ok {P : Program} {T : Tab} {c : Cx} (hc : OK T c) {t : TypeId} {n : Nat} (ht : sizeO P t = some n) {i off g : Nat} {y : Value} (hy : VR c (.ptr i off g) y) {x : AV} {z : Value} (hx : VR c x z)
    (hn : x.cells.length = n) (ha : x.cells.all AV.isCell = true) {H' : Heap} (h : hset c.A i off g x.cells = some H') : DoesU P (Instr.storeAt t y z) c H' := by
  obtain ⟨hcs, hone⟩ := cells_ok hx ha
  obtain ⟨c', hr, hE, hW, hA⟩ := write_row (P := P) hc hcs hone h
  obtain ⟨o, ho, hg, _⟩ := hset_some h
  cases hy with
  | ptr i off g o' a h1 h2 h3 =>
    obtain rfl : o' = o := Option.some.inj (h1.symm.trans ho)
    obtain rfl := h3 hg
    refine ⟨c', ?_, hE, hW, hA⟩
    have hsz : z.cells.size = n := by rw [← hn]; have := hcs.len; simp at this; omega
    simp [Instr.storeAt, Instr.sureAddr, storeVar, run_size ht, hsz, hr]

/-! ### numbers -/
def toV : AV → Value
  | .int k n => .int k n
  | .bool b => .bool b
  | .str s => .string ⟨s.toArray⟩
  | _ => undef

theorem intBin_ok {P : Program} {c : Cx} {op : BinOp} {k : IntKind} {x y : Int} {v : AV} (h : intBin op k x y = some v) (hs : op ≠ .shl) (hs' : op ≠ .shr) (t : TypeId) :
    (binOp op t (.int k x) (.int k y)).run P c.w = .ok (toV v) c.w ∧ VR c v (toV v) := by
  cases op <;> simp only [intBin] at h <;> first
    | exact absurd rfl hs
    | exact absurd rfl hs'
    | (split at h
       · cases h
       · rename_i hy; cases h; exact ⟨by simp [binOp, Op.intDiv, hy, toV], .int _ _⟩)
    | (cases h; exact ⟨by simp [binOp, Op.intArith, Op.intBits, Op.intCmp, toV], by first | exact .int _ _ | exact .bool _⟩)

theorem shift_ok {P : Program} {c : Cx} {op : BinOp} (hop : op = .shl ∨ op = .shr) {k k' : IntKind} {x y : Int} {v : AV} (h : shiftOp op k x y = some v) (t : TypeId) :
    (binOp op t (.int k x) (.int k' y)).run P c.w = .ok (toV v) c.w ∧ VR c v (toV v) := by
  unfold shiftOp at h
  split at h
  · cases h
  · rename_i hy
    rcases hop with rfl | rfl <;> (cases h; exact ⟨by simp [binOp, Op.shift, hy, toV], .int _ _⟩)

theorem bytes_toList (l : List UInt8) : (ByteArray.mk l.toArray).toList = l := by rw [ByteArray.toList_eq]
theorem bytes_size (l : List UInt8) : (ByteArray.mk l.toArray).size = l.length := by simp [ByteArray.size]

theorem strBin_ok {P : Program} {c : Cx} {op : BinOp} {x y : List UInt8} {v : AV} (h : strBin op x y = some v) (t : TypeId) :
    (binOp op t (.string ⟨x.toArray⟩) (.string ⟨y.toArray⟩)).run P c.w = .ok (toV v) c.w ∧ VR c v (toV v) := by
  cases op with
  | add =>
    simp only [strBin] at h
    split at h
    · rename_i hn
      cases h
      refine ⟨?_, .str _⟩
      have h0 : ¬ (((ByteArray.mk x.toArray).size + (ByteArray.mk y.toArray).size : Nat) : Int) > IntKind.i64.max := by
        rw [bytes_size, bytes_size]
        unfold LIM at hn
        have : IntKind.i64.max = 9223372036854775807 := by decide
        rw [this]; omega
      simp only [binOp, Op.stringOp]
      rw [if_neg h0]
      simp only [Sem.run_pure, toV]
      congr 2
    · cases h
  | _ => simp only [strBin] at h <;> first | (cases h; done) | (cases h; exact ⟨by simp [binOp, Op.stringOp, toV], .bool _⟩)
end Go.Eng
