/- chunked.Decode, New, Data, Err. No condition. -/
import Derived.Test.YtpdkdkdcmnipfaaGreatDoorKi
namespace Go.Eng.S
open Go Go.Eng
theorem mx0 (a : Int) : (if a < 0 then 0 else a) = max a 0 := by split <;> omega
structure Lims where
  line : Int
  head : Int
  fields : Int
  body : Int
def Lims.av (l : Lims) : AV := .agg [.int .i64 l.line, .int .i64 l.head, .int .i64 l.fields, .int .i64 l.body]
def Lims.lm (l : Lims) : Lm := ⟨l.line.toNat, l.head.toNat, l.fields.toNat, l.body.toNat⟩
def rd0 : Rd := ⟨[], [], false, false, 0⟩
def ds0 : DS := ⟨0, 0, 0, rd0, 0, [], 0, 0, none⟩
theorem inv0 : Inv ds0 := ⟨by decide, by decide, by decide, by decide, by decide, by decide, by decide, by decide⟩
abbrev nls : AV := .cst (.slice none 0 0)
abbrev lmRow (L : Lm) : AObj := ⟨[.int .i64 L.line, .int .i64 L.head, .int .i64 L.fields, .int .i64 L.body], 0, true⟩
abbrev newH (L : Lm) (H : Heap) : Heap := H ++ [lmRow L, rdRow L.line nls rd0, dcRow L (H.length + 1) nls ds0]
theorem lnew_ok (n : Nat) (H : Heap) : C T 28 [.int .i64 n] H = some (.ptr H.length 0 0, H ++ [rdRow n nls rd0]) := by
  rw [q28]
  have : ¬ ((n : Int) < 0) := by omega
  simp [d28, rd0, this]
theorem dnew_ok (l : Lims) (H : Heap) : C T 13 [l.av] H = some (.ptr (H.length + 2) 0 0, newH l.lm H) := by
  rw [q13]
  obtain ⟨a, b, c, d⟩ := l
  have e : ((a.toNat : Nat) : Int) = max a 0 := by omega
  have hn : ∀ H, C T 28 [.int .i64 (max a 0)] H = some (.ptr H.length 0 0, H ++ [⟨[.int .i64 (max a 0), nls, .str [], .bool false, .bool false, .int .i64 0], 0, true⟩]) := fun H => by
    have := lnew_ok a.toNat H
    unfold rdRow rd0 at this
    rw [e] at this
    exact this
  unfold newH Lims.av Lims.lm
  simp only
  simp [d13, hset_tail0, hget_tail0, hg0, hs0, hn, mx0, ds0, rd0, verr, aveq, aveq.aveqL]
theorem rep0 (L : Lm) (H : Heap) : Rep L (newH L H) (H.length + 2) (H.length + 1) nls nls ds0 where
  dec := by rw [List.getElem?_append_right (by omega), Nat.add_sub_cancel_left]; rfl
  rd := by rw [List.getElem?_append_right (by omega), Nat.add_sub_cancel_left]; rfl
  out := .inl ⟨rfl, rfl⟩
  buf := .inl ⟨rfl, rfl⟩
  ij := by omega
  oi := by intro e; cases e
  oj := by intro e; cases e
  bi := by intro e; cases e
  bj := by intro e; cases e
  ob := by intro k e; cases e
theorem err_ok {L : Lm} {H : Heap} {i j : Nat} {vo vb : AV} {d : DS} (h : Rep L H i j vo vb d) : C T 15 [.ptr i 0 0] H = some (verr d.err, H) := by
  have hdec := h.dec
  rw [q15]
  simp [d15, aeq_pn, hget_at hdec]
theorem data_none {L : Lm} {H : Heap} {i j : Nat} {vo vb : AV} {d : DS} (h : Rep L H i j vo vb d) (hs : d.state ≠ 1) : C T 16 [.ptr i 0 0] H = some (nls, H) := by
  have hdec := h.dec
  rw [q16]
  have e : ((d.state : Int) != 1) = true := by rw [bne_iff_ne]; omega
  simp at e
  simp [d16, aeq_pn, hget_at hdec, e]
theorem data_done {H : Heap} {i : Nat} {row : AObj} {vo : AV} {out : List UInt8} (hr : H[i]? = some row) (hrow : ∃ a b c d e f g h i j k l g2, row = ⟨[a, b, c, d, e, f, g, h, i, vo, j, k, l], 0, g2⟩ ∧ f = .int .i64 1) (ho : OwnD H vo out) (hl : out.length < 1000000000) :
    C T 16 [.ptr i 0 0] H = some (byV out, frz H vo) := by
  obtain ⟨a, b, c, d, e, f, g, h, i', j, k, l, g2, rfl, rfl⟩ := hrow
  have hc := clone_ok ho hl
  rw [q16]
  simp [d16, aeq_pn, hget_at hr, hc]
end Go.Eng.S
