/- Build, the reference's Text. No condition. -/
import Derived.Test.YtaocejbbmdeinaaDoorFg
namespace Go.Eng.S
open Go Go.Eng
theorem in_ok (p : List UInt8) (t : Nat) (v : AV) (hv : v.closed = true) (hs : snap 64 [] (.iface t v) = some (.iface t v, [])) (hs2 : snap 64 [] (.iface 65 (.agg [.str p, .iface t v])) = some (.iface 65 (.agg [.str p, .iface t v]), [])) (H : Heap) :
    C T 23 [.str p, .iface t v] H = some (.iface 65 (.agg [.str p, .iface t v]), H) := by
  refine anyH fd23 rfl (by simp [AV.closed, closedL, hv]) ?_ H
  have e1 : snap 63 [] v = some (v, []) := by
    rw [snap_iface] at hs
    split at hs
    · rename_i h; simp at hs; rw [h, hs.1, hs.2]
    · cases hs
  have e2 : snap 61 [] v = some (v, []) := by
    simp only [snap_iface, snap_agg, mapS_cons, snap_str, mapS_nil] at hs2
    cases h : snap 61 [] v with
    | none => rw [h] at hs2; cases hs2
    | some q => obtain ⟨x, y⟩ := q; rw [h] at hs2; simp at hs2; rw [hs2.1, hs2.2]
  rw [q23]
  simp (disch := omega) [d23, e1, e2]
theorem chn_closed (f : Bool) (s t : Int) (l) : (chn (bse f s t) l).closed = true := by
  obtain ⟨k, v, h1, h2⟩ := chn_if f s t l
  rw [h1]; simpa [AV.closed] using h2
theorem inc_ok (f : Bool) (s t : Int) (p : List UInt8) (l : List (List UInt8)) (hl : l.length ≤ 28) (H : Heap) : C T 23 [.str p, chn (bse f s t) l] H = some (chn (bse f s t) (p :: l), H) := by
  obtain ⟨k, v, h1, h2⟩ := chn_if f s t l
  have a1 := chn_snap f s t l 64 [] (by omega)
  have a2 := chn_snap f s t (p :: l) 64 [] (by simp; omega)
  simp only [chn] at a2 ⊢
  rw [h1] at a1 a2 ⊢
  exact in_ok p k v h2 a1 a2 H
theorem take_rev {α : Type} (l : List α) (i : Nat) (h : i < l.length) : (l.take (i + 1)).reverse = l[i] :: (l.take i).reverse := by
  rw [List.take_succ_eq_append_getElem h]; simp
theorem build_loop (s t : Int) (f : Bool) (l : List (List UInt8)) (hl : l.length ≤ 20) : ∀ (k i : Nat), i + k = l.length →
    ∃ e', XL T [1, 3, 4] L10_0 [(1, .ptr 0 0 0), (3, chn (bse f s t) (l.take i).reverse), (4, .int .i64 i)] [evO (.sl false l.length 1 (l.map .str)) s t f] = some (.exit 0, e', [evO (.sl false l.length 1 (l.map .str)) s t f]) ∧ e'.get 3 = chn (bse f s t) l.reverse
  | 0, i, hk => by
    have hd : l.take i = l := List.take_of_length_le (by omega)
    rw [XL_eq, hd]
    simp [L10_0, hget, show ¬ i < l.length by omega]
  | k + 1, i, hk => by
    have hlt : i < l.length := by omega
    have ih := build_loop s t f l hl k (i + 1) (by omega)
    push_cast at ih
    have hdm : (l.map AV.str).drop i = .str l[i] :: (l.map AV.str).drop (i + 1) := by
      rw [List.drop_eq_getElem_cons (by simpa using hlt)]; simp
    have hin := inc_ok f s t l[i] (l.take i).reverse (by simp; omega)
    rw [← take_rev l i hlt] at hin
    rw [XL_eq]
    generalize XL T [1, 3, 4] L10_0 = lp at *
    generalize chn (bse f s t) (l.take (i + 1)).reverse = y at *
    generalize chn (bse f s t) (l.take i).reverse = x at *
    generalize l[i] = p at *
    simp (disch := omega) [L10_0, hget, hlt, hdm, hin]
    exact ih
theorem build_ok (a : AV) (l : List (List UInt8)) (ha : Names a l) (hl : l.length ≤ 20) (s t : Int) (f : Bool) (H : Heap) : C T 10 [evE a s t f] H = some (chn (bse f s t) l.reverse, H) := by
  refine anyH fd10 rfl (by simp [evE, AV.closed, closedL, ha.closed]) ?_ H
  have hsn := fun k H => nm_snap ha k H
  have hce := ha.cell
  have hsr := fun H => chn_snap f s t l.reverse 64 H (by simp; omega)
  rw [q10]
  unfold evE
  rcases ha with ⟨rfl, rfl⟩ | rfl
  · have hx : ∃ e', XL T [1, 3, 4] L10_0 [(1, .ptr 0 0 0), (3, bse f s t), (4, .int .i64 (0 : Nat))] [evO (.cst (.slice none 0 0)) s t f] = some (.exit 0, e', [evO (.cst (.slice none 0 0)) s t f]) ∧ e'.get 3 = bse f s t := by
      rw [XL_eq]
      simp [L10_0, hget]
    obtain ⟨e', h1, h2⟩ := hx
    simp at h1
    cases f with
    | true => simp only [bse, cond_true] at h1 h2 ⊢; simp (disch := omega) [d10, h1, h2, hget, chn]
    | false => simp only [bse, cond_false] at h1 h2 ⊢; simp (disch := omega) [d10, h1, h2, hget, chn]
  · obtain ⟨e', h1, h2⟩ := build_loop s t f l hl l.length 0 (by omega)
    simp only [List.take_zero, List.reverse_nil, chn] at h1
    simp at h1
    generalize hr : chn (bse f s t) l.reverse = r at *
    cases f with
    | true => simp only [bse, cond_true] at h1; simp (disch := omega) [d10, hsn, h1, h2, hget, hsr]
    | false => simp only [bse, cond_false] at h1; simp (disch := omega) [d10, hsn, h1, h2, hget, hsr]
theorem text_loop (s t : Int) (f : Bool) (b : List UInt8) (hb : b.length ≤ 1000) (l : List (List UInt8)) (hl : l.length ≤ 20) (hp : ∀ p ∈ l, p.length ≤ 100) : ∀ (k i : Nat), i + k = l.length →
    ∃ e', XL T [1, 3, 4] L13_0 [(1, .ptr 0 0 0), (3, .str (txt b (l.take i).reverse)), (4, .int .i64 i)] [evO (.sl false l.length 1 (l.map .str)) s t f] = some (.exit 0, e', [evO (.sl false l.length 1 (l.map .str)) s t f]) ∧ e'.get 3 = .str (txt b l.reverse)
  | 0, i, hk => by
    have hd : l.take i = l := List.take_of_length_le (by omega)
    rw [XL_eq, hd]
    simp [L13_0, hget, show ¬ i < l.length by omega]
  | k + 1, i, hk => by
    have hlt : i < l.length := by omega
    have ih := text_loop s t f b hb l hl hp k (i + 1) (by omega)
    push_cast at ih
    have hdm : (l.map AV.str).drop i = .str l[i] :: (l.map AV.str).drop (i + 1) := by
      rw [List.drop_eq_getElem_cons (by simpa using hlt)]; simp
    have hlen := txt_len b (l.take i).reverse (fun p h => hp p (List.mem_of_mem_take (List.mem_reverse.1 h)))
    have h100 := hp l[i] (List.getElem_mem hlt)
    have e : txt b (l.take (i + 1)).reverse = l[i] ++ [58, 32] ++ txt b (l.take i).reverse := by rw [take_rev l i hlt]; rfl
    rw [e] at ih
    simp only [List.length_reverse, List.length_take] at hlen
    have hlen2 : (txt b (l.take i).reverse).length ≤ 1000 + 102 * 20 := by omega
    rw [XL_eq]
    generalize XL T [1, 3, 4] L13_0 = lp at *
    generalize txt b (l.take i).reverse = x at *
    generalize l[i] = p at *
    have L1 : p.length + 2 ≤ LIM := by unfold LIM; omega
    have L2 : p.length + 2 + x.length ≤ LIM := by unfold LIM; omega
    simp (disch := omega) [L13_0, hget, hlt, hdm, L1, L2]
    simpa using ih
theorem text_ok (a : AV) (l : List (List UInt8)) (ha : Names a l) (hl : l.length ≤ 20) (hp : ∀ p ∈ l, p.length ≤ 100) (s t : Int) (h1 : -9223372036854775808 ≤ s) (h2 : s < 9223372036854775808) (f : Bool) (H : Heap) : C T 13 [evE a s t f] H = some (.str (txt (stx ++ itoT s) l.reverse), H) := by
  refine anyH fd13 rfl (by simp [evE, AV.closed, closedL, ha.closed]) ?_ H
  have hsn := fun k H => nm_snap ha k H
  have hce := ha.cell
  have hdec := rdec_all s h1 h2
  have hi := itoT_len s
  have hL : 7 + (itoT s).length ≤ LIM := by unfold LIM; omega
  rw [q13]
  unfold evE
  rcases ha with ⟨rfl, rfl⟩ | rfl
  · have hx : ∃ e', XL T [1, 3, 4] L13_0 [(1, .ptr 0 0 0), (3, .str (stx ++ itoT s)), (4, .int .i64 (0 : Nat))] [evO (.cst (.slice none 0 0)) s t f] = some (.exit 0, e', [evO (.cst (.slice none 0 0)) s t f]) ∧ e'.get 3 = .str (stx ++ itoT s) := by
      rw [XL_eq]
      simp [L13_0, hget]
    obtain ⟨e', g1, g2⟩ := hx
    simp at g1 g2
    simp (disch := omega) [d13, g1, g2, hget, hdec, hL, txt]
  · obtain ⟨e', g1, g2⟩ := text_loop s t f (stx ++ itoT s) (by simp; omega) l hl hp l.length 0 (by omega)
    simp only [List.take_zero, List.reverse_nil, txt] at g1
    simp at g1 g2
    simp (disch := omega) [d13, hsn, g1, g2, hget, hdec, hL]
end Go.Eng.S
