/- FaultMoves, the plain law. No condition. -/
import Derived.Test.YtaocejbbmdeinaaDoorFj
namespace Go.Eng.S
open Go Go.Eng
theorem awake_ok (H : Heap) : C T 8 [] H = some (.bool true, H) := anyH fd8 rfl rfl (C_of 90 (by kernel_rfl)) H
theorem aveq_strs (n : Nat) : ∀ l : List (List UInt8), aveq.aveqL (n + 1) (l.map AV.str) (l.map AV.str) = true
  | [] => rfl
  | p :: l => by
    have ih := aveq_strs n l
    have h : aveq (n + 1) (.str p) (.str p) = true := beq_self_eq_true p
    rw [List.map_cons, aveq.aveqL, ih, h]; rfl
theorem nm_aveq {a : AV} {l : List (List UInt8)} (h : Names a l) : aveq 4 a a = true := by
  rcases h with ⟨rfl, rfl⟩ | rfl
  · rfl
  · have := aveq_strs 2 l
    simp [aveq, this]
theorem faultMoves (a : AV) (l : List (List UInt8)) (ha : Names a l) (hl : l.length ≤ maxLen) (hs : ∀ p ∈ l, p.length ≤ maxLen) (s t b : Int) (f : Bool)
    (s1 : -9223372036854775808 ≤ s) (s2 : s < 9223372036854775808) (b1 : -2147483648 ≤ b) (b2 : b < 2147483648) :
    C T 4 [evE a s t f, .int .i32 b] [] = some (.bool true, []) := by
  have hm : maxLen = 9223372036854775807 := rfl
  have hsn := fun k H => nm_snap ha k H
  have hce := ha.cell
  have hfew := few_ok a l ha hl (fun p h => by have := hs p h; omega) s t f
  have hb := build_ok a l ha
  have htx := text_ok a l ha
  have haw := awake_ok
  have hav := nm_aveq ha
  rw [q4]
  unfold evE at *
  cases hq : fewB l t with
  | false =>
    rw [hq] at hfew
    simp (disch := omega) [d4, hsn, hce, haw, hfew, hget]
  | true =>
    rw [hq] at hfew
    simp only [fewB, Bool.and_eq_true, List.all_eq_true, decide_eq_true_eq] at hq
    obtain ⟨hp, ⟨hl20, t1⟩, t2⟩ := hq
    have hb' := hb hl20 s t f
    have hlr : l.reverse.length ≤ 20 := by simpa using hl20
    have hmv := move_ok f s t b l.reverse hlr (by omega) (by omega)
    have wb : IntKind.i64.wrap b = b := by rw [IntKind.wrap_i64]; omega
    have he := err_ok f s t s1 s2 l.reverse (fun p h => hp p (List.mem_reverse.1 h)) (by omega)
    cases f with
    | false =>
      have hat := at_ok false s t l.reverse hlr
      have ht := htx hl20 hp s t s1 s2 false
      simp only [cond_false] at hmv hat
      obtain ⟨k, v, e1, e2⟩ := chn_if false s t l.reverse
      rw [e1] at hb' hmv hat he
      simp (disch := omega) [d4, hsn, hce, haw, hfew, hget, hb', hmv, wb, hat, he, ht]
      simp [aveq, aveq.aveqL, hav]
    | true =>
      have hnw := new_ok s (t + b)
      have his := is_ok s (t + b)
      have hse := serr_ok s s1 s2
      have hfe := ferr_ok s (t + b) s1 s2
      simp only [cond_true] at hmv
      simp only [bse, cond_true] at hmv hnw his
      have hinv : ∀ H, invokeM T (C T) (.iface 49 (.agg [.int .i64 s, .int .i64 (t + b)])) "Error" [] H = some (.str (stx ++ itoT s), H) := fun H => by
        simp [invokeM, m_E49, hfe]
      generalize hc : chn (.iface 49 (.agg [.int .i64 s, .int .i64 t])) l.reverse = x at *
      have hb2 : ∀ H, C T 10 [.agg [a, .int .i64 s, .int .i64 t, .bool true]] H = some (x, H) := fun H => by
        rw [hb' H, ← hc]; rfl
      simp (disch := omega) [d4, hsn, hce, haw, hfew, hget, hb2, hmv, wb, hnw, his, hinv, hse]
      simp [aveq]
end Go.Eng.S
