/- SegsParses, the plain law. No condition. -/
import Derived.Test.YtdffpjbjpfolfaaGreatDoorGu
namespace Go.Eng.S
open Go Go.Eng
theorem wrong_ok (a b : Int) (H : Heap) : C T 13 [flt 400 a, .int .i64 400, .int .i64 b] H = some (.bool (a == b), H) := anyH fd13 rfl rfl (C_of 60 (by kernel_rfl)) H
theorem maxLen_val : maxLen = 9223372036854775807 := rfl
theorem segsParses (s : Seg) : C T 3 [.str s] [] = some (.bool true, []) := by
  rw [q3]
  by_cases hl : 2000 < s.length
  · simp (disch := omega) [d3, awake_ok]
  · obtain ⟨y, hy, hv⟩ := parse_ok s (by omega)
    obtain ⟨z, hz, hw⟩ := rparse_ok s (by omega)
    rw [rpar_eq] at hw
    have hr1 := raw_ok s (by omega)
    have hr2 := rraw_ok s (by omega)
    have hrn := rawV_names s
    have hll := lens_raw s
    have htx := texts_ok hrn hrn (by rw [maxLen_val]; omega) (by rw [maxLen_val]; omega)
    simp only [decide_true] at htx
    generalize rawV s = rv at *
    cases hr : parS s with
    | error i =>
      rw [hr] at hv hw
      obtain rfl := hv
      obtain rfl := hw
      have hnil : Names nls [] := .inl ⟨rfl, rfl⟩
      have hsm := same_ok (x := false) (y := false) hnil hnil (by decide) (by decide)
      simp only [decide_true, beq_self_eq_true, Bool.and_self] at hsm
      have hwr := wrong_ok i i
      simp only [beq_self_eq_true] at hwr
      simp (disch := omega) [d3, awake_ok, hy, hz, hr1, hr2, htx, hset, hget, hsm, hwr]
    | ok p =>
      obtain ⟨st, d⟩ := p
      rw [hr] at hv hw
      obtain ⟨a, rfl, ha⟩ := hv
      obtain ⟨b, rfl, hb⟩ := hw
      obtain ⟨_, _, f3, _⟩ := par_facts hr
      have hsm := same_ok (x := d) (y := d) ha hb (by rw [maxLen_val]; omega) (by rw [maxLen_val]; omega)
      simp only [decide_true, beq_self_eq_true, Bool.and_self] at hsm
      have hac := ha.cell
      have hbc := hb.cell
      simp (disch := omega) [d3, awake_ok, hy, hz, hr1, hr2, htx, hset, hget, hac, hbc, hsm]
end Go.Eng.S
