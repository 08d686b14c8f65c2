/- HostParses, the plain law. No condition. -/
import Derived.Test.YtfpknphncaopkaaDoorHe
namespace Go.Eng.S
open Go Go.Eng
theorem awake_ok (H : Heap) : C T 8 [] H = some (.bool true, H) := anyH fd8 rfl rfl (C_of 60 (by kernel_rfl)) H
theorem wrong_ok (a b : Int) (H : Heap) : C T 11 [flt 400 a, .int .i64 400, .int .i64 b] H = some (.bool (a == b), H) := anyH fd11 rfl rfl (C_of 60 (by kernel_rfl)) H
theorem aeq_struct2 {T : Tab} {c : Bool} {a b : List UInt8} {x y : Int} : aeq T 9 (.struct [(0, .str), (1, .int)]) c (.agg [.str a, .int .i64 x]) (.agg [.str b, .int .i64 y]) = some (a == b && x == y) := by
  simp only [aeq, List.foldr]
  simp
  cases h : a == b <;> cases h2 : x == y <;> simp
theorem hostParses (s : List UInt8) : C T 3 [.str s] [] = some (.bool true, []) := by
  rw [q3]
  have hp := hparse_ok s
  have hr := rpar_ok s
  by_cases hl : 500 < s.length
  · simp (disch := omega) [d3, awake_ok]
  · have hp := hp (by omega)
    have hr := hr (by omega)
    rw [← same_host] at hr
    generalize hostP s = x at hp hr
    cases x with
    | bad k =>
      simp only [HR.v, HR.rv] at hp hr
      have hw := wrong_ok k k
      simp (disch := omega) [d3, awake_ok, hp, hr, hw, hget, hset, aeq_struct2]
    | host n p =>
      simp only [HR.v, HR.rv] at hp hr
      simp (disch := omega) [d3, awake_ok, hp, hr, hget, hset, aeq_struct2]
end Go.Eng.S
