/- The literals of Ta are the translations of the loaded functions, by a program (gen.py). No condition. -/
import Derived.Test.YtfpknphncaopkaaDoorTa
import Derived.Test.YtfpknphncaopkaaDoorProg
namespace Go.Eng.S
open Go Go.Eng Go.Proofs

theorem tr3 : trFn Tryd.prog Tryd.f3 true [] = some d3 := by kernel_rfl
theorem tr4 : trFn Tryd.prog Tryd.f4 true [] = some d4 := by kernel_rfl
theorem tr5 : trFn Tryd.prog Tryd.f5 true [[], [0, 5], [0, 5], [0, 5], [0, 5, 6], [0, 5, 6]] = some d5 := by kernel_rfl
theorem tr6 : trFn Tryd.prog Tryd.f6 true [] = some d6 := by kernel_rfl
theorem tr8 : trFn Tryd.prog Tryd.f8 true [] = some d8 := by kernel_rfl
theorem tr9 : trFn Tryd.prog Tryd.f9 true [[2], [0, 2, 11, 12], [0, 2, 11, 12]] = some d9 := by kernel_rfl
theorem tr10 : trFn Tryd.prog Tryd.f10 true [[2], [0, 2, 4], [0, 2, 4]] = some d10 := by kernel_rfl
theorem tr11 : trFn Tryd.prog Tryd.f11 true [] = some d11 := by kernel_rfl
theorem tr12 : trFn Tryd.prog Tryd.f12 true [] = some d12 := by kernel_rfl
theorem tr13 : trFn Tryd.prog Tryd.f13 true [] = some d13 := by kernel_rfl
theorem tr14 : trFn Tryd.prog Tryd.f14 true [[0], [0, 3], [0, 3], [], [0, 4], [0, 4]] = some d14 := by kernel_rfl
theorem tr15 : trFn Tryd.prog Tryd.f15 true [[3], [0, 3, 4], [0, 3, 4]] = some d15 := by kernel_rfl
theorem tr16 : trFn Tryd.prog Tryd.f16 true [[0], [0, 3], [0, 3], [0, 3], [0, 3, 4], [0, 3, 4]] = some d16 := by kernel_rfl
theorem tr17 : trFn Tryd.prog Tryd.f17 true [] = some d17 := by kernel_rfl
theorem tr18 : trFn Tryd.prog Tryd.f18 true [[], [0, 1, 5], [0, 1, 5], [0, 1, 5], [0, 1, 5, 6], [0, 1, 5, 6]] = some d18 := by kernel_rfl
theorem tr19 : trFn Tryd.prog Tryd.f19 true [] = some d19 := by kernel_rfl
theorem tr23 : trFn Tryd.prog Tryd.f23 true [[2, 5, 6, 7], [2, 5, 6, 7], [2, 5, 6, 7]] = some d23 := by kernel_rfl
theorem tr24 : trFn Tryd.prog Tryd.f24 true [[3], [3, 8, 9, 10], [3, 8, 9, 10]] = some d24 := by kernel_rfl
theorem tr25 : trFn Tryd.prog Tryd.f25 true [] = some d25 := by kernel_rfl
theorem tr26 : trFn Tryd.prog Tryd.f26 true [] = some d26 := by kernel_rfl
theorem tr27 : trFn Tryd.prog Tryd.f27 true [[0, 1, 2], [0, 1, 2, 9], [0, 1, 2, 9], [10], [0, 1, 2, 10, 11], [0, 1, 2, 10, 11]] = some d27 := by kernel_rfl
theorem tr28 : trFn Tryd.prog Tryd.f28 true [] = some d28 := by kernel_rfl
theorem tr29 : trFn Tryd.prog Tryd.f29 true [] = some d29 := by kernel_rfl
theorem tr30 : trFn Tryd.prog Tryd.f30 true [[2], [0, 3, 4], [0, 3, 4]] = some d30 := by kernel_rfl
theorem tr31 : trFn Tryd.prog Tryd.f31 true [] = some d31 := by kernel_rfl
theorem tr32 : trFn Tryd.prog Tryd.f32 true [[], [0, 3, 4, 5], [0, 3, 4, 5]] = some d32 := by kernel_rfl
theorem tr33 : trFn Tryd.prog Tryd.f33 true [[0]] = some d33 := by kernel_rfl
theorem tr34 : trFn Tryd.prog Tryd.f34 true [[], [0, 1, 5], [0, 1, 5]] = some d34 := by kernel_rfl
theorem tr35 : trFn Tryd.prog Tryd.f35 false [[], [1, 7, 8, 9], [1, 7, 8, 9]] = some d35 := by kernel_rfl
theorem tr36 : trFn Tryd.prog Tryd.f36 false [] = some d36 := by kernel_rfl
theorem tr37 : trFn Tryd.prog Tryd.f37 false [[], [1, 7, 8, 9], [1, 7, 8, 9]] = some d37 := by kernel_rfl
theorem tr38 : trFn Tryd.prog Tryd.f38 false [] = some d38 := by kernel_rfl
theorem tr39 : trFn Tryd.prog Tryd.f39 true [] = some d39 := by kernel_rfl
theorem tr41 : trFn Tryd.prog Tryd.f41 true [] = some d41 := by kernel_rfl
theorem tr42 : trFn Tryd.prog Tryd.f42 true [] = some d42 := by kernel_rfl
theorem tr43 : trFn Tryd.prog Tryd.f43 true [] = some d43 := by kernel_rfl
theorem tr44 : trFn Tryd.prog Tryd.f44 true [[10, 11], [0, 1, 2, 3, 10, 11, 19, 20], [0, 1, 2, 3, 10, 11, 19, 20]] = some d44 := by kernel_rfl
theorem tr45 : trFn Tryd.prog Tryd.f45 true [] = some d45 := by kernel_rfl
theorem tr46 : trFn Tryd.prog Tryd.f46 true [] = some d46 := by kernel_rfl
theorem tr47 : trFn Tryd.prog Tryd.f47 true [] = some d47 := by kernel_rfl
theorem tr48 : trFn Tryd.prog Tryd.f48 false [] = some d48 := by kernel_rfl
theorem tr49 : trFn Tryd.prog Tryd.f49 true [] = some d49 := by kernel_rfl
theorem tr50 : trFn Tryd.prog Tryd.f50 true [] = some d50 := by kernel_rfl
theorem tr51 : trFn Tryd.prog Tryd.f51 true [] = some d51 := by kernel_rfl
theorem tr52 : trFn Tryd.prog Tryd.f52 true [] = some d52 := by kernel_rfl
theorem tr56 : trFn Tryd.prog Tryd.f56 false [[8], [0, 1, 3, 6], [0, 1, 3, 6], [0, 1, 3, 6], [], [1, 3, 6, 48, 49, 50], [1, 3, 6, 48, 49, 50]] = some d56 := by kernel_rfl
theorem tr93 : trFn Tryd.prog Tryd.f93 true [] = some d93 := by kernel_rfl
theorem tr95 : trFn Tryd.prog Tryd.f95 true [] = some d95 := by kernel_rfl
theorem tr111 : trFn Tryd.prog Tryd.f111 true [] = some d111 := by kernel_rfl
theorem tr112 : trFn Tryd.prog Tryd.f112 true [[]] = some d112 := by kernel_rfl
theorem tr113 : trFn Tryd.prog Tryd.f113 true [] = some d113 := by kernel_rfl
theorem tr114 : trFn Tryd.prog Tryd.f114 true [] = some d114 := by kernel_rfl
end Go.Eng.S
