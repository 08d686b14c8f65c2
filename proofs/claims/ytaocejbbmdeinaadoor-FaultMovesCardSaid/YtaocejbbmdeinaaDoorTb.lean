/- The literals of Ta are the translations of the loaded functions, by a program (gen.py). No condition. -/
import Derived.Test.YtaocejbbmdeinaaDoorTa
import Derived.Test.YtaocejbbmdeinaaDoorProg
namespace Go.Eng.S
open Go Go.Eng Go.Proofs

theorem tr4 : trFn Tryd.prog Tryd.f4 true [] = some d4 := by kernel_rfl
theorem tr8 : trFn Tryd.prog Tryd.f8 true [] = some d8 := by kernel_rfl
theorem tr9 : trFn Tryd.prog Tryd.f9 true [[1], [1, 3], [1, 3]] = some d9 := by kernel_rfl
theorem tr10 : trFn Tryd.prog Tryd.f10 true [[3], [1, 3, 4], [1, 3, 4]] = some d10 := by kernel_rfl
theorem tr11 : trFn Tryd.prog Tryd.f11 true [] = some d11 := by kernel_rfl
theorem tr12 : trFn Tryd.prog Tryd.f12 true [] = some d12 := by kernel_rfl
theorem tr13 : trFn Tryd.prog Tryd.f13 true [[3], [1, 3, 4], [1, 3, 4]] = some d13 := by kernel_rfl
theorem tr14 : trFn Tryd.prog Tryd.f14 true [] = some d14 := by kernel_rfl
theorem tr15 : trFn Tryd.prog Tryd.f15 true [] = some d15 := by kernel_rfl
theorem tr16 : trFn Tryd.prog Tryd.f16 true [] = some d16 := by kernel_rfl
theorem tr17 : trFn Tryd.prog Tryd.f17 true [] = some d17 := by kernel_rfl
theorem tr18 : trFn Tryd.prog Tryd.f18 true [[], [0, 9, 10, 11], [0, 9, 10, 11]] = some d18 := by kernel_rfl
theorem tr20 : trFn Tryd.prog Tryd.f20 true [[3], [], [], []] = some d20 := by kernel_rfl
theorem tr23 : trFn Tryd.prog Tryd.f23 true [] = some d23 := by kernel_rfl
theorem tr24 : trFn Tryd.prog Tryd.f24 false [] = some d24 := by kernel_rfl
theorem tr26 : trFn Tryd.prog Tryd.f26 true [] = some d26 := by kernel_rfl
theorem tr28 : trFn Tryd.prog Tryd.f28 true [[6], [0, 1, 2], [0, 1, 2], [0, 1, 2], [], [1, 2, 43, 44, 45], [1, 2, 43, 44, 45]] = some d28 := by kernel_rfl
theorem tr29 : trFn Tryd.prog Tryd.f29 true [] = some d29 := by kernel_rfl
theorem tr30 : trFn Tryd.prog Tryd.f30 true [[]] = some d30 := by kernel_rfl
theorem tr31 : trFn Tryd.prog Tryd.f31 true [[]] = some d31 := by kernel_rfl
theorem tr35 : trFn Tryd.prog Tryd.f35 false [[8], [0, 1, 3, 6], [0, 1, 3, 6], [0, 1, 3, 6], [], [1, 3, 6, 48, 49, 50], [1, 3, 6, 48, 49, 50]] = some d35 := by kernel_rfl
theorem tr36 : trFn Tryd.prog Tryd.f36 true [] = some d36 := by kernel_rfl
theorem tr39 : trFn Tryd.prog Tryd.f39 true [] = some d39 := by kernel_rfl
theorem tr40 : trFn Tryd.prog Tryd.f40 true [] = some d40 := by kernel_rfl
theorem tr41 : trFn Tryd.prog Tryd.f41 true [] = some d41 := by kernel_rfl
theorem tr42 : trFn Tryd.prog Tryd.f42 false [[0, 1, 4], [0, 1, 4], [0, 1, 4]] = some d42 := by kernel_rfl
theorem tr43 : trFn Tryd.prog Tryd.f43 true [[0, 1, 3, 4, 10, 11, 12, 13], [0, 1, 3, 4, 10, 11, 12, 13, 14, 15, 16], [0, 1, 3, 4, 10, 11, 12, 13, 14, 15, 16], [0, 1, 3, 4, 10, 11, 12, 13], [0, 1, 3, 4, 10, 11, 12, 13, 17], [0, 1, 3, 4, 10, 11, 12, 13, 17]] = some d43 := by kernel_rfl
theorem tr44 : trFn Tryd.prog Tryd.f44 true [] = some d44 := by kernel_rfl
theorem tr45 : trFn Tryd.prog Tryd.f45 true [] = some d45 := by kernel_rfl
theorem tr46 : trFn Tryd.prog Tryd.f46 true [] = some d46 := by kernel_rfl
theorem tr47 : trFn Tryd.prog Tryd.f47 true [] = some d47 := by kernel_rfl
theorem tr48 : trFn Tryd.prog Tryd.f48 true [] = some d48 := by kernel_rfl
theorem tr49 : trFn Tryd.prog Tryd.f49 true [] = some d49 := by kernel_rfl
theorem tr50 : trFn Tryd.prog Tryd.f50 true [] = some d50 := by kernel_rfl
theorem tr68 : trFn Tryd.prog Tryd.f68 true [] = some d68 := by kernel_rfl
theorem tr69 : trFn Tryd.prog Tryd.f69 true [] = some d69 := by kernel_rfl
theorem tr71 : trFn Tryd.prog Tryd.f71 true [] = some d71 := by kernel_rfl
theorem tr72 : trFn Tryd.prog Tryd.f72 true [] = some d72 := by kernel_rfl
end Go.Eng.S
