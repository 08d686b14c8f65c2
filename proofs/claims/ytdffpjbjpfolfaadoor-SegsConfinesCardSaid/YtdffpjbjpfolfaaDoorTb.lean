/- The literals of Ta are the translations of the loaded functions, by a program (gen.py). No condition. -/
import Derived.Test.YtdffpjbjpfolfaaDoorTa
import Derived.Test.YtdffpjbjpfolfaaDoorProg
namespace Go.Eng.S
open Go Go.Eng Go.Proofs

theorem tr3 : trFn Tryd.prog Tryd.f3 true [[3, 5], [0, 3, 5, 6], [0, 3, 5, 6], [3, 5], [3, 5, 7], [3, 5, 7]] = some d3 := by kernel_rfl
theorem tr4 : trFn Tryd.prog Tryd.f4 true [[0, 3, 4], [0, 3, 4, 7], [0, 3, 4, 7]] = some d4 := by kernel_rfl
theorem tr5 : trFn Tryd.prog Tryd.f5 true [] = some d5 := by kernel_rfl
theorem tr6 : trFn Tryd.prog Tryd.f6 true [] = some d6 := by kernel_rfl
theorem tr7 : trFn Tryd.prog Tryd.f7 true [] = some d7 := by kernel_rfl
theorem tr8 : trFn Tryd.prog Tryd.f8 true [[0], [0, 3], [0, 3]] = some d8 := by kernel_rfl
theorem tr9 : trFn Tryd.prog Tryd.f9 true [] = some d9 := by kernel_rfl
theorem tr10 : trFn Tryd.prog Tryd.f10 true [[2, 4, 5], [0, 2, 4, 5, 6], [0, 2, 4, 5, 6]] = some d10 := by kernel_rfl
theorem tr11 : trFn Tryd.prog Tryd.f11 true [] = some d11 := by kernel_rfl
theorem tr12 : trFn Tryd.prog Tryd.f12 true [[], [0, 1, 5], [0, 1, 5]] = some d12 := by kernel_rfl
theorem tr13 : trFn Tryd.prog Tryd.f13 true [] = some d13 := by kernel_rfl
theorem tr14 : trFn Tryd.prog Tryd.f14 true [[1, 3], [1, 3, 7, 8, 9], [1, 3, 7, 8, 9]] = some d14 := by kernel_rfl
theorem tr15 : trFn Tryd.prog Tryd.f15 true [] = some d15 := by kernel_rfl
theorem tr16 : trFn Tryd.prog Tryd.f16 true [] = some d16 := by kernel_rfl
theorem tr17 : trFn Tryd.prog Tryd.f17 true [] = some d17 := by kernel_rfl
theorem tr18 : trFn Tryd.prog Tryd.f18 true [[4], [4, 5, 11, 12, 13], [4, 5, 11, 12, 13]] = some d18 := by kernel_rfl
theorem tr19 : trFn Tryd.prog Tryd.f19 true [[2, 4], [0, 2, 4, 8, 9, 10], [0, 2, 4, 8, 9, 10], [0, 2, 4, 6, 8, 9, 10], [0, 2, 4, 7, 8, 9, 10], [0, 2, 4, 7, 8, 9, 10], [0, 2, 4, 5, 7, 8, 9, 10]] = some d19 := by kernel_rfl
theorem tr20 : trFn Tryd.prog Tryd.f20 true [[0, 1], [0, 1, 5], [0, 1, 5, 39, 40, 41], [0, 1, 5, 39, 40, 41], [8], [1, 8, 63, 64, 65], [1, 8, 63, 64, 65]] = some d20 := by kernel_rfl
theorem tr21 : trFn Tryd.prog Tryd.f21 true [] = some d21 := by kernel_rfl
theorem tr22 : trFn Tryd.prog Tryd.f22 true [[], [0, 1, 5], [0, 1, 5]] = some d22 := by kernel_rfl
theorem tr23 : trFn Tryd.prog Tryd.f23 true [] = some d23 := by kernel_rfl
theorem tr24 : trFn Tryd.prog Tryd.f24 true [] = some d24 := by kernel_rfl
theorem tr25 : trFn Tryd.prog Tryd.f25 true [[3], [0, 3, 7, 8], [0, 3, 7, 8]] = some d25 := by kernel_rfl
theorem tr26 : trFn Tryd.prog Tryd.f26 true [] = some d26 := by kernel_rfl
theorem tr27 : trFn Tryd.prog Tryd.f27 true [] = some d27 := by kernel_rfl
theorem tr28 : trFn Tryd.prog Tryd.f28 true [[], [0, 1, 12, 13], [0, 1, 12, 13]] = some d28 := by kernel_rfl
theorem tr29 : trFn Tryd.prog Tryd.f29 true [] = some d29 := by kernel_rfl
theorem tr30 : trFn Tryd.prog Tryd.f30 true [[], [0, 1, 7, 8], [0, 1, 7, 8]] = some d30 := by kernel_rfl
theorem tr31 : trFn Tryd.prog Tryd.f31 true [] = some d31 := by kernel_rfl
theorem tr32 : trFn Tryd.prog Tryd.f32 true [] = some d32 := by kernel_rfl
theorem tr33 : trFn Tryd.prog Tryd.f33 true [[4], [0, 4, 5, 12, 13], [0, 4, 5, 12, 13], [0, 4, 5, 7, 12, 13]] = some d33 := by kernel_rfl
theorem tr34 : trFn Tryd.prog Tryd.f34 true [] = some d34 := by kernel_rfl
theorem tr35 : trFn Tryd.prog Tryd.f35 false [] = some d35 := by kernel_rfl
theorem tr36 : trFn Tryd.prog Tryd.f36 false [] = some d36 := by kernel_rfl
theorem tr37 : trFn Tryd.prog Tryd.f37 false [] = some d37 := by kernel_rfl
theorem tr38 : trFn Tryd.prog Tryd.f38 false [] = some d38 := by kernel_rfl
theorem tr39 : trFn Tryd.prog Tryd.f39 true [[0]] = some d39 := by kernel_rfl
theorem tr40 : trFn Tryd.prog Tryd.f40 true [] = some d40 := by kernel_rfl
theorem tr41 : trFn Tryd.prog Tryd.f41 true [] = some d41 := by kernel_rfl
theorem tr42 : trFn Tryd.prog Tryd.f42 true [[0, 9, 10], [0, 1, 2, 3, 9, 10], [0, 1, 2, 3, 9, 10]] = some d42 := by kernel_rfl
theorem tr43 : trFn Tryd.prog Tryd.f43 true [] = some d43 := by kernel_rfl
theorem tr44 : trFn Tryd.prog Tryd.f44 true [[0], [], [], []] = some d44 := by kernel_rfl
theorem tr45 : trFn Tryd.prog Tryd.f45 true [] = some d45 := by kernel_rfl
theorem tr46 : trFn Tryd.prog Tryd.f46 false [] = some d46 := by kernel_rfl
theorem tr47 : trFn Tryd.prog Tryd.f47 true [[], [0, 6, 8], [0, 6, 8], [], [1, 45], [1, 45]] = some d47 := by kernel_rfl
theorem tr48 : trFn Tryd.prog Tryd.f48 false [] = some d48 := by kernel_rfl
theorem tr49 : trFn Tryd.prog Tryd.f49 false [] = some d49 := by kernel_rfl
theorem tr53 : trFn Tryd.prog Tryd.f53 false [[8], [0, 1, 3, 6], [0, 1, 3, 6], [0, 1, 3, 6], [], [1, 3, 6, 48, 49, 50], [1, 3, 6, 48, 49, 50]] = some d53 := by kernel_rfl
theorem tr54 : trFn Tryd.prog Tryd.f54 true [] = some d54 := by kernel_rfl
theorem tr55 : trFn Tryd.prog Tryd.f55 true [[0, 1, 6], [0, 1, 6, 7], [0, 1, 6, 7]] = some d55 := by kernel_rfl
theorem tr56 : trFn Tryd.prog Tryd.f56 true [[4], [0, 1, 5], [0, 1, 5]] = some d56 := by kernel_rfl
theorem tr57 : trFn Tryd.prog Tryd.f57 true [] = some d57 := by kernel_rfl
theorem tr58 : trFn Tryd.prog Tryd.f58 true [[]] = some d58 := by kernel_rfl
theorem tr59 : trFn Tryd.prog Tryd.f59 true [[4], [], [175], [175], [], [0, 7, 8, 9], [0, 7, 8, 9], [8, 9], [0, 7, 8, 9, 12], [0, 7, 8, 9, 12], [], [0, 7, 8, 9, 14, 15], [0, 7, 8, 9, 14, 15], [8, 9], [0, 7, 8, 9, 14, 15, 16], [0, 7, 8, 9, 14, 15, 16]] = some d59 := by kernel_rfl
theorem tr60 : trFn Tryd.prog Tryd.f60 true [] = some d60 := by kernel_rfl
theorem tr61 : trFn Tryd.prog Tryd.f61 true [[2], [0, 2, 4], [0, 2, 4]] = some d61 := by kernel_rfl
theorem tr62 : trFn Tryd.prog Tryd.f62 false [] = some d62 := by kernel_rfl
theorem tr68 : trFn Tryd.prog Tryd.f68 true [] = some d68 := by kernel_rfl
theorem tr69 : trFn Tryd.prog Tryd.f69 true [] = some d69 := by kernel_rfl
theorem tr70 : trFn Tryd.prog Tryd.f70 true [[2], [2, 4], [2, 4]] = some d70 := by kernel_rfl
theorem tr71 : trFn Tryd.prog Tryd.f71 true [] = some d71 := by kernel_rfl
theorem tr73 : trFn Tryd.prog Tryd.f73 true [[0, 1, 5], [], [0, 1, 5, 6, 7, 8, 9, 10], [0, 1, 5, 6, 7, 8, 9, 10]] = some d73 := by kernel_rfl
theorem tr74 : trFn Tryd.prog Tryd.f74 true [] = some d74 := by kernel_rfl
theorem tr75 : trFn Tryd.prog Tryd.f75 true [] = some d75 := by kernel_rfl
theorem tr76 : trFn Tryd.prog Tryd.f76 true [[]] = some d76 := by kernel_rfl
theorem tr77 : trFn Tryd.prog Tryd.f77 true [] = some d77 := by kernel_rfl
theorem tr79 : trFn Tryd.prog Tryd.f79 true [] = some d79 := by kernel_rfl
theorem tr80 : trFn Tryd.prog Tryd.f80 true [] = some d80 := by kernel_rfl
theorem tr81 : trFn Tryd.prog Tryd.f81 true [[0, 1, 5, 6, 7, 8], [0, 1, 5, 6, 7, 8, 9], [0, 1, 5, 6, 7, 8, 9], [], [0, 1, 5, 6, 7, 8, 10], [0, 1, 5, 6, 7, 8, 10]] = some d81 := by kernel_rfl
theorem tr83 : trFn Tryd.prog Tryd.f83 true [[0, 4], [0, 4, 5], [0, 4, 5], [4, 6], [4, 6, 7, 8], [4, 6, 7, 8]] = some d83 := by kernel_rfl
theorem tr104 : trFn Tryd.prog Tryd.f104 true [] = some d104 := by kernel_rfl
end Go.Eng.S
