/- The literals of Ta are the translations of the loaded functions, by a program (gen.py). No condition. -/
import Derived.Test.YtdffpjbjpfolfaaGreatDoorTa
import Derived.Test.YtdffpjbjpfolfaaGreatDoorProg
namespace Go.Eng.S
open Go Go.Eng Go.Proofs

theorem tr3 : trFn Tryz.prog Tryz.f3 true [] = some d3 := by kernel_rfl
theorem tr4 : trFn Tryz.prog Tryz.f4 true [[0, 1, 5], [0, 1, 5, 6], [0, 1, 5, 6]] = some d4 := by kernel_rfl
theorem tr5 : trFn Tryz.prog Tryz.f5 true [[0, 5, 7], [0, 5, 7, 8], [0, 5, 7, 8]] = some d5 := by kernel_rfl
theorem tr6 : trFn Tryz.prog Tryz.f6 true [] = some d6 := by kernel_rfl
theorem tr7 : trFn Tryz.prog Tryz.f7 true [] = some d7 := by kernel_rfl
theorem tr8 : trFn Tryz.prog Tryz.f8 true [[0, 2], [0, 2, 4], [0, 2, 4], [2, 6, 7], [2, 5, 6, 7, 8, 9], [2, 5, 6, 7, 8, 9]] = some d8 := by kernel_rfl
theorem tr9 : trFn Tryz.prog Tryz.f9 true [[], [0, 1, 5], [0, 1, 5]] = some d9 := by kernel_rfl
theorem tr10 : trFn Tryz.prog Tryz.f10 true [] = some d10 := by kernel_rfl
theorem tr11 : trFn Tryz.prog Tryz.f11 true [[3], [0, 3, 4], [0, 3, 4]] = some d11 := by kernel_rfl
theorem tr12 : trFn Tryz.prog Tryz.f12 true [] = some d12 := by kernel_rfl
theorem tr13 : trFn Tryz.prog Tryz.f13 true [] = some d13 := by kernel_rfl
theorem tr14 : trFn Tryz.prog Tryz.f14 true [[0], [0, 3], [0, 3]] = some d14 := by kernel_rfl
theorem tr15 : trFn Tryz.prog Tryz.f15 true [[1, 3], [1, 3, 7, 8, 9], [1, 3, 7, 8, 9]] = some d15 := by kernel_rfl
theorem tr16 : trFn Tryz.prog Tryz.f16 true [[1, 3], [1, 3, 4], [1, 3, 4]] = some d16 := by kernel_rfl
theorem tr17 : trFn Tryz.prog Tryz.f17 true [] = some d17 := by kernel_rfl
theorem tr18 : trFn Tryz.prog Tryz.f18 true [[0]] = some d18 := by kernel_rfl
theorem tr19 : trFn Tryz.prog Tryz.f19 true [] = some d19 := by kernel_rfl
theorem tr20 : trFn Tryz.prog Tryz.f20 true [] = some d20 := by kernel_rfl
theorem tr21 : trFn Tryz.prog Tryz.f21 true [] = some d21 := by kernel_rfl
theorem tr22 : trFn Tryz.prog Tryz.f22 true [[4], [4, 5, 11, 12, 13], [4, 5, 11, 12, 13]] = some d22 := by kernel_rfl
theorem tr23 : trFn Tryz.prog Tryz.f23 true [[2, 4], [0, 2, 4, 8, 9, 10], [0, 2, 4, 8, 9, 10], [0, 2, 4, 6, 8, 9, 10], [0, 2, 4, 7, 8, 9, 10], [0, 2, 4, 7, 8, 9, 10], [0, 2, 4, 5, 7, 8, 9, 10]] = some d23 := by kernel_rfl
theorem tr24 : trFn Tryz.prog Tryz.f24 true [[0, 1], [0, 1, 5], [0, 1, 5, 39, 40, 41], [0, 1, 5, 39, 40, 41], [8], [1, 8, 63, 64, 65], [1, 8, 63, 64, 65]] = some d24 := by kernel_rfl
theorem tr25 : trFn Tryz.prog Tryz.f25 true [] = some d25 := by kernel_rfl
theorem tr26 : trFn Tryz.prog Tryz.f26 true [[], [0, 3, 4, 5], [0, 3, 4, 5]] = some d26 := by kernel_rfl
theorem tr27 : trFn Tryz.prog Tryz.f27 true [[4], [0, 4, 5], [0, 4, 5]] = some d27 := by kernel_rfl
theorem tr28 : trFn Tryz.prog Tryz.f28 true [[], [0, 1, 5], [0, 1, 5]] = some d28 := by kernel_rfl
theorem tr29 : trFn Tryz.prog Tryz.f29 true [[2, 4, 5], [0, 2, 4, 5, 6], [0, 2, 4, 5, 6]] = some d29 := by kernel_rfl
theorem tr30 : trFn Tryz.prog Tryz.f30 true [] = some d30 := by kernel_rfl
theorem tr31 : trFn Tryz.prog Tryz.f31 true [] = some d31 := by kernel_rfl
theorem tr32 : trFn Tryz.prog Tryz.f32 true [] = some d32 := by kernel_rfl
theorem tr33 : trFn Tryz.prog Tryz.f33 true [] = some d33 := by kernel_rfl
theorem tr34 : trFn Tryz.prog Tryz.f34 true [[3], [0, 3, 7, 8], [0, 3, 7, 8]] = some d34 := by kernel_rfl
theorem tr35 : trFn Tryz.prog Tryz.f35 true [[4], [0, 3, 4, 5], [0, 3, 4, 5]] = some d35 := by kernel_rfl
theorem tr36 : trFn Tryz.prog Tryz.f36 true [] = some d36 := by kernel_rfl
theorem tr37 : trFn Tryz.prog Tryz.f37 true [[], [0, 1, 12, 13], [0, 1, 12, 13]] = some d37 := by kernel_rfl
theorem tr38 : trFn Tryz.prog Tryz.f38 true [] = some d38 := by kernel_rfl
theorem tr39 : trFn Tryz.prog Tryz.f39 true [[], [0, 1, 7, 8], [0, 1, 7, 8]] = some d39 := by kernel_rfl
theorem tr40 : trFn Tryz.prog Tryz.f40 true [] = some d40 := by kernel_rfl
theorem tr41 : trFn Tryz.prog Tryz.f41 true [] = some d41 := by kernel_rfl
theorem tr42 : trFn Tryz.prog Tryz.f42 true [[4], [0, 4, 5, 12, 13], [0, 4, 5, 12, 13], [0, 4, 5, 7, 12, 13]] = some d42 := by kernel_rfl
theorem tr43 : trFn Tryz.prog Tryz.f43 true [] = some d43 := by kernel_rfl
theorem tr44 : trFn Tryz.prog Tryz.f44 false [] = some d44 := by kernel_rfl
theorem tr45 : trFn Tryz.prog Tryz.f45 false [] = some d45 := by kernel_rfl
theorem tr46 : trFn Tryz.prog Tryz.f46 false [] = some d46 := by kernel_rfl
theorem tr47 : trFn Tryz.prog Tryz.f47 true [] = some d47 := by kernel_rfl
theorem tr48 : trFn Tryz.prog Tryz.f48 true [[0, 9, 10], [0, 1, 2, 3, 9, 10], [0, 1, 2, 3, 9, 10]] = some d48 := by kernel_rfl
theorem tr49 : trFn Tryz.prog Tryz.f49 false [] = some d49 := by kernel_rfl
theorem tr50 : trFn Tryz.prog Tryz.f50 true [[0]] = some d50 := by kernel_rfl
theorem tr51 : trFn Tryz.prog Tryz.f51 true [] = some d51 := by kernel_rfl
theorem tr52 : trFn Tryz.prog Tryz.f52 true [] = some d52 := by kernel_rfl
theorem tr53 : trFn Tryz.prog Tryz.f53 true [[0], [], [], []] = some d53 := by kernel_rfl
theorem tr54 : trFn Tryz.prog Tryz.f54 true [] = some d54 := by kernel_rfl
theorem tr55 : trFn Tryz.prog Tryz.f55 false [] = some d55 := by kernel_rfl
theorem tr56 : trFn Tryz.prog Tryz.f56 true [[], [0, 6, 8], [0, 6, 8], [], [1, 45], [1, 45]] = some d56 := by kernel_rfl
theorem tr57 : trFn Tryz.prog Tryz.f57 false [] = some d57 := by kernel_rfl
theorem tr58 : trFn Tryz.prog Tryz.f58 false [] = some d58 := by kernel_rfl
theorem tr59 : trFn Tryz.prog Tryz.f59 true [[0, 1, 6], [0, 1, 6, 7], [0, 1, 6, 7]] = some d59 := by kernel_rfl
theorem tr60 : trFn Tryz.prog Tryz.f60 true [[4], [0, 1, 5], [0, 1, 5]] = some d60 := by kernel_rfl
theorem tr61 : trFn Tryz.prog Tryz.f61 true [] = some d61 := by kernel_rfl
theorem tr65 : trFn Tryz.prog Tryz.f65 false [[8], [0, 1, 3, 6], [0, 1, 3, 6], [0, 1, 3, 6], [], [1, 3, 6, 48, 49, 50], [1, 3, 6, 48, 49, 50]] = some d65 := by kernel_rfl
theorem tr66 : trFn Tryz.prog Tryz.f66 true [] = some d66 := by kernel_rfl
theorem tr67 : trFn Tryz.prog Tryz.f67 true [[]] = some d67 := by kernel_rfl
theorem tr68 : trFn Tryz.prog Tryz.f68 true [[4], [], [175], [175], [], [0, 7, 8, 9], [0, 7, 8, 9], [8, 9], [0, 7, 8, 9, 12], [0, 7, 8, 9, 12], [], [0, 7, 8, 9, 14, 15], [0, 7, 8, 9, 14, 15], [8, 9], [0, 7, 8, 9, 14, 15, 16], [0, 7, 8, 9, 14, 15, 16]] = some d68 := by kernel_rfl
theorem tr69 : trFn Tryz.prog Tryz.f69 true [] = some d69 := by kernel_rfl
theorem tr70 : trFn Tryz.prog Tryz.f70 true [[2], [0, 2, 4], [0, 2, 4]] = some d70 := by kernel_rfl
theorem tr71 : trFn Tryz.prog Tryz.f71 false [] = some d71 := by kernel_rfl
theorem tr74 : trFn Tryz.prog Tryz.f74 true [[2], [2, 4], [2, 4]] = some d74 := by kernel_rfl
theorem tr75 : trFn Tryz.prog Tryz.f75 true [] = some d75 := by kernel_rfl
theorem tr77 : trFn Tryz.prog Tryz.f77 true [[0, 1, 5], [], [0, 1, 5, 6, 7, 8, 9, 10], [0, 1, 5, 6, 7, 8, 9, 10]] = some d77 := by kernel_rfl
theorem tr81 : trFn Tryz.prog Tryz.f81 true [] = some d81 := by kernel_rfl
theorem tr82 : trFn Tryz.prog Tryz.f82 true [] = some d82 := by kernel_rfl
theorem tr83 : trFn Tryz.prog Tryz.f83 true [] = some d83 := by kernel_rfl
theorem tr84 : trFn Tryz.prog Tryz.f84 true [] = some d84 := by kernel_rfl
theorem tr85 : trFn Tryz.prog Tryz.f85 true [[]] = some d85 := by kernel_rfl
theorem tr86 : trFn Tryz.prog Tryz.f86 true [] = some d86 := by kernel_rfl
theorem tr88 : trFn Tryz.prog Tryz.f88 true [] = some d88 := by kernel_rfl
theorem tr89 : trFn Tryz.prog Tryz.f89 true [] = some d89 := by kernel_rfl
theorem tr90 : trFn Tryz.prog Tryz.f90 true [[0, 1, 5, 6, 7, 8], [0, 1, 5, 6, 7, 8, 9], [0, 1, 5, 6, 7, 8, 9], [], [0, 1, 5, 6, 7, 8, 10], [0, 1, 5, 6, 7, 8, 10]] = some d90 := by kernel_rfl
theorem tr92 : trFn Tryz.prog Tryz.f92 true [[0, 4], [0, 4, 5], [0, 4, 5], [4, 6], [4, 6, 7, 8], [4, 6, 7, 8]] = some d92 := by kernel_rfl
theorem tr113 : trFn Tryz.prog Tryz.f113 true [] = some d113 := by kernel_rfl
end Go.Eng.S
