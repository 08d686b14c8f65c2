/- The literals of Ta are the translations of the loaded functions, by a program (gen.py). No condition. -/
import Derived.Test.YtgjgcjhmaibblaaGreatDoorTa
import Derived.Test.YtgjgcjhmaibblaaGreatDoorProg
namespace Go.Eng.S
open Go Go.Eng Go.Proofs

theorem tr3 : trFn Tryz.prog Tryz.f3 true [[0], [0, 1, 5], [0, 1, 5]] = some d3 := by kernel_rfl
theorem tr4 : trFn Tryz.prog Tryz.f4 true [[0, 1], [0, 1, 5], [0, 1, 5]] = some d4 := by kernel_rfl
theorem tr5 : trFn Tryz.prog Tryz.f5 true [] = some d5 := by kernel_rfl
theorem tr6 : trFn Tryz.prog Tryz.f6 true [] = some d6 := by kernel_rfl
theorem tr7 : trFn Tryz.prog Tryz.f7 true [] = some d7 := by kernel_rfl
theorem tr8 : trFn Tryz.prog Tryz.f8 true [] = some d8 := by kernel_rfl
theorem tr10 : trFn Tryz.prog Tryz.f10 true [[1, 3], [1, 3, 4], [1, 3, 4]] = some d10 := by kernel_rfl
theorem tr11 : trFn Tryz.prog Tryz.f11 true [[1, 2], [1, 2, 10, 11, 12], [1, 2, 10, 11, 12]] = some d11 := by kernel_rfl
theorem tr12 : trFn Tryz.prog Tryz.f12 true [] = some d12 := by kernel_rfl
theorem tr13 : trFn Tryz.prog Tryz.f13 true [] = some d13 := by kernel_rfl
theorem tr14 : trFn Tryz.prog Tryz.f14 true [[3], [0, 3, 4], [0, 3, 4]] = some d14 := by kernel_rfl
theorem tr15 : trFn Tryz.prog Tryz.f15 true [[6], [0, 1, 6], [0, 1, 6]] = some d15 := by kernel_rfl
theorem tr16 : trFn Tryz.prog Tryz.f16 true [[], [0, 1, 5], [0, 1, 5]] = some d16 := by kernel_rfl
theorem tr17 : trFn Tryz.prog Tryz.f17 true [[6], [0, 1, 6], [0, 1, 6]] = some d17 := by kernel_rfl
theorem tr18 : trFn Tryz.prog Tryz.f18 true [] = some d18 := by kernel_rfl
theorem tr19 : trFn Tryz.prog Tryz.f19 true [[0], [0, 3], [0, 3]] = some d19 := by kernel_rfl
theorem tr20 : trFn Tryz.prog Tryz.f20 false [] = some d20 := by kernel_rfl
theorem tr21 : trFn Tryz.prog Tryz.f21 true [] = some d21 := by kernel_rfl
theorem tr22 : trFn Tryz.prog Tryz.f22 true [[], [0, 3, 4, 5], [0, 3, 4, 5]] = some d22 := by kernel_rfl
theorem tr23 : trFn Tryz.prog Tryz.f23 true [] = some d23 := by kernel_rfl
theorem tr24 : trFn Tryz.prog Tryz.f24 true [[], [0, 1, 7, 8], [0, 1, 7, 8]] = some d24 := by kernel_rfl
theorem tr25 : trFn Tryz.prog Tryz.f25 true [] = some d25 := by kernel_rfl
theorem tr26 : trFn Tryz.prog Tryz.f26 true [[0], [0], [0], [0], [0], [0]] = some d26 := by kernel_rfl
theorem tr27 : trFn Tryz.prog Tryz.f27 true [] = some d27 := by kernel_rfl
theorem tr28 : trFn Tryz.prog Tryz.f28 true [] = some d28 := by kernel_rfl
theorem tr29 : trFn Tryz.prog Tryz.f29 true [[], [1, 3], [1, 3]] = some d29 := by kernel_rfl
theorem tr30 : trFn Tryz.prog Tryz.f30 true [[5], [1, 5, 8, 9, 10], [1, 5, 8, 9, 10]] = some d30 := by kernel_rfl
theorem tr31 : trFn Tryz.prog Tryz.f31 true [[0, 1, 4, 7, 9], [0, 1, 4, 7, 9, 37, 38, 39], [0, 1, 4, 7, 9, 37, 38, 39]] = some d31 := by kernel_rfl
theorem tr32 : trFn Tryz.prog Tryz.f32 true [] = some d32 := by kernel_rfl
theorem tr33 : trFn Tryz.prog Tryz.f33 true [] = some d33 := by kernel_rfl
theorem tr34 : trFn Tryz.prog Tryz.f34 true [[4], [0, 1, 4, 6], [0, 1, 4, 6]] = some d34 := by kernel_rfl
theorem tr36 : trFn Tryz.prog Tryz.f36 true [[6], [0, 1, 2], [0, 1, 2], [0, 1, 2], [], [1, 2, 43, 44, 45], [1, 2, 43, 44, 45]] = some d36 := by kernel_rfl
theorem tr37 : trFn Tryz.prog Tryz.f37 true [[0], [0, 12, 13, 14], [0, 12, 13, 14]] = some d37 := by kernel_rfl
theorem tr38 : trFn Tryz.prog Tryz.f38 true [] = some d38 := by kernel_rfl
theorem tr39 : trFn Tryz.prog Tryz.f39 true [] = some d39 := by kernel_rfl
theorem tr40 : trFn Tryz.prog Tryz.f40 true [[0], [], []] = some d40 := by kernel_rfl
theorem tr41 : trFn Tryz.prog Tryz.f41 true [] = some d41 := by kernel_rfl
theorem tr42 : trFn Tryz.prog Tryz.f42 true [] = some d42 := by kernel_rfl
theorem tr43 : trFn Tryz.prog Tryz.f43 true [[]] = some d43 := by kernel_rfl
theorem tr44 : trFn Tryz.prog Tryz.f44 true [] = some d44 := by kernel_rfl
theorem tr45 : trFn Tryz.prog Tryz.f45 true [[2], [0, 3, 4], [0, 3, 4]] = some d45 := by kernel_rfl
theorem tr46 : trFn Tryz.prog Tryz.f46 true [[5], [0, 1, 5, 6], [0, 1, 5, 6]] = some d46 := by kernel_rfl
theorem tr47 : trFn Tryz.prog Tryz.f47 true [[0, 1, 2], [0, 1, 2, 9], [0, 1, 2, 9], [10], [0, 1, 2, 10, 11], [0, 1, 2, 10, 11]] = some d47 := by kernel_rfl
theorem tr48 : trFn Tryz.prog Tryz.f48 true [] = some d48 := by kernel_rfl
theorem tr49 : trFn Tryz.prog Tryz.f49 true [] = some d49 := by kernel_rfl
theorem tr50 : trFn Tryz.prog Tryz.f50 true [[], [0, 1, 5], [0, 1, 5]] = some d50 := by kernel_rfl
theorem tr51 : trFn Tryz.prog Tryz.f51 true [[0, 3], [0, 3], [0, 3], [0, 3, 4], [0, 3, 4], [0, 3, 4]] = some d51 := by kernel_rfl
theorem tr52 : trFn Tryz.prog Tryz.f52 true [[], [5, 6, 12, 13, 14], [5, 6, 12, 13, 14], [5, 6, 12, 13, 14]] = some d52 := by kernel_rfl
theorem tr53 : trFn Tryz.prog Tryz.f53 true [] = some d53 := by kernel_rfl
theorem tr54 : trFn Tryz.prog Tryz.f54 true [] = some d54 := by kernel_rfl
theorem tr55 : trFn Tryz.prog Tryz.f55 true [[], [0, 1, 5], [0, 1, 5]] = some d55 := by kernel_rfl
theorem tr56 : trFn Tryz.prog Tryz.f56 true [[0, 2, 3, 8, 10], [0, 1, 2, 3, 8, 10, 11, 12], [0, 1, 2, 3, 8, 10, 11, 12], [0, 1, 2, 3, 8, 10, 12, 17], [0, 1, 2, 3, 8, 10, 12, 13, 17, 18], [0, 1, 2, 3, 8, 10, 12, 13, 17, 18]] = some d56 := by kernel_rfl
theorem tr57 : trFn Tryz.prog Tryz.f57 true [] = some d57 := by kernel_rfl
theorem tr58 : trFn Tryz.prog Tryz.f58 true [] = some d58 := by kernel_rfl
theorem tr59 : trFn Tryz.prog Tryz.f59 true [[], [0, 9, 10, 11], [0, 9, 10, 11]] = some d59 := by kernel_rfl
theorem tr60 : trFn Tryz.prog Tryz.f60 true [] = some d60 := by kernel_rfl
theorem tr61 : trFn Tryz.prog Tryz.f61 true [] = some d61 := by kernel_rfl
theorem tr62 : trFn Tryz.prog Tryz.f62 true [[10, 11], [0, 1, 2, 3, 10, 11, 19, 20], [0, 1, 2, 3, 10, 11, 19, 20]] = some d62 := by kernel_rfl
theorem tr63 : trFn Tryz.prog Tryz.f63 true [] = some d63 := by kernel_rfl
theorem tr64 : trFn Tryz.prog Tryz.f64 true [] = some d64 := by kernel_rfl
theorem tr65 : trFn Tryz.prog Tryz.f65 true [[3], [0, 3, 4], [0, 3, 4]] = some d65 := by kernel_rfl
theorem tr66 : trFn Tryz.prog Tryz.f66 true [] = some d66 := by kernel_rfl
theorem tr67 : trFn Tryz.prog Tryz.f67 true [[0]] = some d67 := by kernel_rfl
theorem tr68 : trFn Tryz.prog Tryz.f68 false [] = some d68 := by kernel_rfl
theorem tr69 : trFn Tryz.prog Tryz.f69 false [] = some d69 := by kernel_rfl
theorem tr70 : trFn Tryz.prog Tryz.f70 false [] = some d70 := by kernel_rfl
theorem tr71 : trFn Tryz.prog Tryz.f71 true [] = some d71 := by kernel_rfl
theorem tr72 : trFn Tryz.prog Tryz.f72 true [] = some d72 := by kernel_rfl
theorem tr73 : trFn Tryz.prog Tryz.f73 true [] = some d73 := by kernel_rfl
theorem tr74 : trFn Tryz.prog Tryz.f74 true [[3], [], [], []] = some d74 := by kernel_rfl
theorem tr75 : trFn Tryz.prog Tryz.f75 true [[]] = some d75 := by kernel_rfl
theorem tr76 : trFn Tryz.prog Tryz.f76 true [[]] = some d76 := by kernel_rfl
theorem tr77 : trFn Tryz.prog Tryz.f77 true [] = some d77 := by kernel_rfl
theorem tr78 : trFn Tryz.prog Tryz.f78 true [[3], [3, 8, 9, 10], [3, 8, 9, 10]] = some d78 := by kernel_rfl
theorem tr79 : trFn Tryz.prog Tryz.f79 false [[5], [1, 5, 10, 11, 12], [1, 5, 10, 11, 12]] = some d79 := by kernel_rfl
theorem tr80 : trFn Tryz.prog Tryz.f80 false [] = some d80 := by kernel_rfl
theorem tr81 : trFn Tryz.prog Tryz.f81 true [] = some d81 := by kernel_rfl
theorem tr82 : trFn Tryz.prog Tryz.f82 true [[], [0, 3, 4, 5], [0, 3, 4, 5]] = some d82 := by kernel_rfl
theorem tr83 : trFn Tryz.prog Tryz.f83 true [[], [0, 1, 5], [0, 1, 5]] = some d83 := by kernel_rfl
theorem tr84 : trFn Tryz.prog Tryz.f84 true [] = some d84 := by kernel_rfl
theorem tr85 : trFn Tryz.prog Tryz.f85 false [[0, 1], [], [0], [], [], [0]] = some d85 := by kernel_rfl
theorem tr86 : trFn Tryz.prog Tryz.f86 true [[0, 1, 5], [], [0, 1, 5, 6, 7, 8, 9, 10], [0, 1, 5, 6, 7, 8, 9, 10]] = some d86 := by kernel_rfl
theorem tr87 : trFn Tryz.prog Tryz.f87 true [] = some d87 := by kernel_rfl
theorem tr88 : trFn Tryz.prog Tryz.f88 true [] = some d88 := by kernel_rfl
theorem tr89 : trFn Tryz.prog Tryz.f89 true [] = some d89 := by kernel_rfl
theorem tr91 : trFn Tryz.prog Tryz.f91 true [] = some d91 := by kernel_rfl
theorem tr92 : trFn Tryz.prog Tryz.f92 true [[0, 1, 5, 6, 7, 8], [0, 1, 5, 6, 7, 8, 9], [0, 1, 5, 6, 7, 8, 9], [], [0, 1, 5, 6, 7, 8, 10], [0, 1, 5, 6, 7, 8, 10]] = some d92 := by kernel_rfl
theorem tr93 : trFn Tryz.prog Tryz.f93 true [] = some d93 := by kernel_rfl
theorem tr95 : trFn Tryz.prog Tryz.f95 true [[0, 4], [0, 4, 5], [0, 4, 5], [4, 6], [4, 6, 7, 8], [4, 6, 7, 8]] = some d95 := by kernel_rfl
theorem tr96 : trFn Tryz.prog Tryz.f96 true [] = some d96 := by kernel_rfl
theorem tr97 : trFn Tryz.prog Tryz.f97 true [] = some d97 := by kernel_rfl
theorem tr98 : trFn Tryz.prog Tryz.f98 false [[0, 1, 4], [0, 1, 4], [0, 1, 4]] = some d98 := by kernel_rfl
theorem tr99 : trFn Tryz.prog Tryz.f99 true [[0, 1, 3, 4, 10, 11, 12, 13], [0, 1, 3, 4, 10, 11, 12, 13, 14, 15, 16], [0, 1, 3, 4, 10, 11, 12, 13, 14, 15, 16], [0, 1, 3, 4, 10, 11, 12, 13], [0, 1, 3, 4, 10, 11, 12, 13, 17], [0, 1, 3, 4, 10, 11, 12, 13, 17]] = some d99 := by kernel_rfl
theorem tr100 : trFn Tryz.prog Tryz.f100 true [] = some d100 := by kernel_rfl
theorem tr101 : trFn Tryz.prog Tryz.f101 true [] = some d101 := by kernel_rfl
theorem tr102 : trFn Tryz.prog Tryz.f102 true [] = some d102 := by kernel_rfl
theorem tr103 : trFn Tryz.prog Tryz.f103 true [] = some d103 := by kernel_rfl
theorem tr104 : trFn Tryz.prog Tryz.f104 true [] = some d104 := by kernel_rfl
theorem tr105 : trFn Tryz.prog Tryz.f105 true [] = some d105 := by kernel_rfl
theorem tr106 : trFn Tryz.prog Tryz.f106 true [] = some d106 := by kernel_rfl
theorem tr123 : trFn Tryz.prog Tryz.f123 true [] = some d123 := by kernel_rfl
theorem tr137 : trFn Tryz.prog Tryz.f137 true [] = some d137 := by kernel_rfl
end Go.Eng.S
