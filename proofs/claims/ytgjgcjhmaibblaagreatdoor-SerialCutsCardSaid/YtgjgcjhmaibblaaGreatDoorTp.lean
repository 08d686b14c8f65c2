/- Look-ups of the table, by a program (tp.py). No condition. -/
import Derived.Test.YtgjgcjhmaibblaaGreatDoorTa
import Derived.Test.YtgjgcjhmaibblaaGreatDoorEg
namespace Go.Eng.S
open Go Go.Eng
set_option linter.unusedSectionVars false
variable [Sit]
theorem fd3 : T.fn 3 = some d3 := by kernel_rfl
@[simp] theorem ip3 : isPure T 3 = true := isPure_of fd3 rfl
theorem q3 (args : List AV) (H : Heap) : C T 3 args H = snpK (mapS (snap 64) H args) fun args' H' => purK H' (B T d3.body d3.res args' []) := Q_pure fd3 rfl args H
theorem fd4 : T.fn 4 = some d4 := by kernel_rfl
@[simp] theorem ip4 : isPure T 4 = true := isPure_of fd4 rfl
theorem q4 (args : List AV) (H : Heap) : C T 4 args H = snpK (mapS (snap 64) H args) fun args' H' => purK H' (B T d4.body d4.res args' []) := Q_pure fd4 rfl args H
theorem fd5 : T.fn 5 = some d5 := by kernel_rfl
@[simp] theorem ip5 : isPure T 5 = true := isPure_of fd5 rfl
theorem q5 (args : List AV) (H : Heap) : C T 5 args H = snpK (mapS (snap 64) H args) fun args' H' => purK H' (B T d5.body d5.res args' []) := Q_pure fd5 rfl args H
theorem fd6 : T.fn 6 = some d6 := by kernel_rfl
@[simp] theorem ip6 : isPure T 6 = true := isPure_of fd6 rfl
theorem q6 (args : List AV) (H : Heap) : C T 6 args H = snpK (mapS (snap 64) H args) fun args' H' => purK H' (B T d6.body d6.res args' []) := Q_pure fd6 rfl args H
theorem fd7 : T.fn 7 = some d7 := by kernel_rfl
@[simp] theorem ip7 : isPure T 7 = true := isPure_of fd7 rfl
theorem q7 (args : List AV) (H : Heap) : C T 7 args H = snpK (mapS (snap 64) H args) fun args' H' => purK H' (B T d7.body d7.res args' []) := Q_pure fd7 rfl args H
theorem fd8 : T.fn 8 = some d8 := by kernel_rfl
@[simp] theorem ip8 : isPure T 8 = true := isPure_of fd8 rfl
theorem q8 (args : List AV) (H : Heap) : C T 8 args H = snpK (mapS (snap 64) H args) fun args' H' => purK H' (B T d8.body d8.res args' []) := Q_pure fd8 rfl args H
theorem fd10 : T.fn 10 = some d10 := by kernel_rfl
@[simp] theorem ip10 : isPure T 10 = true := isPure_of fd10 rfl
theorem q10 (args : List AV) (H : Heap) : C T 10 args H = snpK (mapS (snap 64) H args) fun args' H' => purK H' (B T d10.body d10.res args' []) := Q_pure fd10 rfl args H
theorem fd11 : T.fn 11 = some d11 := by kernel_rfl
@[simp] theorem ip11 : isPure T 11 = true := isPure_of fd11 rfl
theorem q11 (args : List AV) (H : Heap) : C T 11 args H = snpK (mapS (snap 64) H args) fun args' H' => purK H' (B T d11.body d11.res args' []) := Q_pure fd11 rfl args H
theorem fd12 : T.fn 12 = some d12 := by kernel_rfl
@[simp] theorem ip12 : isPure T 12 = true := isPure_of fd12 rfl
theorem q12 (args : List AV) (H : Heap) : C T 12 args H = snpK (mapS (snap 64) H args) fun args' H' => purK H' (B T d12.body d12.res args' []) := Q_pure fd12 rfl args H
theorem fd13 : T.fn 13 = some d13 := by kernel_rfl
@[simp] theorem ip13 : isPure T 13 = true := isPure_of fd13 rfl
theorem q13 (args : List AV) (H : Heap) : C T 13 args H = snpK (mapS (snap 64) H args) fun args' H' => purK H' (B T d13.body d13.res args' []) := Q_pure fd13 rfl args H
theorem fd14 : T.fn 14 = some d14 := by kernel_rfl
@[simp] theorem ip14 : isPure T 14 = true := isPure_of fd14 rfl
theorem q14 (args : List AV) (H : Heap) : C T 14 args H = snpK (mapS (snap 64) H args) fun args' H' => purK H' (B T d14.body d14.res args' []) := Q_pure fd14 rfl args H
theorem fd15 : T.fn 15 = some d15 := by kernel_rfl
@[simp] theorem ip15 : isPure T 15 = true := isPure_of fd15 rfl
theorem q15 (args : List AV) (H : Heap) : C T 15 args H = snpK (mapS (snap 64) H args) fun args' H' => purK H' (B T d15.body d15.res args' []) := Q_pure fd15 rfl args H
theorem fd16 : T.fn 16 = some d16 := by kernel_rfl
@[simp] theorem ip16 : isPure T 16 = true := isPure_of fd16 rfl
theorem q16 (args : List AV) (H : Heap) : C T 16 args H = snpK (mapS (snap 64) H args) fun args' H' => purK H' (B T d16.body d16.res args' []) := Q_pure fd16 rfl args H
theorem fd17 : T.fn 17 = some d17 := by kernel_rfl
@[simp] theorem ip17 : isPure T 17 = true := isPure_of fd17 rfl
theorem q17 (args : List AV) (H : Heap) : C T 17 args H = snpK (mapS (snap 64) H args) fun args' H' => purK H' (B T d17.body d17.res args' []) := Q_pure fd17 rfl args H
theorem fd18 : T.fn 18 = some d18 := by kernel_rfl
@[simp] theorem ip18 : isPure T 18 = true := isPure_of fd18 rfl
theorem q18 (args : List AV) (H : Heap) : C T 18 args H = snpK (mapS (snap 64) H args) fun args' H' => purK H' (B T d18.body d18.res args' []) := Q_pure fd18 rfl args H
theorem fd19 : T.fn 19 = some d19 := by kernel_rfl
@[simp] theorem ip19 : isPure T 19 = true := isPure_of fd19 rfl
theorem q19 (args : List AV) (H : Heap) : C T 19 args H = snpK (mapS (snap 64) H args) fun args' H' => purK H' (B T d19.body d19.res args' []) := Q_pure fd19 rfl args H
theorem fd20 : T.fn 20 = some d20 := by kernel_rfl
theorem q20 (args : List AV) (H : Heap) : C T 20 args H = B T d20.body d20.res args H := Q_code fd20 args H
theorem fd21 : T.fn 21 = some d21 := by kernel_rfl
@[simp] theorem ip21 : isPure T 21 = true := isPure_of fd21 rfl
theorem q21 (args : List AV) (H : Heap) : C T 21 args H = snpK (mapS (snap 64) H args) fun args' H' => purK H' (B T d21.body d21.res args' []) := Q_pure fd21 rfl args H
theorem fd22 : T.fn 22 = some d22 := by kernel_rfl
@[simp] theorem ip22 : isPure T 22 = true := isPure_of fd22 rfl
theorem q22 (args : List AV) (H : Heap) : C T 22 args H = snpK (mapS (snap 64) H args) fun args' H' => purK H' (B T d22.body d22.res args' []) := Q_pure fd22 rfl args H
theorem fd23 : T.fn 23 = some d23 := by kernel_rfl
@[simp] theorem ip23 : isPure T 23 = true := isPure_of fd23 rfl
theorem q23 (args : List AV) (H : Heap) : C T 23 args H = snpK (mapS (snap 64) H args) fun args' H' => purK H' (B T d23.body d23.res args' []) := Q_pure fd23 rfl args H
theorem fd24 : T.fn 24 = some d24 := by kernel_rfl
@[simp] theorem ip24 : isPure T 24 = true := isPure_of fd24 rfl
theorem q24 (args : List AV) (H : Heap) : C T 24 args H = snpK (mapS (snap 64) H args) fun args' H' => purK H' (B T d24.body d24.res args' []) := Q_pure fd24 rfl args H
theorem fd25 : T.fn 25 = some d25 := by kernel_rfl
@[simp] theorem ip25 : isPure T 25 = true := isPure_of fd25 rfl
theorem q25 (args : List AV) (H : Heap) : C T 25 args H = snpK (mapS (snap 64) H args) fun args' H' => purK H' (B T d25.body d25.res args' []) := Q_pure fd25 rfl args H
theorem fd26 : T.fn 26 = some d26 := by kernel_rfl
@[simp] theorem ip26 : isPure T 26 = true := isPure_of fd26 rfl
theorem q26 (args : List AV) (H : Heap) : C T 26 args H = snpK (mapS (snap 64) H args) fun args' H' => purK H' (B T d26.body d26.res args' []) := Q_pure fd26 rfl args H
theorem fd27 : T.fn 27 = some d27 := by kernel_rfl
@[simp] theorem ip27 : isPure T 27 = true := isPure_of fd27 rfl
theorem q27 (args : List AV) (H : Heap) : C T 27 args H = snpK (mapS (snap 64) H args) fun args' H' => purK H' (B T d27.body d27.res args' []) := Q_pure fd27 rfl args H
theorem fd28 : T.fn 28 = some d28 := by kernel_rfl
@[simp] theorem ip28 : isPure T 28 = true := isPure_of fd28 rfl
theorem q28 (args : List AV) (H : Heap) : C T 28 args H = snpK (mapS (snap 64) H args) fun args' H' => purK H' (B T d28.body d28.res args' []) := Q_pure fd28 rfl args H
theorem fd29 : T.fn 29 = some d29 := by kernel_rfl
@[simp] theorem ip29 : isPure T 29 = true := isPure_of fd29 rfl
theorem q29 (args : List AV) (H : Heap) : C T 29 args H = snpK (mapS (snap 64) H args) fun args' H' => purK H' (B T d29.body d29.res args' []) := Q_pure fd29 rfl args H
theorem fd30 : T.fn 30 = some d30 := by kernel_rfl
@[simp] theorem ip30 : isPure T 30 = true := isPure_of fd30 rfl
theorem q30 (args : List AV) (H : Heap) : C T 30 args H = snpK (mapS (snap 64) H args) fun args' H' => purK H' (B T d30.body d30.res args' []) := Q_pure fd30 rfl args H
theorem fd31 : T.fn 31 = some d31 := by kernel_rfl
@[simp] theorem ip31 : isPure T 31 = true := isPure_of fd31 rfl
theorem q31 (args : List AV) (H : Heap) : C T 31 args H = snpK (mapS (snap 64) H args) fun args' H' => purK H' (B T d31.body d31.res args' []) := Q_pure fd31 rfl args H
theorem fd32 : T.fn 32 = some d32 := by kernel_rfl
@[simp] theorem ip32 : isPure T 32 = true := isPure_of fd32 rfl
theorem q32 (args : List AV) (H : Heap) : C T 32 args H = snpK (mapS (snap 64) H args) fun args' H' => purK H' (B T d32.body d32.res args' []) := Q_pure fd32 rfl args H
theorem fd33 : T.fn 33 = some d33 := by kernel_rfl
@[simp] theorem ip33 : isPure T 33 = true := isPure_of fd33 rfl
theorem q33 (args : List AV) (H : Heap) : C T 33 args H = snpK (mapS (snap 64) H args) fun args' H' => purK H' (B T d33.body d33.res args' []) := Q_pure fd33 rfl args H
theorem fd34 : T.fn 34 = some d34 := by kernel_rfl
@[simp] theorem ip34 : isPure T 34 = true := isPure_of fd34 rfl
theorem q34 (args : List AV) (H : Heap) : C T 34 args H = snpK (mapS (snap 64) H args) fun args' H' => purK H' (B T d34.body d34.res args' []) := Q_pure fd34 rfl args H
theorem fd36 : T.fn 36 = some d36 := by kernel_rfl
@[simp] theorem ip36 : isPure T 36 = true := isPure_of fd36 rfl
theorem q36 (args : List AV) (H : Heap) : C T 36 args H = snpK (mapS (snap 64) H args) fun args' H' => purK H' (B T d36.body d36.res args' []) := Q_pure fd36 rfl args H
theorem fd37 : T.fn 37 = some d37 := by kernel_rfl
@[simp] theorem ip37 : isPure T 37 = true := isPure_of fd37 rfl
theorem q37 (args : List AV) (H : Heap) : C T 37 args H = snpK (mapS (snap 64) H args) fun args' H' => purK H' (B T d37.body d37.res args' []) := Q_pure fd37 rfl args H
theorem fd38 : T.fn 38 = some d38 := by kernel_rfl
@[simp] theorem ip38 : isPure T 38 = true := isPure_of fd38 rfl
theorem q38 (args : List AV) (H : Heap) : C T 38 args H = snpK (mapS (snap 64) H args) fun args' H' => purK H' (B T d38.body d38.res args' []) := Q_pure fd38 rfl args H
theorem fd39 : T.fn 39 = some d39 := by kernel_rfl
@[simp] theorem ip39 : isPure T 39 = true := isPure_of fd39 rfl
theorem q39 (args : List AV) (H : Heap) : C T 39 args H = snpK (mapS (snap 64) H args) fun args' H' => purK H' (B T d39.body d39.res args' []) := Q_pure fd39 rfl args H
theorem fd40 : T.fn 40 = some d40 := by kernel_rfl
@[simp] theorem ip40 : isPure T 40 = true := isPure_of fd40 rfl
theorem q40 (args : List AV) (H : Heap) : C T 40 args H = snpK (mapS (snap 64) H args) fun args' H' => purK H' (B T d40.body d40.res args' []) := Q_pure fd40 rfl args H
theorem fd41 : T.fn 41 = some d41 := by kernel_rfl
@[simp] theorem ip41 : isPure T 41 = true := isPure_of fd41 rfl
theorem q41 (args : List AV) (H : Heap) : C T 41 args H = snpK (mapS (snap 64) H args) fun args' H' => purK H' (B T d41.body d41.res args' []) := Q_pure fd41 rfl args H
theorem fd42 : T.fn 42 = some d42 := by kernel_rfl
@[simp] theorem ip42 : isPure T 42 = true := isPure_of fd42 rfl
theorem q42 (args : List AV) (H : Heap) : C T 42 args H = snpK (mapS (snap 64) H args) fun args' H' => purK H' (B T d42.body d42.res args' []) := Q_pure fd42 rfl args H
theorem fd43 : T.fn 43 = some d43 := by kernel_rfl
@[simp] theorem ip43 : isPure T 43 = true := isPure_of fd43 rfl
theorem q43 (args : List AV) (H : Heap) : C T 43 args H = snpK (mapS (snap 64) H args) fun args' H' => purK H' (B T d43.body d43.res args' []) := Q_pure fd43 rfl args H
theorem fd44 : T.fn 44 = some d44 := by kernel_rfl
@[simp] theorem ip44 : isPure T 44 = true := isPure_of fd44 rfl
theorem q44 (args : List AV) (H : Heap) : C T 44 args H = snpK (mapS (snap 64) H args) fun args' H' => purK H' (B T d44.body d44.res args' []) := Q_pure fd44 rfl args H
theorem fd45 : T.fn 45 = some d45 := by kernel_rfl
@[simp] theorem ip45 : isPure T 45 = true := isPure_of fd45 rfl
theorem q45 (args : List AV) (H : Heap) : C T 45 args H = snpK (mapS (snap 64) H args) fun args' H' => purK H' (B T d45.body d45.res args' []) := Q_pure fd45 rfl args H
theorem fd46 : T.fn 46 = some d46 := by kernel_rfl
@[simp] theorem ip46 : isPure T 46 = true := isPure_of fd46 rfl
theorem q46 (args : List AV) (H : Heap) : C T 46 args H = snpK (mapS (snap 64) H args) fun args' H' => purK H' (B T d46.body d46.res args' []) := Q_pure fd46 rfl args H
theorem fd47 : T.fn 47 = some d47 := by kernel_rfl
@[simp] theorem ip47 : isPure T 47 = true := isPure_of fd47 rfl
theorem q47 (args : List AV) (H : Heap) : C T 47 args H = snpK (mapS (snap 64) H args) fun args' H' => purK H' (B T d47.body d47.res args' []) := Q_pure fd47 rfl args H
theorem fd48 : T.fn 48 = some d48 := by kernel_rfl
@[simp] theorem ip48 : isPure T 48 = true := isPure_of fd48 rfl
theorem q48 (args : List AV) (H : Heap) : C T 48 args H = snpK (mapS (snap 64) H args) fun args' H' => purK H' (B T d48.body d48.res args' []) := Q_pure fd48 rfl args H
theorem fd49 : T.fn 49 = some d49 := by kernel_rfl
@[simp] theorem ip49 : isPure T 49 = true := isPure_of fd49 rfl
theorem q49 (args : List AV) (H : Heap) : C T 49 args H = snpK (mapS (snap 64) H args) fun args' H' => purK H' (B T d49.body d49.res args' []) := Q_pure fd49 rfl args H
theorem fd50 : T.fn 50 = some d50 := by kernel_rfl
@[simp] theorem ip50 : isPure T 50 = true := isPure_of fd50 rfl
theorem q50 (args : List AV) (H : Heap) : C T 50 args H = snpK (mapS (snap 64) H args) fun args' H' => purK H' (B T d50.body d50.res args' []) := Q_pure fd50 rfl args H
theorem fd51 : T.fn 51 = some d51 := by kernel_rfl
@[simp] theorem ip51 : isPure T 51 = true := isPure_of fd51 rfl
theorem q51 (args : List AV) (H : Heap) : C T 51 args H = snpK (mapS (snap 64) H args) fun args' H' => purK H' (B T d51.body d51.res args' []) := Q_pure fd51 rfl args H
theorem fd52 : T.fn 52 = some d52 := by kernel_rfl
@[simp] theorem ip52 : isPure T 52 = true := isPure_of fd52 rfl
theorem q52 (args : List AV) (H : Heap) : C T 52 args H = snpK (mapS (snap 64) H args) fun args' H' => purK H' (B T d52.body d52.res args' []) := Q_pure fd52 rfl args H
theorem fd53 : T.fn 53 = some d53 := by kernel_rfl
@[simp] theorem ip53 : isPure T 53 = true := isPure_of fd53 rfl
theorem q53 (args : List AV) (H : Heap) : C T 53 args H = snpK (mapS (snap 64) H args) fun args' H' => purK H' (B T d53.body d53.res args' []) := Q_pure fd53 rfl args H
theorem fd54 : T.fn 54 = some d54 := by kernel_rfl
@[simp] theorem ip54 : isPure T 54 = true := isPure_of fd54 rfl
theorem q54 (args : List AV) (H : Heap) : C T 54 args H = snpK (mapS (snap 64) H args) fun args' H' => purK H' (B T d54.body d54.res args' []) := Q_pure fd54 rfl args H
theorem fd55 : T.fn 55 = some d55 := by kernel_rfl
@[simp] theorem ip55 : isPure T 55 = true := isPure_of fd55 rfl
theorem q55 (args : List AV) (H : Heap) : C T 55 args H = snpK (mapS (snap 64) H args) fun args' H' => purK H' (B T d55.body d55.res args' []) := Q_pure fd55 rfl args H
theorem fd56 : T.fn 56 = some d56 := by kernel_rfl
@[simp] theorem ip56 : isPure T 56 = true := isPure_of fd56 rfl
theorem q56 (args : List AV) (H : Heap) : C T 56 args H = snpK (mapS (snap 64) H args) fun args' H' => purK H' (B T d56.body d56.res args' []) := Q_pure fd56 rfl args H
theorem fd57 : T.fn 57 = some d57 := by kernel_rfl
@[simp] theorem ip57 : isPure T 57 = true := isPure_of fd57 rfl
theorem q57 (args : List AV) (H : Heap) : C T 57 args H = snpK (mapS (snap 64) H args) fun args' H' => purK H' (B T d57.body d57.res args' []) := Q_pure fd57 rfl args H
theorem fd58 : T.fn 58 = some d58 := by kernel_rfl
@[simp] theorem ip58 : isPure T 58 = true := isPure_of fd58 rfl
theorem q58 (args : List AV) (H : Heap) : C T 58 args H = snpK (mapS (snap 64) H args) fun args' H' => purK H' (B T d58.body d58.res args' []) := Q_pure fd58 rfl args H
theorem fd59 : T.fn 59 = some d59 := by kernel_rfl
@[simp] theorem ip59 : isPure T 59 = true := isPure_of fd59 rfl
theorem q59 (args : List AV) (H : Heap) : C T 59 args H = snpK (mapS (snap 64) H args) fun args' H' => purK H' (B T d59.body d59.res args' []) := Q_pure fd59 rfl args H
theorem fd60 : T.fn 60 = some d60 := by kernel_rfl
@[simp] theorem ip60 : isPure T 60 = true := isPure_of fd60 rfl
theorem q60 (args : List AV) (H : Heap) : C T 60 args H = snpK (mapS (snap 64) H args) fun args' H' => purK H' (B T d60.body d60.res args' []) := Q_pure fd60 rfl args H
theorem fd61 : T.fn 61 = some d61 := by kernel_rfl
@[simp] theorem ip61 : isPure T 61 = true := isPure_of fd61 rfl
theorem q61 (args : List AV) (H : Heap) : C T 61 args H = snpK (mapS (snap 64) H args) fun args' H' => purK H' (B T d61.body d61.res args' []) := Q_pure fd61 rfl args H
theorem fd62 : T.fn 62 = some d62 := by kernel_rfl
@[simp] theorem ip62 : isPure T 62 = true := isPure_of fd62 rfl
theorem q62 (args : List AV) (H : Heap) : C T 62 args H = snpK (mapS (snap 64) H args) fun args' H' => purK H' (B T d62.body d62.res args' []) := Q_pure fd62 rfl args H
theorem fd63 : T.fn 63 = some d63 := by kernel_rfl
@[simp] theorem ip63 : isPure T 63 = true := isPure_of fd63 rfl
theorem q63 (args : List AV) (H : Heap) : C T 63 args H = snpK (mapS (snap 64) H args) fun args' H' => purK H' (B T d63.body d63.res args' []) := Q_pure fd63 rfl args H
theorem fd64 : T.fn 64 = some d64 := by kernel_rfl
@[simp] theorem ip64 : isPure T 64 = true := isPure_of fd64 rfl
theorem q64 (args : List AV) (H : Heap) : C T 64 args H = snpK (mapS (snap 64) H args) fun args' H' => purK H' (B T d64.body d64.res args' []) := Q_pure fd64 rfl args H
theorem fd65 : T.fn 65 = some d65 := by kernel_rfl
@[simp] theorem ip65 : isPure T 65 = true := isPure_of fd65 rfl
theorem q65 (args : List AV) (H : Heap) : C T 65 args H = snpK (mapS (snap 64) H args) fun args' H' => purK H' (B T d65.body d65.res args' []) := Q_pure fd65 rfl args H
theorem fd66 : T.fn 66 = some d66 := by kernel_rfl
@[simp] theorem ip66 : isPure T 66 = true := isPure_of fd66 rfl
theorem q66 (args : List AV) (H : Heap) : C T 66 args H = snpK (mapS (snap 64) H args) fun args' H' => purK H' (B T d66.body d66.res args' []) := Q_pure fd66 rfl args H
theorem fd67 : T.fn 67 = some d67 := by kernel_rfl
@[simp] theorem ip67 : isPure T 67 = true := isPure_of fd67 rfl
theorem q67 (args : List AV) (H : Heap) : C T 67 args H = snpK (mapS (snap 64) H args) fun args' H' => purK H' (B T d67.body d67.res args' []) := Q_pure fd67 rfl args H
theorem fd68 : T.fn 68 = some d68 := by kernel_rfl
theorem q68 (args : List AV) (H : Heap) : C T 68 args H = B T d68.body d68.res args H := Q_code fd68 args H
theorem fd69 : T.fn 69 = some d69 := by kernel_rfl
theorem q69 (args : List AV) (H : Heap) : C T 69 args H = B T d69.body d69.res args H := Q_code fd69 args H
theorem fd70 : T.fn 70 = some d70 := by kernel_rfl
theorem q70 (args : List AV) (H : Heap) : C T 70 args H = B T d70.body d70.res args H := Q_code fd70 args H
theorem fd71 : T.fn 71 = some d71 := by kernel_rfl
@[simp] theorem ip71 : isPure T 71 = true := isPure_of fd71 rfl
theorem q71 (args : List AV) (H : Heap) : C T 71 args H = snpK (mapS (snap 64) H args) fun args' H' => purK H' (B T d71.body d71.res args' []) := Q_pure fd71 rfl args H
theorem fd72 : T.fn 72 = some d72 := by kernel_rfl
@[simp] theorem ip72 : isPure T 72 = true := isPure_of fd72 rfl
theorem q72 (args : List AV) (H : Heap) : C T 72 args H = snpK (mapS (snap 64) H args) fun args' H' => purK H' (B T d72.body d72.res args' []) := Q_pure fd72 rfl args H
theorem fd73 : T.fn 73 = some d73 := by kernel_rfl
@[simp] theorem ip73 : isPure T 73 = true := isPure_of fd73 rfl
theorem q73 (args : List AV) (H : Heap) : C T 73 args H = snpK (mapS (snap 64) H args) fun args' H' => purK H' (B T d73.body d73.res args' []) := Q_pure fd73 rfl args H
theorem fd74 : T.fn 74 = some d74 := by kernel_rfl
@[simp] theorem ip74 : isPure T 74 = true := isPure_of fd74 rfl
theorem q74 (args : List AV) (H : Heap) : C T 74 args H = snpK (mapS (snap 64) H args) fun args' H' => purK H' (B T d74.body d74.res args' []) := Q_pure fd74 rfl args H
theorem fd75 : T.fn 75 = some d75 := by kernel_rfl
@[simp] theorem ip75 : isPure T 75 = true := isPure_of fd75 rfl
theorem q75 (args : List AV) (H : Heap) : C T 75 args H = snpK (mapS (snap 64) H args) fun args' H' => purK H' (B T d75.body d75.res args' []) := Q_pure fd75 rfl args H
theorem fd76 : T.fn 76 = some d76 := by kernel_rfl
@[simp] theorem ip76 : isPure T 76 = true := isPure_of fd76 rfl
theorem q76 (args : List AV) (H : Heap) : C T 76 args H = snpK (mapS (snap 64) H args) fun args' H' => purK H' (B T d76.body d76.res args' []) := Q_pure fd76 rfl args H
theorem fd77 : T.fn 77 = some d77 := by kernel_rfl
@[simp] theorem ip77 : isPure T 77 = true := isPure_of fd77 rfl
theorem q77 (args : List AV) (H : Heap) : C T 77 args H = snpK (mapS (snap 64) H args) fun args' H' => purK H' (B T d77.body d77.res args' []) := Q_pure fd77 rfl args H
theorem fd78 : T.fn 78 = some d78 := by kernel_rfl
@[simp] theorem ip78 : isPure T 78 = true := isPure_of fd78 rfl
theorem q78 (args : List AV) (H : Heap) : C T 78 args H = snpK (mapS (snap 64) H args) fun args' H' => purK H' (B T d78.body d78.res args' []) := Q_pure fd78 rfl args H
theorem fd79 : T.fn 79 = some d79 := by kernel_rfl
theorem q79 (args : List AV) (H : Heap) : C T 79 args H = B T d79.body d79.res args H := Q_code fd79 args H
theorem fd80 : T.fn 80 = some d80 := by kernel_rfl
theorem q80 (args : List AV) (H : Heap) : C T 80 args H = B T d80.body d80.res args H := Q_code fd80 args H
theorem fd81 : T.fn 81 = some d81 := by kernel_rfl
@[simp] theorem ip81 : isPure T 81 = true := isPure_of fd81 rfl
theorem q81 (args : List AV) (H : Heap) : C T 81 args H = snpK (mapS (snap 64) H args) fun args' H' => purK H' (B T d81.body d81.res args' []) := Q_pure fd81 rfl args H
theorem fd82 : T.fn 82 = some d82 := by kernel_rfl
@[simp] theorem ip82 : isPure T 82 = true := isPure_of fd82 rfl
theorem q82 (args : List AV) (H : Heap) : C T 82 args H = snpK (mapS (snap 64) H args) fun args' H' => purK H' (B T d82.body d82.res args' []) := Q_pure fd82 rfl args H
theorem fd83 : T.fn 83 = some d83 := by kernel_rfl
@[simp] theorem ip83 : isPure T 83 = true := isPure_of fd83 rfl
theorem q83 (args : List AV) (H : Heap) : C T 83 args H = snpK (mapS (snap 64) H args) fun args' H' => purK H' (B T d83.body d83.res args' []) := Q_pure fd83 rfl args H
theorem fd84 : T.fn 84 = some d84 := by kernel_rfl
@[simp] theorem ip84 : isPure T 84 = true := isPure_of fd84 rfl
theorem q84 (args : List AV) (H : Heap) : C T 84 args H = snpK (mapS (snap 64) H args) fun args' H' => purK H' (B T d84.body d84.res args' []) := Q_pure fd84 rfl args H
theorem fd85 : T.fn 85 = some d85 := by kernel_rfl
theorem q85 (args : List AV) (H : Heap) : C T 85 args H = B T d85.body d85.res args H := Q_code fd85 args H
theorem fd86 : T.fn 86 = some d86 := by kernel_rfl
@[simp] theorem ip86 : isPure T 86 = true := isPure_of fd86 rfl
theorem q86 (args : List AV) (H : Heap) : C T 86 args H = snpK (mapS (snap 64) H args) fun args' H' => purK H' (B T d86.body d86.res args' []) := Q_pure fd86 rfl args H
theorem fd87 : T.fn 87 = some d87 := by kernel_rfl
@[simp] theorem ip87 : isPure T 87 = true := isPure_of fd87 rfl
theorem q87 (args : List AV) (H : Heap) : C T 87 args H = snpK (mapS (snap 64) H args) fun args' H' => purK H' (B T d87.body d87.res args' []) := Q_pure fd87 rfl args H
theorem fd88 : T.fn 88 = some d88 := by kernel_rfl
@[simp] theorem ip88 : isPure T 88 = true := isPure_of fd88 rfl
theorem q88 (args : List AV) (H : Heap) : C T 88 args H = snpK (mapS (snap 64) H args) fun args' H' => purK H' (B T d88.body d88.res args' []) := Q_pure fd88 rfl args H
theorem fd89 : T.fn 89 = some d89 := by kernel_rfl
@[simp] theorem ip89 : isPure T 89 = true := isPure_of fd89 rfl
theorem q89 (args : List AV) (H : Heap) : C T 89 args H = snpK (mapS (snap 64) H args) fun args' H' => purK H' (B T d89.body d89.res args' []) := Q_pure fd89 rfl args H
theorem fd91 : T.fn 91 = some d91 := by kernel_rfl
@[simp] theorem ip91 : isPure T 91 = true := isPure_of fd91 rfl
theorem q91 (args : List AV) (H : Heap) : C T 91 args H = snpK (mapS (snap 64) H args) fun args' H' => purK H' (B T d91.body d91.res args' []) := Q_pure fd91 rfl args H
theorem fd92 : T.fn 92 = some d92 := by kernel_rfl
@[simp] theorem ip92 : isPure T 92 = true := isPure_of fd92 rfl
theorem q92 (args : List AV) (H : Heap) : C T 92 args H = snpK (mapS (snap 64) H args) fun args' H' => purK H' (B T d92.body d92.res args' []) := Q_pure fd92 rfl args H
theorem fd93 : T.fn 93 = some d93 := by kernel_rfl
@[simp] theorem ip93 : isPure T 93 = true := isPure_of fd93 rfl
theorem q93 (args : List AV) (H : Heap) : C T 93 args H = snpK (mapS (snap 64) H args) fun args' H' => purK H' (B T d93.body d93.res args' []) := Q_pure fd93 rfl args H
theorem fd95 : T.fn 95 = some d95 := by kernel_rfl
@[simp] theorem ip95 : isPure T 95 = true := isPure_of fd95 rfl
theorem q95 (args : List AV) (H : Heap) : C T 95 args H = snpK (mapS (snap 64) H args) fun args' H' => purK H' (B T d95.body d95.res args' []) := Q_pure fd95 rfl args H
theorem fd96 : T.fn 96 = some d96 := by kernel_rfl
@[simp] theorem ip96 : isPure T 96 = true := isPure_of fd96 rfl
theorem q96 (args : List AV) (H : Heap) : C T 96 args H = snpK (mapS (snap 64) H args) fun args' H' => purK H' (B T d96.body d96.res args' []) := Q_pure fd96 rfl args H
theorem fd97 : T.fn 97 = some d97 := by kernel_rfl
@[simp] theorem ip97 : isPure T 97 = true := isPure_of fd97 rfl
theorem q97 (args : List AV) (H : Heap) : C T 97 args H = snpK (mapS (snap 64) H args) fun args' H' => purK H' (B T d97.body d97.res args' []) := Q_pure fd97 rfl args H
theorem fd98 : T.fn 98 = some d98 := by kernel_rfl
theorem q98 (args : List AV) (H : Heap) : C T 98 args H = B T d98.body d98.res args H := Q_code fd98 args H
theorem fd99 : T.fn 99 = some d99 := by kernel_rfl
@[simp] theorem ip99 : isPure T 99 = true := isPure_of fd99 rfl
theorem q99 (args : List AV) (H : Heap) : C T 99 args H = snpK (mapS (snap 64) H args) fun args' H' => purK H' (B T d99.body d99.res args' []) := Q_pure fd99 rfl args H
theorem fd100 : T.fn 100 = some d100 := by kernel_rfl
@[simp] theorem ip100 : isPure T 100 = true := isPure_of fd100 rfl
theorem q100 (args : List AV) (H : Heap) : C T 100 args H = snpK (mapS (snap 64) H args) fun args' H' => purK H' (B T d100.body d100.res args' []) := Q_pure fd100 rfl args H
theorem fd101 : T.fn 101 = some d101 := by kernel_rfl
@[simp] theorem ip101 : isPure T 101 = true := isPure_of fd101 rfl
theorem q101 (args : List AV) (H : Heap) : C T 101 args H = snpK (mapS (snap 64) H args) fun args' H' => purK H' (B T d101.body d101.res args' []) := Q_pure fd101 rfl args H
theorem fd102 : T.fn 102 = some d102 := by kernel_rfl
@[simp] theorem ip102 : isPure T 102 = true := isPure_of fd102 rfl
theorem q102 (args : List AV) (H : Heap) : C T 102 args H = snpK (mapS (snap 64) H args) fun args' H' => purK H' (B T d102.body d102.res args' []) := Q_pure fd102 rfl args H
theorem fd103 : T.fn 103 = some d103 := by kernel_rfl
@[simp] theorem ip103 : isPure T 103 = true := isPure_of fd103 rfl
theorem q103 (args : List AV) (H : Heap) : C T 103 args H = snpK (mapS (snap 64) H args) fun args' H' => purK H' (B T d103.body d103.res args' []) := Q_pure fd103 rfl args H
theorem fd104 : T.fn 104 = some d104 := by kernel_rfl
@[simp] theorem ip104 : isPure T 104 = true := isPure_of fd104 rfl
theorem q104 (args : List AV) (H : Heap) : C T 104 args H = snpK (mapS (snap 64) H args) fun args' H' => purK H' (B T d104.body d104.res args' []) := Q_pure fd104 rfl args H
theorem fd105 : T.fn 105 = some d105 := by kernel_rfl
@[simp] theorem ip105 : isPure T 105 = true := isPure_of fd105 rfl
theorem q105 (args : List AV) (H : Heap) : C T 105 args H = snpK (mapS (snap 64) H args) fun args' H' => purK H' (B T d105.body d105.res args' []) := Q_pure fd105 rfl args H
theorem fd106 : T.fn 106 = some d106 := by kernel_rfl
@[simp] theorem ip106 : isPure T 106 = true := isPure_of fd106 rfl
theorem q106 (args : List AV) (H : Heap) : C T 106 args H = snpK (mapS (snap 64) H args) fun args' H' => purK H' (B T d106.body d106.res args' []) := Q_pure fd106 rfl args H
theorem fd123 : T.fn 123 = some d123 := by kernel_rfl
@[simp] theorem ip123 : isPure T 123 = true := isPure_of fd123 rfl
theorem q123 (args : List AV) (H : Heap) : C T 123 args H = snpK (mapS (snap 64) H args) fun args' H' => purK H' (B T d123.body d123.res args' []) := Q_pure fd123 rfl args H
theorem fd137 : T.fn 137 = some d137 := by kernel_rfl
@[simp] theorem ip137 : isPure T 137 = true := isPure_of fd137 rfl
theorem q137 (args : List AV) (H : Heap) : C T 137 args H = snpK (mapS (snap 64) H args) fun args' H' => purK H' (B T d137.body d137.res args' []) := Q_pure fd137 rfl args H
end Go.Eng.S
