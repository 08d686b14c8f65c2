/- Look-ups of the table, by a program (tp.py). No condition. -/
import Derived.Test.YtaocejbbmdeinaaDoorTa
import Derived.Test.YtaocejbbmdeinaaDoorEg
namespace Go.Eng.S
open Go Go.Eng

theorem fd4 : T.fn 4 = some d4 := by kernel_rfl
@[simp] theorem ip4 : isPure T 4 = true := isPure_of fd4 rfl
theorem q4 (args : List AV) (H : Heap) : C T 4 args H = snpK (mapS (snap 64) H args) fun args' H' => purK H' (B T d4.body d4.res args' []) := Q_pure fd4 rfl args H
theorem fd8 : T.fn 8 = some d8 := by kernel_rfl
@[simp] theorem ip8 : isPure T 8 = true := isPure_of fd8 rfl
theorem q8 (args : List AV) (H : Heap) : C T 8 args H = snpK (mapS (snap 64) H args) fun args' H' => purK H' (B T d8.body d8.res args' []) := Q_pure fd8 rfl args H
theorem fd9 : T.fn 9 = some d9 := by kernel_rfl
@[simp] theorem ip9 : isPure T 9 = true := isPure_of fd9 rfl
theorem q9 (args : List AV) (H : Heap) : C T 9 args H = snpK (mapS (snap 64) H args) fun args' H' => purK H' (B T d9.body d9.res args' []) := Q_pure fd9 rfl args H
theorem fd10 : T.fn 10 = some d10 := by kernel_rfl
@[simp] theorem ip10 : isPure T 10 = true := isPure_of fd10 rfl
theorem q10 (args : List AV) (H : Heap) : C T 10 args H = snpK (mapS (snap 64) H args) fun args' H' => purK H' (B T d10.body d10.res args' []) := Q_pure fd10 rfl args H
theorem fd11 : T.fn 11 = some d11 := by kernel_rfl
@[simp] theorem ip11 : isPure T 11 = true := isPure_of fd11 rfl
theorem q11 (args : List AV) (H : Heap) : C T 11 args H = snpK (mapS (snap 64) H args) fun args' H' => purK H' (B T d11.body d11.res args' []) := Q_pure fd11 rfl args H
theorem fd12 : T.fn 12 = some d12 := by kernel_rfl
@[simp] theorem ip12 : isPure T 12 = true := isPure_of fd12 rfl
theorem q12 (args : List AV) (H : Heap) : C T 12 args H = snpK (mapS (snap 64) H args) fun args' H' => purK H' (B T d12.body d12.res args' []) := Q_pure fd12 rfl args H
theorem fd13 : T.fn 13 = some d13 := by kernel_rfl
@[simp] theorem ip13 : isPure T 13 = true := isPure_of fd13 rfl
theorem q13 (args : List AV) (H : Heap) : C T 13 args H = snpK (mapS (snap 64) H args) fun args' H' => purK H' (B T d13.body d13.res args' []) := Q_pure fd13 rfl args H
theorem fd14 : T.fn 14 = some d14 := by kernel_rfl
@[simp] theorem ip14 : isPure T 14 = true := isPure_of fd14 rfl
theorem q14 (args : List AV) (H : Heap) : C T 14 args H = snpK (mapS (snap 64) H args) fun args' H' => purK H' (B T d14.body d14.res args' []) := Q_pure fd14 rfl args H
theorem fd15 : T.fn 15 = some d15 := by kernel_rfl
@[simp] theorem ip15 : isPure T 15 = true := isPure_of fd15 rfl
theorem q15 (args : List AV) (H : Heap) : C T 15 args H = snpK (mapS (snap 64) H args) fun args' H' => purK H' (B T d15.body d15.res args' []) := Q_pure fd15 rfl args H
theorem fd16 : T.fn 16 = some d16 := by kernel_rfl
@[simp] theorem ip16 : isPure T 16 = true := isPure_of fd16 rfl
theorem q16 (args : List AV) (H : Heap) : C T 16 args H = snpK (mapS (snap 64) H args) fun args' H' => purK H' (B T d16.body d16.res args' []) := Q_pure fd16 rfl args H
theorem fd17 : T.fn 17 = some d17 := by kernel_rfl
@[simp] theorem ip17 : isPure T 17 = true := isPure_of fd17 rfl
theorem q17 (args : List AV) (H : Heap) : C T 17 args H = snpK (mapS (snap 64) H args) fun args' H' => purK H' (B T d17.body d17.res args' []) := Q_pure fd17 rfl args H
theorem fd18 : T.fn 18 = some d18 := by kernel_rfl
@[simp] theorem ip18 : isPure T 18 = true := isPure_of fd18 rfl
theorem q18 (args : List AV) (H : Heap) : C T 18 args H = snpK (mapS (snap 64) H args) fun args' H' => purK H' (B T d18.body d18.res args' []) := Q_pure fd18 rfl args H
theorem fd20 : T.fn 20 = some d20 := by kernel_rfl
@[simp] theorem ip20 : isPure T 20 = true := isPure_of fd20 rfl
theorem q20 (args : List AV) (H : Heap) : C T 20 args H = snpK (mapS (snap 64) H args) fun args' H' => purK H' (B T d20.body d20.res args' []) := Q_pure fd20 rfl args H
theorem fd23 : T.fn 23 = some d23 := by kernel_rfl
@[simp] theorem ip23 : isPure T 23 = true := isPure_of fd23 rfl
theorem q23 (args : List AV) (H : Heap) : C T 23 args H = snpK (mapS (snap 64) H args) fun args' H' => purK H' (B T d23.body d23.res args' []) := Q_pure fd23 rfl args H
theorem fd24 : T.fn 24 = some d24 := by kernel_rfl
theorem q24 (args : List AV) (H : Heap) : C T 24 args H = B T d24.body d24.res args H := Q_code fd24 args H
theorem fd26 : T.fn 26 = some d26 := by kernel_rfl
@[simp] theorem ip26 : isPure T 26 = true := isPure_of fd26 rfl
theorem q26 (args : List AV) (H : Heap) : C T 26 args H = snpK (mapS (snap 64) H args) fun args' H' => purK H' (B T d26.body d26.res args' []) := Q_pure fd26 rfl args H
theorem fd28 : T.fn 28 = some d28 := by kernel_rfl
@[simp] theorem ip28 : isPure T 28 = true := isPure_of fd28 rfl
theorem q28 (args : List AV) (H : Heap) : C T 28 args H = snpK (mapS (snap 64) H args) fun args' H' => purK H' (B T d28.body d28.res args' []) := Q_pure fd28 rfl args H
theorem fd29 : T.fn 29 = some d29 := by kernel_rfl
@[simp] theorem ip29 : isPure T 29 = true := isPure_of fd29 rfl
theorem q29 (args : List AV) (H : Heap) : C T 29 args H = snpK (mapS (snap 64) H args) fun args' H' => purK H' (B T d29.body d29.res args' []) := Q_pure fd29 rfl args H
theorem fd30 : T.fn 30 = some d30 := by kernel_rfl
@[simp] theorem ip30 : isPure T 30 = true := isPure_of fd30 rfl
theorem q30 (args : List AV) (H : Heap) : C T 30 args H = snpK (mapS (snap 64) H args) fun args' H' => purK H' (B T d30.body d30.res args' []) := Q_pure fd30 rfl args H
theorem fd31 : T.fn 31 = some d31 := by kernel_rfl
@[simp] theorem ip31 : isPure T 31 = true := isPure_of fd31 rfl
theorem q31 (args : List AV) (H : Heap) : C T 31 args H = snpK (mapS (snap 64) H args) fun args' H' => purK H' (B T d31.body d31.res args' []) := Q_pure fd31 rfl args H
theorem fd35 : T.fn 35 = some d35 := by kernel_rfl
theorem q35 (args : List AV) (H : Heap) : C T 35 args H = B T d35.body d35.res args H := Q_code fd35 args H
theorem fd36 : T.fn 36 = some d36 := by kernel_rfl
@[simp] theorem ip36 : isPure T 36 = true := isPure_of fd36 rfl
theorem q36 (args : List AV) (H : Heap) : C T 36 args H = snpK (mapS (snap 64) H args) fun args' H' => purK H' (B T d36.body d36.res args' []) := Q_pure fd36 rfl args H
theorem fd39 : T.fn 39 = some d39 := by kernel_rfl
@[simp] theorem ip39 : isPure T 39 = true := isPure_of fd39 rfl
theorem q39 (args : List AV) (H : Heap) : C T 39 args H = snpK (mapS (snap 64) H args) fun args' H' => purK H' (B T d39.body d39.res args' []) := Q_pure fd39 rfl args H
theorem fd40 : T.fn 40 = some d40 := by kernel_rfl
@[simp] theorem ip40 : isPure T 40 = true := isPure_of fd40 rfl
theorem q40 (args : List AV) (H : Heap) : C T 40 args H = snpK (mapS (snap 64) H args) fun args' H' => purK H' (B T d40.body d40.res args' []) := Q_pure fd40 rfl args H
theorem fd41 : T.fn 41 = some d41 := by kernel_rfl
@[simp] theorem ip41 : isPure T 41 = true := isPure_of fd41 rfl
theorem q41 (args : List AV) (H : Heap) : C T 41 args H = snpK (mapS (snap 64) H args) fun args' H' => purK H' (B T d41.body d41.res args' []) := Q_pure fd41 rfl args H
theorem fd42 : T.fn 42 = some d42 := by kernel_rfl
theorem q42 (args : List AV) (H : Heap) : C T 42 args H = B T d42.body d42.res args H := Q_code fd42 args H
theorem fd43 : T.fn 43 = some d43 := by kernel_rfl
@[simp] theorem ip43 : isPure T 43 = true := isPure_of fd43 rfl
theorem q43 (args : List AV) (H : Heap) : C T 43 args H = snpK (mapS (snap 64) H args) fun args' H' => purK H' (B T d43.body d43.res args' []) := Q_pure fd43 rfl args H
theorem fd44 : T.fn 44 = some d44 := by kernel_rfl
@[simp] theorem ip44 : isPure T 44 = true := isPure_of fd44 rfl
theorem q44 (args : List AV) (H : Heap) : C T 44 args H = snpK (mapS (snap 64) H args) fun args' H' => purK H' (B T d44.body d44.res args' []) := Q_pure fd44 rfl args H
theorem fd45 : T.fn 45 = some d45 := by kernel_rfl
@[simp] theorem ip45 : isPure T 45 = true := isPure_of fd45 rfl
theorem q45 (args : List AV) (H : Heap) : C T 45 args H = snpK (mapS (snap 64) H args) fun args' H' => purK H' (B T d45.body d45.res args' []) := Q_pure fd45 rfl args H
theorem fd46 : T.fn 46 = some d46 := by kernel_rfl
@[simp] theorem ip46 : isPure T 46 = true := isPure_of fd46 rfl
theorem q46 (args : List AV) (H : Heap) : C T 46 args H = snpK (mapS (snap 64) H args) fun args' H' => purK H' (B T d46.body d46.res args' []) := Q_pure fd46 rfl args H
theorem fd47 : T.fn 47 = some d47 := by kernel_rfl
@[simp] theorem ip47 : isPure T 47 = true := isPure_of fd47 rfl
theorem q47 (args : List AV) (H : Heap) : C T 47 args H = snpK (mapS (snap 64) H args) fun args' H' => purK H' (B T d47.body d47.res args' []) := Q_pure fd47 rfl args H
theorem fd48 : T.fn 48 = some d48 := by kernel_rfl
@[simp] theorem ip48 : isPure T 48 = true := isPure_of fd48 rfl
theorem q48 (args : List AV) (H : Heap) : C T 48 args H = snpK (mapS (snap 64) H args) fun args' H' => purK H' (B T d48.body d48.res args' []) := Q_pure fd48 rfl args H
theorem fd49 : T.fn 49 = some d49 := by kernel_rfl
@[simp] theorem ip49 : isPure T 49 = true := isPure_of fd49 rfl
theorem q49 (args : List AV) (H : Heap) : C T 49 args H = snpK (mapS (snap 64) H args) fun args' H' => purK H' (B T d49.body d49.res args' []) := Q_pure fd49 rfl args H
theorem fd50 : T.fn 50 = some d50 := by kernel_rfl
@[simp] theorem ip50 : isPure T 50 = true := isPure_of fd50 rfl
theorem q50 (args : List AV) (H : Heap) : C T 50 args H = snpK (mapS (snap 64) H args) fun args' H' => purK H' (B T d50.body d50.res args' []) := Q_pure fd50 rfl args H
theorem fd68 : T.fn 68 = some d68 := by kernel_rfl
@[simp] theorem ip68 : isPure T 68 = true := isPure_of fd68 rfl
theorem q68 (args : List AV) (H : Heap) : C T 68 args H = snpK (mapS (snap 64) H args) fun args' H' => purK H' (B T d68.body d68.res args' []) := Q_pure fd68 rfl args H
theorem fd69 : T.fn 69 = some d69 := by kernel_rfl
@[simp] theorem ip69 : isPure T 69 = true := isPure_of fd69 rfl
theorem q69 (args : List AV) (H : Heap) : C T 69 args H = snpK (mapS (snap 64) H args) fun args' H' => purK H' (B T d69.body d69.res args' []) := Q_pure fd69 rfl args H
theorem fd71 : T.fn 71 = some d71 := by kernel_rfl
@[simp] theorem ip71 : isPure T 71 = true := isPure_of fd71 rfl
theorem q71 (args : List AV) (H : Heap) : C T 71 args H = snpK (mapS (snap 64) H args) fun args' H' => purK H' (B T d71.body d71.res args' []) := Q_pure fd71 rfl args H
theorem fd72 : T.fn 72 = some d72 := by kernel_rfl
@[simp] theorem ip72 : isPure T 72 = true := isPure_of fd72 rfl
theorem q72 (args : List AV) (H : Heap) : C T 72 args H = snpK (mapS (snap 64) H args) fun args' H' => purK H' (B T d72.body d72.res args' []) := Q_pure fd72 rfl args H
end Go.Eng.S
