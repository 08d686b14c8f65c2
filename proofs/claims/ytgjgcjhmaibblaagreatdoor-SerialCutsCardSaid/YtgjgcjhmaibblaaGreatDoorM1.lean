/- Decimal texts by their digits; how many they are. How many decimal digits a number has. No condition. -/
import Derived.Test.YtgjgcjhmaibblaaGreatDoorTp
import Derived.Test.YtgjgcjhmaibblaaGreatDoorEg
namespace Go.Eng.S
open Go Go.Eng
set_option linter.unusedSectionVars false
variable [Sit]
set_option maxRecDepth 20000
def tab8 : List UInt8 := [0, 1, 2, 2, 3, 3, 3, 3, 4, 4, 4, 4, 4, 4, 4, 4, 5, 5, 5, 5, 5, 5, 5, 5, 5, 5, 5, 5, 5, 5, 5, 5, 6, 6, 6, 6, 6, 6, 6, 6, 6, 6, 6, 6, 6, 6, 6, 6, 6, 6, 6, 6, 6, 6, 6, 6, 6, 6, 6, 6, 6, 6, 6, 6, 7, 7, 7, 7, 7, 7, 7, 7, 7, 7, 7, 7, 7, 7, 7, 7, 7, 7, 7, 7, 7, 7, 7, 7, 7, 7, 7, 7, 7, 7, 7, 7, 7, 7, 7, 7, 7, 7, 7, 7, 7, 7, 7, 7, 7, 7, 7, 7, 7, 7, 7, 7, 7, 7, 7, 7, 7, 7, 7, 7, 7, 7, 7, 7, 8, 8, 8, 8, 8, 8, 8, 8, 8, 8, 8, 8, 8, 8, 8, 8, 8, 8, 8, 8, 8, 8, 8, 8, 8, 8, 8, 8, 8, 8, 8, 8, 8, 8, 8, 8, 8, 8, 8, 8, 8, 8, 8, 8, 8, 8, 8, 8, 8, 8, 8, 8, 8, 8, 8, 8, 8, 8, 8, 8, 8, 8, 8, 8, 8, 8, 8, 8, 8, 8, 8, 8, 8, 8, 8, 8, 8, 8, 8, 8, 8, 8, 8, 8, 8, 8, 8, 8, 8, 8, 8, 8, 8, 8, 8, 8, 8, 8, 8, 8, 8, 8, 8, 8, 8, 8, 8, 8, 8, 8, 8, 8, 8, 8, 8, 8, 8, 8, 8, 8, 8, 8, 8, 8, 8, 8, 8, 8]
def smT : List UInt8 := [48, 48, 48, 49, 48, 50, 48, 51, 48, 52, 48, 53, 48, 54, 48, 55, 48, 56, 48, 57, 49, 48, 49, 49, 49, 50, 49, 51, 49, 52, 49, 53, 49, 54, 49, 55, 49, 56, 49, 57, 50, 48, 50, 49, 50, 50, 50, 51, 50, 52, 50, 53, 50, 54, 50, 55, 50, 56, 50, 57, 51, 48, 51, 49, 51, 50, 51, 51, 51, 52, 51, 53, 51, 54, 51, 55, 51, 56, 51, 57, 52, 48, 52, 49, 52, 50, 52, 51, 52, 52, 52, 53, 52, 54, 52, 55, 52, 56, 52, 57, 53, 48, 53, 49, 53, 50, 53, 51, 53, 52, 53, 53, 53, 54, 53, 55, 53, 56, 53, 57, 54, 48, 54, 49, 54, 50, 54, 51, 54, 52, 54, 53, 54, 54, 54, 55, 54, 56, 54, 57, 55, 48, 55, 49, 55, 50, 55, 51, 55, 52, 55, 53, 55, 54, 55, 55, 55, 56, 55, 57, 56, 48, 56, 49, 56, 50, 56, 51, 56, 52, 56, 53, 56, 54, 56, 55, 56, 56, 56, 57, 57, 48, 57, 49, 57, 50, 57, 51, 57, 52, 57, 53, 57, 54, 57, 55, 57, 56, 57, 57]
def d101x : FDef := .code true (.seq (.region [⟨(some 2), (.mv (.k (.int .i64 0))), none⟩]) (.seq (.seq (.region [⟨(some 3), (.mv (.t 0)), none⟩, ⟨(some 4), (.bin .geq .bool false (.t 3) (.k (.int .u64 4294967296))), none⟩]) (.cond (.t 4) (.seq (.region [⟨(some 5), (.mv (.t 0)), none⟩, ⟨(some 6), (.bin .shr .bool false (.t 5) (.k (.int .u64 32))), none⟩, ⟨(some 0), (.mv (.t 6)), none⟩]) (.region [⟨(some 2), (.mv (.k (.int .i64 32))), none⟩])) .skip)) (.seq (.seq (.region [⟨(some 7), (.mv (.t 0)), none⟩, ⟨(some 8), (.bin .geq .bool false (.t 7) (.k (.int .u64 65536))), none⟩]) (.cond (.t 8) (.seq (.region [⟨(some 9), (.mv (.t 0)), none⟩, ⟨(some 10), (.bin .shr .bool false (.t 9) (.k (.int .u64 16))), none⟩, ⟨(some 0), (.mv (.t 10)), none⟩]) (.region [⟨(some 11), (.mv (.t 2)), none⟩, ⟨(some 12), (.bin .add .bool false (.t 11) (.k (.int .i64 16))), none⟩, ⟨(some 2), (.mv (.t 12)), none⟩])) .skip)) (.seq (.seq (.region [⟨(some 13), (.mv (.t 0)), none⟩, ⟨(some 14), (.bin .geq .bool false (.t 13) (.k (.int .u64 256))), none⟩]) (.cond (.t 14) (.seq (.region [⟨(some 15), (.mv (.t 0)), none⟩, ⟨(some 16), (.bin .shr .bool false (.t 15) (.k (.int .u64 8))), none⟩, ⟨(some 0), (.mv (.t 16)), none⟩]) (.region [⟨(some 17), (.mv (.t 2)), none⟩, ⟨(some 18), (.bin .add .bool false (.t 17) (.k (.int .i64 8))), none⟩, ⟨(some 2), (.mv (.t 18)), none⟩])) .skip)) (.seq (.region [⟨(some 19), (.mv (.t 2)), none⟩, ⟨(some 20), (.mv (.t 0)), none⟩, ⟨(some 21), (.conv (.int .u8) (.t 20)), none⟩, ⟨(some 22), (.idxS (.k (.str tab8)) (.t 21)), none⟩, ⟨(some 23), (.conv (.int .i64) (.t 22)), none⟩, ⟨(some 24), (.bin .add .bool false (.t 19) (.t 23)), none⟩, ⟨(some 2), (.mv (.t 24)), none⟩]) .ret))))) [(.tmp 2)]
theorem ed101 : d101 = d101x := by kernel_rfl
def L98_0x : ACode := (.seq (.seq (.region [⟨(some 19), (.mv (.t 4)), none⟩, ⟨(some 20), (.bin .geq .bool false (.t 19) (.k (.int .i64 8))), none⟩]) (.cond (.t 20) .skip (.exit 0))) (.block 1 [0, 1, 4] (.seq (.region [⟨(some 21), (.mv (.t 1)), none⟩, ⟨(some 22), (.bin .rem .bool false (.t 21) (.k (.int .u64 100000000))), none⟩, ⟨(some 23), (.conv (.int .u32) (.t 22)), none⟩, ⟨(some 5), (.mv (.t 23)), none⟩]) (.seq (.region [⟨(some 24), (.mv (.t 1)), none⟩, ⟨(some 25), (.bin .quo .bool false (.t 24) (.k (.int .u64 100000000))), none⟩, ⟨(some 1), (.mv (.t 25)), none⟩]) (.seq (.region [⟨(some 26), (.mv (.t 5)), none⟩, ⟨(some 27), (.bin .quo .bool false (.t 26) (.k (.int .u32 10000))), none⟩, ⟨(some 28), (.mv (.t 5)), none⟩, ⟨(some 29), (.bin .rem .bool false (.t 28) (.k (.int .u32 10000))), none⟩, ⟨(some 6), (.mv (.t 27)), none⟩, ⟨(some 7), (.mv (.t 29)), none⟩]) (.seq (.region [⟨(some 30), (.mv (.t 7)), none⟩, ⟨(some 31), (.bin .quo .bool false (.t 30) (.k (.int .u32 100))), none⟩, ⟨(some 32), (.bin .mul .bool false (.t 31) (.k (.int .u32 2))), none⟩, ⟨(some 33), (.mv (.t 7)), none⟩, ⟨(some 34), (.bin .rem .bool false (.t 33) (.k (.int .u32 100))), none⟩, ⟨(some 35), (.bin .mul .bool false (.t 34) (.k (.int .u32 2))), none⟩, ⟨(some 8), (.mv (.t 32)), none⟩, ⟨(some 9), (.mv (.t 35)), none⟩]) (.seq (.region [⟨(some 36), (.mv (.t 6)), none⟩, ⟨(some 37), (.bin .quo .bool false (.t 36) (.k (.int .u32 100))), none⟩, ⟨(some 38), (.bin .mul .bool false (.t 37) (.k (.int .u32 2))), none⟩, ⟨(some 39), (.mv (.t 6)), none⟩, ⟨(some 40), (.bin .rem .bool false (.t 39) (.k (.int .u32 100))), none⟩, ⟨(some 41), (.bin .mul .bool false (.t 40) (.k (.int .u32 2))), none⟩, ⟨(some 10), (.mv (.t 38)), none⟩, ⟨(some 11), (.mv (.t 41)), none⟩]) (.seq (.drawE [12, 14] [] [] [⟨(some 42), (.mv (.t 0)), none⟩, ⟨(some 43), (.mv (.t 4)), none⟩, ⟨(some 44), (.bin .sub .bool false (.t 43) (.k (.int .i64 1))), none⟩, ⟨(some 45), (.mv (.t 0)), none⟩, ⟨(some 46), (.mv (.t 4)), none⟩, ⟨(some 47), (.bin .sub .bool false (.t 46) (.k (.int .i64 2))), none⟩, ⟨(some 48), (.mv (.t 9)), none⟩, ⟨(some 49), (.bin .add .bool false (.t 48) (.k (.int .u32 1))), none⟩, ⟨(some 50), (.idxS (.k (.str smT)) (.t 49)), none⟩, ⟨(some 51), (.mv (.t 9)), none⟩, ⟨(some 52), (.idxS (.k (.str smT)) (.t 51)), none⟩, ⟨(some 53), (.iaddr none 1 (.t 42) (.t 44)), none⟩, ⟨none, (.store 1 (.t 53) (.t 50)), none⟩, ⟨(some 54), (.iaddr none 1 (.t 45) (.t 47)), none⟩, ⟨none, (.store 1 (.t 54) (.t 52)), none⟩]) (.seq (.drawE [12, 14] [] [] [⟨(some 55), (.mv (.t 0)), none⟩, ⟨(some 56), (.mv (.t 4)), none⟩, ⟨(some 57), (.bin .sub .bool false (.t 56) (.k (.int .i64 3))), none⟩, ⟨(some 58), (.mv (.t 0)), none⟩, ⟨(some 59), (.mv (.t 4)), none⟩, ⟨(some 60), (.bin .sub .bool false (.t 59) (.k (.int .i64 4))), none⟩, ⟨(some 61), (.mv (.t 8)), none⟩, ⟨(some 62), (.bin .add .bool false (.t 61) (.k (.int .u32 1))), none⟩, ⟨(some 63), (.idxS (.k (.str smT)) (.t 62)), none⟩, ⟨(some 64), (.mv (.t 8)), none⟩, ⟨(some 65), (.idxS (.k (.str smT)) (.t 64)), none⟩, ⟨(some 66), (.iaddr none 1 (.t 55) (.t 57)), none⟩, ⟨none, (.store 1 (.t 66) (.t 63)), none⟩, ⟨(some 67), (.iaddr none 1 (.t 58) (.t 60)), none⟩, ⟨none, (.store 1 (.t 67) (.t 65)), none⟩]) (.seq (.drawE [12, 14] [] [] [⟨(some 68), (.mv (.t 0)), none⟩, ⟨(some 69), (.mv (.t 4)), none⟩, ⟨(some 70), (.bin .sub .bool false (.t 69) (.k (.int .i64 5))), none⟩, ⟨(some 71), (.mv (.t 0)), none⟩, ⟨(some 72), (.mv (.t 4)), none⟩, ⟨(some 73), (.bin .sub .bool false (.t 72) (.k (.int .i64 6))), none⟩, ⟨(some 74), (.mv (.t 11)), none⟩, ⟨(some 75), (.bin .add .bool false (.t 74) (.k (.int .u32 1))), none⟩, ⟨(some 76), (.idxS (.k (.str smT)) (.t 75)), none⟩, ⟨(some 77), (.mv (.t 11)), none⟩, ⟨(some 78), (.idxS (.k (.str smT)) (.t 77)), none⟩, ⟨(some 79), (.iaddr none 1 (.t 68) (.t 70)), none⟩, ⟨none, (.store 1 (.t 79) (.t 76)), none⟩, ⟨(some 80), (.iaddr none 1 (.t 71) (.t 73)), none⟩, ⟨none, (.store 1 (.t 80) (.t 78)), none⟩]) (.seq (.drawE [12, 14] [] [] [⟨(some 81), (.mv (.t 0)), none⟩, ⟨(some 82), (.mv (.t 4)), none⟩, ⟨(some 83), (.bin .sub .bool false (.t 82) (.k (.int .i64 7))), none⟩, ⟨(some 84), (.mv (.t 0)), none⟩, ⟨(some 85), (.mv (.t 4)), none⟩, ⟨(some 86), (.bin .sub .bool false (.t 85) (.k (.int .i64 8))), none⟩, ⟨(some 87), (.mv (.t 10)), none⟩, ⟨(some 88), (.bin .add .bool false (.t 87) (.k (.int .u32 1))), none⟩, ⟨(some 89), (.idxS (.k (.str smT)) (.t 88)), none⟩, ⟨(some 90), (.mv (.t 10)), none⟩, ⟨(some 91), (.idxS (.k (.str smT)) (.t 90)), none⟩, ⟨(some 92), (.iaddr none 1 (.t 81) (.t 83)), none⟩, ⟨none, (.store 1 (.t 92) (.t 89)), none⟩, ⟨(some 93), (.iaddr none 1 (.t 84) (.t 86)), none⟩, ⟨none, (.store 1 (.t 93) (.t 91)), none⟩]) (.region [⟨(some 94), (.mv (.t 4)), none⟩, ⟨(some 95), (.bin .sub .bool false (.t 94) (.k (.int .i64 8))), none⟩, ⟨(some 4), (.mv (.t 95)), none⟩]))))))))))))
theorem eL98_0 : L98_0 = L98_0x := by kernel_rfl
def d98x : FDef := .code false (.seq (.region [⟨(some 17), (.mv (.t 0)), none⟩, ⟨(some 18), (.len (.t 17)), none⟩, ⟨(some 4), (.mv (.t 18)), none⟩]) (.seq (.block 0 [0, 1, 4] (.loop [0, 1, 4] L98_0x)) (.seq (.region [⟨(some 96), (.mv (.t 1)), none⟩, ⟨(some 97), (.conv (.int .u32) (.t 96)), none⟩, ⟨(some 12), (.mv (.t 97)), none⟩]) (.seq (.seq (.region [⟨(some 98), (.mv (.t 4)), none⟩, ⟨(some 99), (.bin .geq .bool false (.t 98) (.k (.int .i64 4))), none⟩]) (.cond (.t 99) (.seq (.region [⟨(some 100), (.mv (.t 12)), none⟩, ⟨(some 101), (.bin .rem .bool false (.t 100) (.k (.int .u32 10000))), none⟩, ⟨(some 13), (.mv (.t 101)), none⟩]) (.seq (.region [⟨(some 102), (.mv (.t 12)), none⟩, ⟨(some 103), (.bin .quo .bool false (.t 102) (.k (.int .u32 10000))), none⟩, ⟨(some 12), (.mv (.t 103)), none⟩]) (.seq (.region [⟨(some 104), (.mv (.t 13)), none⟩, ⟨(some 105), (.bin .quo .bool false (.t 104) (.k (.int .u32 100))), none⟩, ⟨(some 106), (.bin .mul .bool false (.t 105) (.k (.int .u32 2))), none⟩, ⟨(some 107), (.mv (.t 13)), none⟩, ⟨(some 108), (.bin .rem .bool false (.t 107) (.k (.int .u32 100))), none⟩, ⟨(some 109), (.bin .mul .bool false (.t 108) (.k (.int .u32 2))), none⟩, ⟨(some 14), (.mv (.t 106)), none⟩, ⟨(some 15), (.mv (.t 109)), none⟩]) (.seq (.drawE [12, 14] [] [] [⟨(some 110), (.mv (.t 0)), none⟩, ⟨(some 111), (.mv (.t 4)), none⟩, ⟨(some 112), (.bin .sub .bool false (.t 111) (.k (.int .i64 1))), none⟩, ⟨(some 113), (.mv (.t 0)), none⟩, ⟨(some 114), (.mv (.t 4)), none⟩, ⟨(some 115), (.bin .sub .bool false (.t 114) (.k (.int .i64 2))), none⟩, ⟨(some 116), (.mv (.t 15)), none⟩, ⟨(some 117), (.bin .add .bool false (.t 116) (.k (.int .u32 1))), none⟩, ⟨(some 118), (.idxS (.k (.str smT)) (.t 117)), none⟩, ⟨(some 119), (.mv (.t 15)), none⟩, ⟨(some 120), (.idxS (.k (.str smT)) (.t 119)), none⟩, ⟨(some 121), (.iaddr none 1 (.t 110) (.t 112)), none⟩, ⟨none, (.store 1 (.t 121) (.t 118)), none⟩, ⟨(some 122), (.iaddr none 1 (.t 113) (.t 115)), none⟩, ⟨none, (.store 1 (.t 122) (.t 120)), none⟩]) (.seq (.drawE [12, 14] [] [] [⟨(some 123), (.mv (.t 0)), none⟩, ⟨(some 124), (.mv (.t 4)), none⟩, ⟨(some 125), (.bin .sub .bool false (.t 124) (.k (.int .i64 3))), none⟩, ⟨(some 126), (.mv (.t 0)), none⟩, ⟨(some 127), (.mv (.t 4)), none⟩, ⟨(some 128), (.bin .sub .bool false (.t 127) (.k (.int .i64 4))), none⟩, ⟨(some 129), (.mv (.t 14)), none⟩, ⟨(some 130), (.bin .add .bool false (.t 129) (.k (.int .u32 1))), none⟩, ⟨(some 131), (.idxS (.k (.str smT)) (.t 130)), none⟩, ⟨(some 132), (.mv (.t 14)), none⟩, ⟨(some 133), (.idxS (.k (.str smT)) (.t 132)), none⟩, ⟨(some 134), (.iaddr none 1 (.t 123) (.t 125)), none⟩, ⟨none, (.store 1 (.t 134) (.t 131)), none⟩, ⟨(some 135), (.iaddr none 1 (.t 126) (.t 128)), none⟩, ⟨none, (.store 1 (.t 135) (.t 133)), none⟩]) (.region [⟨(some 136), (.mv (.t 4)), none⟩, ⟨(some 137), (.bin .sub .bool false (.t 136) (.k (.int .i64 4))), none⟩, ⟨(some 4), (.mv (.t 137)), none⟩])))))) .skip)) (.seq (.seq (.region [⟨(some 138), (.mv (.t 4)), none⟩, ⟨(some 139), (.bin .geq .bool false (.t 138) (.k (.int .i64 2))), none⟩]) (.cond (.t 139) (.seq (.region [⟨(some 140), (.mv (.t 12)), none⟩, ⟨(some 141), (.bin .rem .bool false (.t 140) (.k (.int .u32 100))), none⟩, ⟨(some 142), (.bin .mul .bool false (.t 141) (.k (.int .u32 2))), none⟩, ⟨(some 16), (.mv (.t 142)), none⟩]) (.seq (.region [⟨(some 143), (.mv (.t 12)), none⟩, ⟨(some 144), (.bin .quo .bool false (.t 143) (.k (.int .u32 100))), none⟩, ⟨(some 12), (.mv (.t 144)), none⟩]) (.seq (.drawE [12, 14] [] [] [⟨(some 145), (.mv (.t 0)), none⟩, ⟨(some 146), (.mv (.t 4)), none⟩, ⟨(some 147), (.bin .sub .bool false (.t 146) (.k (.int .i64 1))), none⟩, ⟨(some 148), (.mv (.t 0)), none⟩, ⟨(some 149), (.mv (.t 4)), none⟩, ⟨(some 150), (.bin .sub .bool false (.t 149) (.k (.int .i64 2))), none⟩, ⟨(some 151), (.mv (.t 16)), none⟩, ⟨(some 152), (.bin .add .bool false (.t 151) (.k (.int .u32 1))), none⟩, ⟨(some 153), (.idxS (.k (.str smT)) (.t 152)), none⟩, ⟨(some 154), (.mv (.t 16)), none⟩, ⟨(some 155), (.idxS (.k (.str smT)) (.t 154)), none⟩, ⟨(some 156), (.iaddr none 1 (.t 145) (.t 147)), none⟩, ⟨none, (.store 1 (.t 156) (.t 153)), none⟩, ⟨(some 157), (.iaddr none 1 (.t 148) (.t 150)), none⟩, ⟨none, (.store 1 (.t 157) (.t 155)), none⟩]) (.region [⟨(some 158), (.mv (.t 4)), none⟩, ⟨(some 159), (.bin .sub .bool false (.t 158) (.k (.int .i64 2))), none⟩, ⟨(some 4), (.mv (.t 159)), none⟩])))) .skip)) (.seq (.region [⟨(some 160), (.mv (.t 4)), none⟩, ⟨(some 161), (.bin .gtr .bool false (.t 160) (.k (.int .i64 0))), none⟩]) (.cond (.t 161) (.region [⟨(some 162), (.mv (.t 0)), none⟩, ⟨(some 163), (.mv (.t 12)), none⟩, ⟨(some 164), (.bin .add .bool false (.k (.int .u32 48)) (.t 163)), none⟩, ⟨(some 165), (.conv (.int .u8) (.t 164)), none⟩, ⟨(some 166), (.iaddr none 1 (.t 162) (.k (.int .i64 0))), none⟩, ⟨none, (.store 1 (.t 166) (.t 165)), none⟩]) .skip))))))) []
theorem ed98 : d98 = d98x := by kernel_rfl
def dgt (n : Nat) : UInt8 := UInt8.ofNat (48 + n % 10)
theorem dgt_nat (n : Nat) : (dgt n).toNat = 48 + n % 10 := by
  unfold dgt
  have : n % 10 < 10 := Nat.mod_lt _ (by decide)
  simp
  omega
/-- The decimal text of a number: 'k' bounds its digits. -/
def decT : Nat → Nat → List UInt8
  | 0, _ => []
  | k + 1, n => if n < 10 then [dgt n] else decT k (n / 10) ++ [dgt n]
theorem decT_len : ∀ (k n : Nat), (decT k n).length ≤ k
  | 0, _ => Nat.le_refl _
  | k + 1, n => by
    unfold decT
    split
    · simp
    · simp [decT_len k (n / 10)]
/-- The last k digits. -/
def dk : Nat → Nat → List UInt8
  | 0, _ => []
  | k + 1, n => dk k (n / 10) ++ [dgt n]
theorem dk_len : ∀ (k n : Nat), (dk k n).length = k
  | 0, _ => rfl
  | k + 1, n => by simp [dk, dk_len k]
theorem decT_dk : ∀ (k K u : Nat), u < 10 ^ (k + 1) → (k = 0 ∨ 10 ^ k ≤ u) → k + 1 ≤ K → decT K u = dk (k + 1) u
  | _, 0, _, _, _, h => by omega
  | 0, K + 1, u, h, _, _ => by
    simp at h
    simp [decT, dk, h]
  | k + 1, K + 1, u, h, h2, h3 => by
    have h4 : 10 ^ (k + 1) ≤ u := by rcases h2 with h2 | h2 <;> omega
    have h5 : 10 ^ (k + 1) = 10 ^ k * 10 := Nat.pow_succ ..
    have h6 : 10 ^ (k + 1 + 1) = 10 ^ (k + 1) * 10 := Nat.pow_succ ..
    have h7 : 0 < 10 ^ k := Nat.pow_pos (by decide)
    have ih := decT_dk k K (u / 10) (by omega) (.inr (by omega)) (by omega)
    rw [decT, if_neg (by omega), ih]
    rfl
theorem tab8_len : tab8.length = 256 := by kernel_rfl
theorem tab8_all : (List.range 256).all (fun x => tab8[x]? == some (UInt8.ofNat (if x = 0 then 0 else Nat.log2 x + 1))) = true := by kernel_rfl
theorem tab8_at (x : Nat) (h : x < 256) : tab8[x]? = some (UInt8.ofNat (if x = 0 then 0 else Nat.log2 x + 1)) := by
  have := List.all_eq_true.1 tab8_all x (List.mem_range.2 h)
  simpa only [beq_iff_eq] using this
theorem log2_sh (u s : Nat) (h : 0 < u / 2 ^ s) : Nat.log2 u = s + Nat.log2 (u / 2 ^ s) := by
  have hx : u / 2 ^ s ≠ 0 := by omega
  have h1 := Nat.log2_self_le hx
  have h2 := Nat.lt_log2_self (n := u / 2 ^ s)
  have hp : 0 < 2 ^ s := Nat.pow_pos (by decide)
  rw [Nat.le_div_iff_mul_le hp] at h1
  rw [Nat.div_lt_iff_lt_mul hp] at h2
  have hu : u ≠ 0 := by intro h0; subst h0; simp at h
  rw [Nat.log2_eq_iff hu]
  constructor
  · rw [Nat.pow_add, Nat.mul_comm]; exact h1
  · rw [show s + Nat.log2 (u / 2 ^ s) + 1 = (Nat.log2 (u / 2 ^ s) + 1) + s by omega, Nat.pow_add]; exact h2
theorem shr_u (x : Nat) (j : Nat) (hj : j ≤ 64) : shiftOp .shr .u64 (x : Int) (j : Int) = some (.int .u64 ((x / 2 ^ j : Nat) : Int)) := by
  have h : min j IntKind.u64.bits = j := Nat.min_eq_left hj
  unfold shiftOp
  rw [if_neg (by omega)]
  simp only [Int.toNat_natCast, h]
  rw [Int.fdiv_eq_ediv_of_nonneg _ (by exact Int.pow_nonneg (by decide))]
  norm_cast
theorem shr32 (x : Nat) : shiftOp .shr .u64 (x : Int) 32 = some (.int .u64 ((x / 4294967296 : Nat) : Int)) := shr_u x 32 (by decide)
theorem shr16 (x : Nat) : shiftOp .shr .u64 (x : Int) 16 = some (.int .u64 ((x / 65536 : Nat) : Int)) := shr_u x 16 (by decide)
theorem shr8 (x : Nat) : shiftOp .shr .u64 (x : Int) 8 = some (.int .u64 ((x / 256 : Nat) : Int)) := shr_u x 8 (by decide)
theorem wrU8 {x : Int} (h1 : 0 ≤ x) (h2 : x < 256) : IntKind.u8.wrap x = x := by rw [IntKind.wrap_u8]; omega
theorem wrU32 {x : Int} (h1 : 0 ≤ x) (h2 : x < 4294967296) : IntKind.u32.wrap x = x := by rw [IntKind.wrap_u32]; omega
theorem wrU64 {x : Int} (h1 : 0 ≤ x) (h2 : x < 18446744073709551616) : IntKind.u64.wrap x = x := by rw [IntKind.wrap_u64]; omega
theorem tab8_v (x : Nat) (h : x < 256) (h0 : 0 < x) : tab8[x]? = some (UInt8.ofNat (Nat.log2 x + 1)) ∧ ((UInt8.ofNat (Nat.log2 x + 1)).toNat : Int) = (Nat.log2 x : Int) + 1 := by
  have h1 := tab8_at x h
  rw [if_neg (by omega)] at h1
  refine ⟨h1, ?_⟩
  have : Nat.log2 x < 8 := (Nat.log2_lt (by omega)).2 h
  simp
  omega
set_option maxHeartbeats 1000000 in
theorem len64_ok (u : Nat) (hu : u < 18446744073709551616) (h0 : 0 < u) (H : Heap) : C T 101 [.int .u64 u] H = some (.int .i64 ((Nat.log2 u + 1 : Nat) : Int), H) := by
  refine anyH fd101 rfl rfl ?_ H
  rw [q101, ed101]
  have key : ∀ (x s : Nat), u / 2 ^ s = x → x < 256 → 0 < x → ∃ t : UInt8, tab8[x]? = some t ∧ ((t.toNat : Nat) : Int) = (Nat.log2 x : Int) + 1 ∧ Nat.log2 u = s + Nat.log2 x ∧ Nat.log2 x < 8 := fun x s h1 h2 h3 => by
    obtain ⟨h4, h5⟩ := tab8_v x h2 h3
    have := log2_sh u s (by omega)
    rw [h1] at this
    exact ⟨_, h4, h5, this, (Nat.log2_lt (by omega)).2 h2⟩
  by_cases a : 4294967296 ≤ u
  · generalize hx : u / 4294967296 = x
    have hx4 : x < 4294967296 := by omega
    by_cases b : 65536 ≤ x
    · generalize hy : x / 65536 = y
      by_cases c : 256 ≤ y
      · generalize hz : y / 256 = z
        obtain ⟨t, k1, k2, k3, k4⟩ := key z 56 (by omega) (by omega) (by omega)
        simp (disch := omega) [d101x, shr32, shr16, shr8, hx, hy, hz, k1, k2, k3, tab8_len]
        omega
      · obtain ⟨t, k1, k2, k3, k4⟩ := key y 48 (by omega) (by omega) (by omega)
        simp (disch := omega) [d101x, shr32, shr16, hx, hy, k1, k2, k3, tab8_len]
        omega
    · by_cases c : 256 ≤ x
      · generalize hz : x / 256 = z
        obtain ⟨t, k1, k2, k3, k4⟩ := key z 40 (by omega) (by omega) (by omega)
        simp (disch := omega) [d101x, shr32, shr8, hx, hz, k1, k2, k3, tab8_len]
        omega
      · obtain ⟨t, k1, k2, k3, k4⟩ := key x 32 (by omega) (by omega) (by omega)
        simp (disch := omega) [d101x, shr32, hx, k1, k2, k3, tab8_len]
        omega
  · by_cases b : 65536 ≤ u
    · generalize hy : u / 65536 = y
      by_cases c : 256 ≤ y
      · generalize hz : y / 256 = z
        obtain ⟨t, k1, k2, k3, k4⟩ := key z 24 (by omega) (by omega) (by omega)
        simp (disch := omega) [d101x, shr16, shr8, hy, hz, k1, k2, k3, tab8_len]
        omega
      · obtain ⟨t, k1, k2, k3, k4⟩ := key y 16 (by omega) (by omega) (by omega)
        simp (disch := omega) [d101x, shr16, hy, k1, k2, k3, tab8_len]
        omega
    · by_cases c : 256 ≤ u
      · generalize hz : u / 256 = z
        obtain ⟨t, k1, k2, k3, k4⟩ := key z 8 (by omega) (by omega) (by omega)
        simp (disch := omega) [d101x, shr8, hz, k1, k2, k3, tab8_len]
        omega
      · obtain ⟨t, k1, k2, k3, k4⟩ := key u 0 (by omega) (by omega) (by omega)
        simp (disch := omega) [d101x, k1, k2, tab8_len]
end Go.Eng.S
namespace Go.Eng.S
open Go Go.Eng
set_option linter.unusedSectionVars false
variable [Sit]
set_option maxRecDepth 20000
def powT : List AV := (List.range 20).map fun k => .int .u64 ((10 ^ k : Nat) : Int)
theorem g_pow : T.glob 1 = some powT := by kernel_rfl
theorem powT_at (p : Nat) (h : p < 20) : powT.drop p = .int .u64 ((10 ^ p : Nat) : Int) :: powT.drop (p + 1) := by
  have hl : p < powT.length := by simpa [powT] using h
  rw [List.drop_eq_getElem_cons hl]
  simp [powT]
theorem powT_len : powT.length = 20 := rfl
theorem shr18 (x : Nat) : shiftOp .shr .i64 (x : Int) 18 = some (.int .i64 ((x / 262144 : Nat) : Int)) := by
  unfold shiftOp
  rw [if_neg (by omega)]
  have h : min (18 : Int).toNat IntKind.i64.bits = 18 := by decide
  simp only [h]
  rw [Int.fdiv_eq_ediv_of_nonneg _ (by exact Int.pow_nonneg (by decide))]
  norm_cast
theorem l10_ok (n : Nat) (hn : n ≤ 64) (H : Heap) : C T 100 [.int .i64 n] H = some (.int .i64 ((n * 78913 / 262144 : Nat) : Int), H) := by
  refine anyH fd100 rfl rfl ?_ H
  rw [q100]
  have e : ((n : Int) * 78913) = ((n * 78913 : Nat) : Int) := by omega
  have h := shr18 (n * 78913)
  rw [← e] at h
  simp (disch := omega) [d100, h]
theorem b2_ok (b : Bool) (H : Heap) : C T 102 [.bool b] H = some (.int .i64 (bif b then 1 else 0), H) := by
  refine anyH fd102 rfl rfl ?_ H
  rw [q102]
  cases b <;> simp [d102]
theorem log_all : (List.range 64).all (fun l => let p := (l + 1) * 78913 / 262144; decide (p < 20) && decide (2 ^ (l + 1) ≤ 10 ^ (p + 1)) && (decide (p = 0) || decide (10 ^ (p - 1) ≤ 2 ^ l))) = true := by kernel_rfl
theorem nd_ok (u : Nat) (hu : u < 18446744073709551616) (h0 : 0 < u) : ∃ k, u < 10 ^ (k + 1) ∧ (k = 0 ∨ 10 ^ k ≤ u) ∧ k + 1 ≤ 20 ∧ ∀ H, C T 97 [.int .u64 u] H = some (.int .i64 ((k + 1 : Nat) : Int), H) := by
  have hl : Nat.log2 u < 64 := (Nat.log2_lt (by omega)).2 hu
  have h := List.all_eq_true.1 log_all (Nat.log2 u) (List.mem_range.2 hl)
  have h1 := Nat.log2_self_le (n := u) (by omega)
  have h2 := Nat.lt_log2_self (n := u)
  have c1 := fun H => len64_ok u hu h0 H
  have c2 := fun H => l10_ok (Nat.log2 u + 1) (by omega) H
  generalize Nat.log2 u = l at *
  generalize hp : (l + 1) * 78913 / 262144 = p at *
  simp only [Bool.and_eq_true, Bool.or_eq_true, decide_eq_true_eq] at h
  obtain ⟨⟨h3, h4⟩, h5⟩ := h
  have hd := powT_at p h3
  have hcall : ∀ H, C T 97 [.int .u64 u] H = some (.int .i64 ((p + (if 10 ^ p ≤ u then 1 else 0) : Nat) : Int), H) := by
    intro H
    refine anyH fd97 rfl rfl ?_ H
    rw [q97]
    push_cast at c1 c2
    generalize hq : 10 ^ p = q at *
    have hqi : (10 : Int) ^ p = (q : Int) := by rw [← hq]; push_cast; rfl
    by_cases hc : q ≤ u
    · simp (disch := omega) [d97, c1, c2, g_pow, hd, hc, b2_ok]
    · simp (disch := omega) [d97, c1, c2, g_pow, hd, hc, b2_ok]
  by_cases hc : 10 ^ p ≤ u
  · refine ⟨p, by omega, .inr hc, by omega, fun H => ?_⟩
    rw [hcall, if_pos hc]
  · have hp0 : p ≠ 0 := by intro h; subst h; simp at hc; omega
    refine ⟨p - 1, by rw [Nat.sub_add_cancel (by omega)]; omega, .inr (by omega), by omega, fun H => ?_⟩
    rw [hcall, if_neg hc, Nat.sub_add_cancel (by omega)]
    rfl
end Go.Eng.S
