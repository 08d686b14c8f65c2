/- The fixed results of chapter 26. The laws SerialBytes and SerialInverse, over values. The laws SerialInverse and SerialSplits, over values. The law SerialCuts, over values. No condition. -/
import Derived.Test.YtgjgcjhmaibblaaGreatDoorMh
namespace Go.Eng.S
open Go Go.Eng
set_option linter.unusedSectionVars false
variable [Sit]
set_option maxRecDepth 20000
abbrev CL : Seg := [67, 111, 110, 116, 101, 110, 116, 45, 76, 101, 110, 103, 116, 104]
abbrev litB : Seg := [72, 84, 84, 80, 47, 49, 46, 49, 32, 52, 48, 52, 32, 78, 111, 116, 32, 70, 111, 117, 110, 100, 13, 10, 67, 111, 110, 116, 101, 110, 116, 45, 76, 101, 110, 103, 116, 104, 58, 32, 49, 13, 10, 13, 10, 120]
abbrev r0 : Rsp := (404, [(CL, [49])], [120])
theorem r0_bytes : outB 404 [(CL, [49])] ++ [120] = litB := by decide +kernel
theorem r0_join : joinL [r0] = litB := by
  show bytesR r0 ++ [] = _
  rw [List.append_nil]
  exact r0_bytes
theorem r0_right : rightB 404 [(CL, [49])] [120] false = true := by decide +kernel
theorem r0_bare : rightB 404 [(CL, [49])] [120] true = false := by decide +kernel
theorem r0_rp : RightP r0 false := (rightB_iff r0 false).1 r0_right
theorem r0_split : splitL oneL [] litB.length 0 litB = some [r0] := by
  have := split_right [] [r0] litB.length 0 (by rw [r0_join]; exact Nat.le_refl _) (fun j hj => by
    have : j = 0 := by simp at hj; omega
    subst this
    exact r0_rp)
  rw [r0_join] at this
  exact this
theorem x_split : splitL oneL [] 1 0 [120] = none := by decide +kernel
theorem r0_fits : Fits 404 [(CL, [49])] [120] := ⟨by decide, by decide, by decide, by
  have := congrArg List.length r0_bytes
  have hl : litB.length = 46 := rfl
  rw [hl, List.length_append] at this
  omega⟩
theorem r0_small : Small [(CL, [49])] := ⟨by decide, fun f hf => by rw [List.mem_singleton.1 hf]; exact ⟨by decide, by decide⟩⟩
/-- The response's value in awake. -/
abbrev awF : AV := .sl true 1 2 [.str CL, .str [49]]
abbrev awR : List AV := [.int .i64 404, awF, .ms 0 0 1 1 0]
abbrev rowX (lv : Bool) : AObj := ⟨[.int .u8 120], 0, lv, .no⟩
abbrev rowY : AObj := ⟨awR, 0, true, .no⟩
abbrev awF' : AV := .sl false 1 2 [.str CL, .str [49]]
abbrev awB' : AV := .sl false 1 1 [.int .u8 120]
theorem awF_ok : FV awF' [(CL, [49])] := .inr rfl
theorem awB_ok : BV awB' [120] := .inr rfl
theorem snapF (k : Nat) (H : Heap) : snap (k + 1) H awF = some (awF', H) := by
  have hc : closedL [AV.str CL, .str [49]] = true := rfl
  simp only [Go.Eng.snap, hc, cond_true]
theorem snap_ms (k : Nat) (H : Heap) (i off n e g : Nat) : snap (k + 1) H (.ms i off n e g) = (match hget H i off (n * e) g with
      | some cs => match mapS (snap k) H cs with
        | some (cs', H') => some (.sl false n e cs', freeze H' i)
        | none => none
      | none => none) := rfl
theorem snap_slx (k : Nat) (H : Heap) (f : Bool) (n e : Nat) (cs : List AV) : snap (k + 1) H (.sl f n e cs) = (bif closedL cs then some (.sl false n e cs, H) else match mapS (snap k) H cs with
      | some (cs', H') => some (.sl false n e cs', H')
      | none => none) := rfl
theorem snapX (k : Nat) (lv : Bool) (G : Heap) : snap (k + 2) (rowX lv :: G) (.ms 0 0 1 1 0) = some (awB', rowX false :: G) := by
  have hg : hget (rowX lv :: G) 0 0 (1 * 1) 0 = some [.int .u8 120] := rfl
  have hf : freeze (rowX lv :: G) 0 = rowX false :: G := rfl
  rw [snap_ms, hg]
  simp only [mapS_cons, mapS_nil, snap_int, hf]
theorem aw_map (k : Nat) (lv : Bool) (G : Heap) : mapS (snap (k + 2)) (rowX lv :: G) awR = some ([.int .i64 404, awF', awB'], rowX false :: G) := by
  rw [mapS_cons, snap_int]
  simp only
  rw [mapS_cons, snapF]
  simp only
  rw [mapS_cons, snapX]
  simp only [mapS_nil]
theorem aw_snap (k : Nat) (lv : Bool) (G : Heap) : snap (k + 3) (rowX lv :: G) (.agg awR) = some (.agg [.int .i64 404, awF', awB'], rowX false :: G) := by
  rw [snap_agg, aw_map]
theorem aw_snapL (k : Nat) (lv : Bool) (G : Heap) : snap (k + 3) (rowX lv :: G) (.sl true 1 3 awR) = some (.sl false 1 3 [.int .i64 404, awF', awB'], rowX false :: G) := by
  have hc2 : closedL awR = false := rfl
  have hm := aw_map k lv G
  rw [snap_slx, hc2, cond_false, hm]
theorem aw_lv : LV (.sl false 1 3 [.int .i64 404, awF', awB']) [r0] := .inr ⟨_, rfl, rfl, awF_ok, awB_ok, trivial⟩
def aw0 : ACode := (.region [⟨(some 0), (.mv (.k (.bool false))), none⟩])
def aw1 : ACode := (.region [⟨(some 7), (.build [(.str []), (.str [])] [(0, (1, (.k (.str [67, 111, 110, 116, 101, 110, 116, 45, 76, 101, 110, 103, 116, 104])))), (1, (1, (.k (.str [49]))))]), none⟩, ⟨(some 8), (.lit 1 2 [(.str []), (.str [])] [(0, (2, (.t 7)))]), none⟩, ⟨(some 9), (.litM 1 1 [(.int .u8 0)] [(0, (1, (.k (.int .u8 120))))]), none⟩, ⟨(some 10), (.reown (.t 9)), none⟩, ⟨(some 11), (.build [(.int .i64 0), (.cst (.slice none 0 0)), (.cst (.slice none 0 0))] [(0, (1, (.k (.int .i64 404)))), (1, (1, (.t 8))), (2, (1, (.t 10)))]), none⟩, ⟨(some 1), (.alloc .no [(.int .i64 0), (.cst (.slice none 0 0)), (.cst (.slice none 0 0))]), none⟩, ⟨none, (.store 3 (.t 1) (.t 11)), none⟩])
def aw2 : ACode := (.region [⟨(some 12), (.load (some 3) (.t 1)), none⟩, ⟨(some 13), (.call (.fn 9) [(.t 12)]), none⟩, ⟨(some 2), (.mv (.t 13)), none⟩])
def aw3 : ACode := (.region [⟨(some 15), (.mv (.t 2)), none⟩, ⟨(some 16), (.call (.fn 15) [(.t 15), (.k (.cst (.slice none 0 0)))]), none⟩, ⟨(some 14), (.mv (.t 16)), none⟩, ⟨(some 17), (.extract (.t 14) 0), none⟩, ⟨(some 18), (.extract (.t 14) 1), none⟩, ⟨(some 3), (.mv (.t 17)), none⟩, ⟨(some 4), (.mv (.t 18)), none⟩])
def aw4 : ACode := (.region [⟨(some 20), (.litM 1 1 [(.int .u8 0)] [(0, (1, (.k (.int .u8 120))))]), none⟩, ⟨(some 21), (.reown (.t 20)), none⟩, ⟨(some 22), (.call (.fn 15) [(.t 21), (.k (.cst (.slice none 0 0)))]), none⟩, ⟨(some 19), (.mv (.t 22)), none⟩, ⟨(some 23), (.extract (.t 19) 0), none⟩, ⟨(some 24), (.extract (.t 19) 1), none⟩, ⟨(some 5), (.mv (.t 23)), none⟩, ⟨(some 6), (.mv (.t 24)), none⟩])
def aw5 (s : Seg) : ACode := (.drawE [7, 16, 20, 24, 30] [] [(30, 33)] [⟨(some 25), (.mv (.t 2)), none⟩, ⟨(some 26), (.conv .ofBytes (.t 25)), none⟩, ⟨(some 27), (.bin .eql .str true (.t 26) (.k (.str s))), none⟩, ⟨(some 28), (.mv (.t 27)), none⟩, ⟨(some 29), (.mv (.t 3)), (some ((some 28), true))⟩, ⟨(some 30), (.load (some 3) (.t 1)), (some ((some 28), true))⟩, ⟨(some 31), (.lit 1 3 [(.int .i64 0), (.cst (.slice none 0 0)), (.cst (.slice none 0 0))] [(0, (3, (.t 30)))]), (some ((some 28), true))⟩, ⟨(some 32), (.call (.fn 16) [(.t 29), (.t 31)]), (some ((some 28), true))⟩, ⟨(some 33), (.pick (.t 28) (.t 32) (.k (.bool false))), none⟩, ⟨(some 34), (.mv (.t 33)), none⟩, ⟨(some 35), (.mv (.t 4)), (some ((some 34), true))⟩, ⟨(some 36), (.bin .eql .iface true (.t 35) (.k (.cst .nilIface))), (some ((some 34), true))⟩, ⟨(some 37), (.pick (.t 34) (.t 36) (.k (.bool false))), none⟩, ⟨(some 38), (.mv (.t 37)), none⟩, ⟨(some 39), (.mv (.t 6)), (some ((some 38), true))⟩, ⟨(some 40), (.mkIface 25 (.k (.int .i64 400))), (some ((some 38), true))⟩, ⟨(some 41), (.call (.fn 18) [(.t 39), (.t 40)]), (some ((some 38), true))⟩, ⟨(some 42), (.pick (.t 38) (.t 41) (.k (.bool false))), none⟩, ⟨(some 43), (.mv (.t 42)), none⟩, ⟨(some 44), (.load (some 3) (.t 1)), (some ((some 43), true))⟩, ⟨(some 45), (.call (.fn 11) [(.t 44), (.k (.bool false))]), (some ((some 43), true))⟩, ⟨(some 46), (.pick (.t 43) (.t 45) (.k (.bool false))), none⟩, ⟨(some 47), (.mv (.t 46)), none⟩, ⟨(some 48), (.load (some 3) (.t 1)), (some ((some 47), true))⟩, ⟨(some 49), (.call (.fn 11) [(.t 48), (.k (.bool true))]), (some ((some 47), true))⟩, ⟨(some 50), (.un .not (.t 49)), (some ((some 47), true))⟩, ⟨(some 51), (.pick (.t 47) (.t 50) (.k (.bool false))), none⟩, ⟨(some 52), (.mv (.t 51)), none⟩, ⟨(some 53), (.load (some 3) (.t 1)), (some ((some 52), true))⟩, ⟨(some 54), (.lit 1 3 [(.int .i64 0), (.cst (.slice none 0 0)), (.cst (.slice none 0 0))] [(0, (3, (.t 53)))]), (some ((some 52), true))⟩, ⟨(some 55), (.call (.fn 13) [(.t 54)]), (some ((some 52), true))⟩, ⟨(some 56), (.conv .ofBytes (.t 55)), (some ((some 52), true))⟩, ⟨(some 57), (.mv (.t 2)), (some ((some 52), true))⟩, ⟨(some 58), (.conv .ofBytes (.t 57)), (some ((some 52), true))⟩, ⟨(some 59), (.bin .eql .str false (.t 56) (.t 58)), (some ((some 52), true))⟩, ⟨(some 60), (.pick (.t 52) (.t 59) (.k (.bool false))), none⟩, ⟨(some 0), (.mv (.t 60)), none⟩])
def awT (s : Seg) : ACode := .seq aw0 (.seq aw1 (.seq aw2 (.seq aw3 (.seq aw4 (.seq (aw5 s) .ret)))))
theorem eAw : d7 = .code true (awT litB) [(.tmp 0)] := by kernel_rfl
def ap0 (s : Seg) (r : List AOper) : List AOper := ⟨(some 25), (.mv (.t 2)), none⟩ :: ⟨(some 26), (.conv .ofBytes (.t 25)), none⟩ :: ⟨(some 27), (.bin .eql .str true (.t 26) (.k (.str s))), none⟩ :: ⟨(some 28), (.mv (.t 27)), none⟩ :: ⟨(some 29), (.mv (.t 3)), (some ((some 28), true))⟩ :: ⟨(some 30), (.load (some 3) (.t 1)), (some ((some 28), true))⟩ :: ⟨(some 31), (.lit 1 3 [(.int .i64 0), (.cst (.slice none 0 0)), (.cst (.slice none 0 0))] [(0, (3, (.t 30)))]), (some ((some 28), true))⟩ :: ⟨(some 32), (.call (.fn 16) [(.t 29), (.t 31)]), (some ((some 28), true))⟩ :: ⟨(some 33), (.pick (.t 28) (.t 32) (.k (.bool false))), none⟩ :: r
def ap1 (r : List AOper) : List AOper := ⟨(some 34), (.mv (.t 33)), none⟩ :: ⟨(some 35), (.mv (.t 4)), (some ((some 34), true))⟩ :: ⟨(some 36), (.bin .eql .iface true (.t 35) (.k (.cst .nilIface))), (some ((some 34), true))⟩ :: ⟨(some 37), (.pick (.t 34) (.t 36) (.k (.bool false))), none⟩ :: ⟨(some 38), (.mv (.t 37)), none⟩ :: ⟨(some 39), (.mv (.t 6)), (some ((some 38), true))⟩ :: ⟨(some 40), (.mkIface 25 (.k (.int .i64 400))), (some ((some 38), true))⟩ :: ⟨(some 41), (.call (.fn 18) [(.t 39), (.t 40)]), (some ((some 38), true))⟩ :: ⟨(some 42), (.pick (.t 38) (.t 41) (.k (.bool false))), none⟩ :: r
def ap2 (r : List AOper) : List AOper := ⟨(some 43), (.mv (.t 42)), none⟩ :: ⟨(some 44), (.load (some 3) (.t 1)), (some ((some 43), true))⟩ :: ⟨(some 45), (.call (.fn 11) [(.t 44), (.k (.bool false))]), (some ((some 43), true))⟩ :: ⟨(some 46), (.pick (.t 43) (.t 45) (.k (.bool false))), none⟩ :: ⟨(some 47), (.mv (.t 46)), none⟩ :: ⟨(some 48), (.load (some 3) (.t 1)), (some ((some 47), true))⟩ :: ⟨(some 49), (.call (.fn 11) [(.t 48), (.k (.bool true))]), (some ((some 47), true))⟩ :: ⟨(some 50), (.un .not (.t 49)), (some ((some 47), true))⟩ :: ⟨(some 51), (.pick (.t 47) (.t 50) (.k (.bool false))), none⟩ :: r
def ap3 (r : List AOper) : List AOper := ⟨(some 52), (.mv (.t 51)), none⟩ :: ⟨(some 53), (.load (some 3) (.t 1)), (some ((some 52), true))⟩ :: ⟨(some 54), (.lit 1 3 [(.int .i64 0), (.cst (.slice none 0 0)), (.cst (.slice none 0 0))] [(0, (3, (.t 53)))]), (some ((some 52), true))⟩ :: ⟨(some 55), (.call (.fn 13) [(.t 54)]), (some ((some 52), true))⟩ :: ⟨(some 56), (.conv .ofBytes (.t 55)), (some ((some 52), true))⟩ :: ⟨(some 57), (.mv (.t 2)), (some ((some 52), true))⟩ :: ⟨(some 58), (.conv .ofBytes (.t 57)), (some ((some 52), true))⟩ :: ⟨(some 59), (.bin .eql .str false (.t 56) (.t 58)), (some ((some 52), true))⟩ :: ⟨(some 60), (.pick (.t 52) (.t 59) (.k (.bool false))), none⟩ :: ⟨(some 0), (.mv (.t 60)), none⟩ :: r
theorem e5 (s : Seg) : aw5 s = .drawE [7, 16, 20, 24, 30] [] [(30, 33)] (ap0 s (ap1 (ap2 (ap3 [])))) := rfl
theorem aw_pre (s : Seg) (p : AV) (c9 : ∀ G, C T 9 [.agg awR] (rowX true :: rowY :: G) = some (slv s, rowX false :: rowY :: G)) (c15 : ∀ H, C T 15 [slv s, nls] H = some (.tup [p, .cst .nilIface], H))
    (c15x : C T 15 [.ms 2 0 1 1 0, nls] [rowX false, rowY, rowX true] = some (.tup [nls, badV], [rowX false, rowY, rowX false])) (k : Env → Heap → XR) :
    ∃ e', seqK (X T aw0 [] []) (fun e H => seqK (X T aw1 e H) fun e H => seqK (X T aw2 e H) fun e H => seqK (X T aw3 e H) fun e H => seqK (X T aw4 e H) k) = k e' [rowX false, rowY, rowX false] ∧ e'.get 1 = .ptr 1 0 0 ∧ e'.get 2 = slv s ∧ e'.get 3 = p ∧ e'.get 4 = .cst .nilIface ∧ e'.get 6 = badV := by
  have hY : ∀ lv, hset [rowX lv, ⟨[.int .i64 0, nls, nls], 0, true, .no⟩] 1 0 0 awR = some [rowX lv, rowY] := fun _ => rfl
  have hg1 : ∀ lv G, hget (rowX lv :: rowY :: G) 1 0 3 0 = some awR := fun _ _ => rfl
  simp [aw0, aw1, aw2, aw3, aw4, fillP, splice, reps, hnew, hY, hg1, c9, c15, c15x]
  exact ⟨_, rfl, rfl, rfl, rfl, rfl, rfl⟩
noncomputable abbrev awX (k : Nat) (r : List AOper) (e : Env) (H : Heap) : Option (Env × Heap) := runDrawE T (C T) [7, 16, 20, 24, 30] [] [(30, 33)] k [] r e H
theorem ap0_ok (s : Seg) (p : AV) (H : Heap) (r : List AOper) (K : Env → Option (Env × Heap)) (hK : ∀ e, awX 9 r e H = K e)
    (c16 : C T 16 [p, .sl true 1 3 awR] H = some (.bool true, H)) (hg : hget H 1 0 3 0 = some awR)
    (e : Env) (g1 : e.get 1 = .ptr 1 0 0) (g2 : e.get 2 = slv s) (g3 : e.get 3 = p) (g4 : e.get 4 = .cst .nilIface) (g6 : e.get 6 = badV) :
    ∃ e', awX 0 (ap0 s r) e H = K e' ∧ e'.get 33 = .bool true ∧ e'.get 1 = .ptr 1 0 0 ∧ e'.get 2 = slv s ∧ e'.get 4 = .cst .nilIface ∧ e'.get 6 = badV := by
  have hob : ∀ H, obK H (slv s) = some (.str s, H) := fun H => obK_sl
  simp only [awX] at hK ⊢
  simp [ap0, reps, fillP, splice, hg, c16, hob, g1, g2, g3, hK]
  exact ⟨_, rfl, rfl, g1, g2, g4, g6⟩
theorem ap1_ok (s : Seg) (H : Heap) (r : List AOper) (K : Env → Option (Env × Heap)) (hK : ∀ e, awX 18 r e H = K e)
    (c18 : C T 18 [badV, sts 400] H = some (.bool true, H))
    (e : Env) (g0 : e.get 33 = .bool true) (g1 : e.get 1 = .ptr 1 0 0) (g2 : e.get 2 = slv s) (g4 : e.get 4 = .cst .nilIface) (g6 : e.get 6 = badV) :
    ∃ e', awX 9 (ap1 r) e H = K e' ∧ e'.get 42 = .bool true ∧ e'.get 1 = .ptr 1 0 0 ∧ e'.get 2 = slv s := by
  simp only [awX] at hK ⊢
  simp [ap1, c18, g0, g4, g6, hK]
  exact ⟨_, rfl, rfl, g1, g2⟩
theorem ap2_ok (s : Seg) (H : Heap) (r : List AOper) (K : Env → Option (Env × Heap)) (hK : ∀ e, awX 27 r e H = K e) (hg : hget H 1 0 3 0 = some awR)
    (c11a : C T 11 [.agg awR, .bool false] H = some (.bool true, H)) (c11b : C T 11 [.agg awR, .bool true] H = some (.bool false, H))
    (e : Env) (g0 : e.get 42 = .bool true) (g1 : e.get 1 = .ptr 1 0 0) (g2 : e.get 2 = slv s) :
    ∃ e', awX 18 (ap2 r) e H = K e' ∧ e'.get 51 = .bool true ∧ e'.get 1 = .ptr 1 0 0 ∧ e'.get 2 = slv s := by
  simp only [awX] at hK ⊢
  simp [ap2, hg, c11a, c11b, g0, g1, hK]
  exact ⟨_, rfl, rfl, g1, g2⟩
theorem ap3_ok (s : Seg) (H : Heap) (hg : hget H 1 0 3 0 = some awR) (v : AV) (c13 : C T 13 [.sl true 1 3 awR] H = some (v, H)) (hob2 : ∀ H, obK H v = some (.str s, H))
    (e : Env) (g0 : e.get 51 = .bool true) (g1 : e.get 1 = .ptr 1 0 0) (g2 : e.get 2 = slv s) :
    ∃ e', awX 27 (ap3 []) e H = some (e', H) ∧ e'.get 0 = .bool true := by
  have hob : ∀ H, obK H (slv s) = some (.str s, H) := fun H => obK_sl
  simp only [awX]
  simp [ap3, reps, fillP, splice, hg, c13, hob, hob2, g0, g1, g2]
theorem aw_draw (s : Seg) (p : AV)
    (c16 : C T 16 [p, .sl true 1 3 awR] [rowX false, rowY, rowX false] = some (.bool true, [rowX false, rowY, rowX false]))
    (c11a : C T 11 [.agg awR, .bool false] [rowX false, rowY, rowX false] = some (.bool true, [rowX false, rowY, rowX false]))
    (c11b : C T 11 [.agg awR, .bool true] [rowX false, rowY, rowX false] = some (.bool false, [rowX false, rowY, rowX false]))
    (v : AV) (c13 : C T 13 [.sl true 1 3 awR] [rowX false, rowY, rowX false] = some (v, [rowX false, rowY, rowX false])) (hob2 : ∀ H, obK H v = some (.str s, H)) 
    (e : Env) (g1 : e.get 1 = .ptr 1 0 0) (g2 : e.get 2 = slv s) (g3 : e.get 3 = p) (g4 : e.get 4 = .cst .nilIface) (g6 : e.get 6 = badV) :
    ∃ e', X T (aw5 s) e [rowX false, rowY, rowX false] = some (.normal, e', [rowX false, rowY, rowX false]) ∧ e'.get 0 = .bool true := by
  have hg : hget [rowX false, rowY, rowX false] 1 0 3 0 = some awR := rfl
  have c18 := IsP_ok [rowX false, rowY, rowX false]
  generalize [rowX false, rowY, rowX false] = H at *
  obtain ⟨e1, a0, a1, a2, a3, a4, a5⟩ := ap0_ok s p H (ap1 (ap2 (ap3 []))) (fun e => awX 9 (ap1 (ap2 (ap3 []))) e H) (fun _ => rfl) c16 hg e g1 g2 g3 g4 g6
  obtain ⟨e2, b0, b1, b2, b3⟩ := ap1_ok s H (ap2 (ap3 [])) (fun e => awX 18 (ap2 (ap3 [])) e H) (fun _ => rfl) c18 e1 a1 a2 a3 a4 a5
  obtain ⟨e3, d0, d1, d2, d3⟩ := ap2_ok s H (ap3 []) (fun e => awX 27 (ap3 []) e H) (fun _ => rfl) hg c11a c11b e2 b1 b2 b3
  obtain ⟨e4, f0, f1⟩ := ap3_ok s H hg v c13 hob2 e3 d1 d2 d3
  refine ⟨e4, ?_, f1⟩
  rw [e5, S_drawE]
  show opsK (awX 0 (ap0 s (ap1 (ap2 (ap3 [])))) e H) = _
  rw [a0]
  show opsK (awX 9 _ e1 H) = _
  rw [b0]
  show opsK (awX 18 _ e2 H) = _
  rw [d0]
  show opsK (awX 27 _ e3 H) = _
  rw [f0]
  rfl
theorem awake_gen (s : Seg) (p : AV) (c9 : ∀ G, C T 9 [.agg awR] (rowX true :: rowY :: G) = some (slv s, rowX false :: rowY :: G)) (c15 : ∀ H, C T 15 [slv s, nls] H = some (.tup [p, .cst .nilIface], H))
    (c15x : C T 15 [.ms 2 0 1 1 0, nls] [rowX false, rowY, rowX true] = some (.tup [nls, badV], [rowX false, rowY, rowX false]))
    (c16 : C T 16 [p, .sl true 1 3 awR] [rowX false, rowY, rowX false] = some (.bool true, [rowX false, rowY, rowX false]))
    (c11a : C T 11 [.agg awR, .bool false] [rowX false, rowY, rowX false] = some (.bool true, [rowX false, rowY, rowX false]))
    (c11b : C T 11 [.agg awR, .bool true] [rowX false, rowY, rowX false] = some (.bool false, [rowX false, rowY, rowX false]))
    (v : AV) (c13 : C T 13 [.sl true 1 3 awR] [rowX false, rowY, rowX false] = some (v, [rowX false, rowY, rowX false])) (hob2 : ∀ H, obK H v = some (.str s, H)) :
    purK [] (B T (awT s) [.tmp 0] [] []) = some (.bool true, []) := by
  obtain ⟨e', x1, g1, g2, g3, g4, g6⟩ := aw_pre s p c9 c15 c15x (fun e H => seqK (X T (aw5 s) e H) (X T .ret))
  obtain ⟨e2, y1, y2⟩ := aw_draw s p c16 c11a c11b v c13 hob2 e' g1 g2 g3 g4 g6
  have hx : X T (awT s) (argEnv 0 []) [] = some (.ret, e2, [rowX false, rowY, rowX false]) := by
    have hxx : X T (awT s) (argEnv 0 []) [] = seqK (X T aw0 [] []) (fun e H => seqK (X T aw1 e H) fun e H => seqK (X T aw2 e H) fun e H => seqK (X T aw3 e H) fun e H => seqK (X T aw4 e H) (fun e H => seqK (X T (aw5 s) e H) (X T .ret))) := by
      unfold awT
      rw [S_seq]
      congr 1
      funext e H
      rw [S_seq]
      congr 1
      funext e H
      rw [S_seq]
      congr 1
      funext e H
      rw [S_seq]
      congr 1
      funext e H
      rw [S_seq]
      congr 1
      funext e H
      rw [S_seq]
    rw [hxx, x1, y1]
    simp
  rw [S_body, hx]
  simp [y2]
theorem awake_ok (hx : Sit.ext = some (pureP pBy)) (H : Heap) : C T 7 [] H = some (.bool true, H) := by
  refine anyH fd7 rfl rfl ?_ H
  rw [q7]
  have c9 := fun G => bytes_snap hx r0_fits (aw_snap 61 true (rowY :: G)) awF_ok awB_ok
  rw [r0_bytes] at c9
  have c15 := fun H => split_ok hx (slv litB) litB (.inr rfl) (by decide) nls [] (.inl ⟨rfl, rfl⟩) (by decide) H
  rw [r0_split] at c15
  have c15x : C T 15 [.ms 2 0 1 1 0, nls] [rowX false, rowY, rowX true] = some (.tup [nls, badV], [rowX false, rowY, rowX false]) := by
    refine pure_snap fd15 rfl (args' := [awB', nls]) rfl rfl ?_
    intro H
    have := split_ok hx awB' [120] awB_ok (by decide) nls [] (.inl ⟨rfl, rfl⟩) (by decide) H
    rw [show ([120] : Seg).length = 1 from rfl, x_split] at this
    exact this
  have c16 : C T 16 [rspsV [r0], .sl true 1 3 awR] [rowX false, rowY, rowX false] = some (.bool true, [rowX false, rowY, rowX false]) := by
    refine pure_snap fd16 rfl (args' := [rspsV [r0], .sl false 1 3 [.int .i64 404, awF', awB']]) ?_ ?_ ?_
    · rw [mapS_cons, (LV.rsps [r0]).snap 63]
      simp only
      rw [mapS_cons, aw_snapL 61]
      simp only [mapS_nil]
    · rw [mapS_cons, (LV.rsps [r0]).snap 63]
      simp only
      rw [mapS_cons, aw_lv.snap 63]
      simp only [mapS_nil]
    · intro H
      have := same26_ok _ _ [r0] [r0] (LV.rsps [r0]) aw_lv (by decide) (by decide) (fun r hr => by rw [List.mem_singleton.1 hr]; decide) (fun r hr => by rw [List.mem_singleton.1 hr]; decide) H
      rw [this]
      simp
  have c11 : ∀ br, C T 11 [.agg awR, .bool br] [rowX false, rowY, rowX false] = some (.bool (rightB 404 [(CL, [49])] [120] br), [rowX false, rowY, rowX false]) := by
    intro br
    refine pure_snap fd11 rfl (args' := [.agg [.int .i64 404, awF', awB'], .bool br]) ?_ ?_ (right_ok 404 _ _ _ _ awF_ok awB_ok r0_small (by decide) br)
    · rw [mapS_cons, aw_snap 61]
      simp only [mapS_cons, snap_bool, mapS_nil]
    · rw [mapS_cons, resp_self 404 _ _ _ _ awF_ok awB_ok 61]
      simp only [mapS_cons, snap_bool, mapS_nil]
  have c11a := c11 false
  have c11b := c11 true
  rw [r0_right] at c11a
  rw [r0_bare] at c11b
  have c13 : C T 13 [.sl true 1 3 awR] [rowX false, rowY, rowX false] = some (bytV litB, [rowX false, rowY, rowX false]) := by
    refine pure_snap fd13 rfl (args' := [.sl false 1 3 [.int .i64 404, awF', awB']]) ?_ ?_ ?_
    · rw [mapS_cons, aw_snapL 61]
      simp only [mapS_nil]
    · rw [mapS_cons, aw_lv.snap 63]
      simp only [mapS_nil]
    · intro H
      have := join_ok hx _ [r0] aw_lv (fun r hr => by rw [List.mem_singleton.1 hr]; exact r0_fits) (by decide) (by rw [r0_join]; decide) H
      rw [r0_join] at this
      exact this
  rw [eAw]
  exact awake_gen litB (rspsV [r0]) c9 c15 c15x c16 c11a c11b (bytV litB) c13 (bytV_ok litB).ob
end Go.Eng.S
namespace Go.Eng.S
open Go Go.Eng
set_option linter.unusedSectionVars false
variable [Sit]
set_option maxRecDepth 20000
/-- What a response that is read as data keeps to. -/
structure ArgR (r : Rsp) : Prop where
  lo : -9223372036854775808 ≤ r.1
  hi : r.1 < 9223372036854775808
  huge : Huge r.2.1
  body : r.2.2.length < 9223372036854775808
theorem few_ftx : ∀ l : List Fld, l.all fewF = true → (ftx l).length ≤ 404 * l.length
  | [], _ => by simp [ftx]
  | f :: l, h => by
    simp only [List.all_cons, Bool.and_eq_true] at h
    have ih := few_ftx l h.2
    have hf := h.1
    simp only [fewF, Bool.and_eq_true, decide_eq_true_eq] at hf
    rw [ftx_cons]
    simp only [List.length_append, fldT, List.length_cons, List.length_nil]
    omega
structure FewP (r : Rsp) : Prop where
  small : Small r.2.1
  fits : Fits r.1 r.2.1 r.2.2
  body : r.2.2.length ≤ 2000
  len : (bytesR r).length ≤ 20000
theorem few_facts {r : Rsp} (h : few25 r.2.1 r.2.2 = true) (hA : ArgR r) : FewP r := by
  simp only [few25, few11, Bool.and_eq_true, decide_eq_true_eq] at h
  obtain ⟨⟨h1, h2⟩, h3⟩ := h
  have hf := few_ftx r.2.1 h1
  have ho := outB_len r.1 r.2.1
  refine ⟨small_of (by omega) (by omega), ⟨hA.lo, hA.hi, by omega, by omega⟩, h3, ?_⟩
  unfold bytesR
  rw [List.length_append]
  omega
def allFew (L : List Rsp) : Bool := L.all fun r => few25 r.2.1 r.2.2
theorem joinL_len : ∀ L : List Rsp, (∀ r ∈ L, (bytesR r).length ≤ 20000) → (joinL L).length ≤ 20000 * L.length
  | [], _ => by simp [joinL]
  | r :: L, h => by
    have ih := joinL_len L fun s hs => h s (List.mem_cons_of_mem _ hs)
    have := h r (List.mem_cons_self ..)
    rw [joinL_cons]
    simp only [List.length_append, List.length_cons]
    omega
def sbA : ACode := (.seq (.region [⟨(some 14), (.mv (.t 5)), none⟩, ⟨(some 15), (.mv (.t 0)), none⟩, ⟨(some 16), (.len (.t 15)), none⟩, ⟨(some 17), (.bin .lss .bool false (.t 14) (.t 16)), none⟩]) (.cond (.t 17) .skip (.exit 0)))
def sbE : ACode := (.cond (.t 53) (.seq (.region [⟨(some 4), (.mv (.k (.bool false))), none⟩]) .ret) .skip)
def sbC : ACode := (.region [⟨(some 18), (.mv (.t 5)), none⟩, ⟨(some 19), (.bin .add .bool false (.t 18) (.k (.int .i64 1))), none⟩, ⟨(some 5), (.mv (.t 19)), none⟩])
def sbH : ACode := (.seq (.region [⟨(some 20), (.mv (.t 0)), none⟩, ⟨(some 21), (.mv (.t 5)), none⟩, ⟨(some 22), (.iaddr none 3 (.t 20) (.t 21)), none⟩, ⟨(some 23), (.load (some 3) (.t 22)), none⟩, ⟨(some 24), (.call (.fn 8) [(.t 23)]), none⟩, ⟨(some 25), (.un .not (.t 24)), none⟩]) (.cond (.t 25) (.seq (.region [⟨(some 4), (.mv (.k (.bool true))), none⟩]) .ret) .skip))
def sb0 (r : List AOper) : List AOper := ⟨(some 26), (.mv (.t 0)), none⟩ :: ⟨(some 27), (.mv (.t 5)), none⟩ :: ⟨(some 28), (.iaddr none 3 (.t 26) (.t 27)), none⟩ :: ⟨(some 29), (.load (some 3) (.t 28)), none⟩ :: ⟨(some 30), (.call (.fn 9) [(.t 29)]), none⟩ :: ⟨(some 31), (.conv .ofBytes (.t 30)), none⟩ :: ⟨(some 32), (.mv (.t 0)), none⟩ :: ⟨(some 33), (.mv (.t 5)), none⟩ :: ⟨(some 34), (.iaddr none 3 (.t 32) (.t 33)), none⟩ :: ⟨(some 35), (.load (some 3) (.t 34)), none⟩ :: r
def sb1 (r : List AOper) : List AOper := ⟨(some 36), (.call (.fn 10) [(.t 35)]), none⟩ :: ⟨(some 37), (.conv .ofBytes (.t 36)), none⟩ :: ⟨(some 38), (.bin .neq .str false (.t 31) (.t 37)), none⟩ :: ⟨(some 39), (.mv (.t 38)), none⟩ :: ⟨(some 40), (.mv (.t 0)), (some ((some 39), false))⟩ :: ⟨(some 41), (.mv (.t 5)), (some ((some 39), false))⟩ :: ⟨(some 42), (.iaddr none 3 (.t 40) (.t 41)), (some ((some 39), false))⟩ :: ⟨(some 43), (.load (some 3) (.t 42)), (some ((some 39), false))⟩ :: ⟨(some 44), (.mv (.t 1)), (some ((some 39), false))⟩ :: r
def sb2 (r : List AOper) : List AOper := ⟨(some 45), (.call (.fn 11) [(.t 43), (.t 44)]), (some ((some 39), false))⟩ :: ⟨(some 46), (.mv (.t 0)), (some ((some 39), false))⟩ :: ⟨(some 47), (.mv (.t 5)), (some ((some 39), false))⟩ :: ⟨(some 48), (.iaddr none 3 (.t 46) (.t 47)), (some ((some 39), false))⟩ :: ⟨(some 49), (.load (some 3) (.t 48)), (some ((some 39), false))⟩ :: ⟨(some 50), (.mv (.t 1)), (some ((some 39), false))⟩ :: ⟨(some 51), (.call (.fn 12) [(.t 49), (.t 50)]), (some ((some 39), false))⟩ :: ⟨(some 52), (.bin .neq .bool false (.t 45) (.t 51)), (some ((some 39), false))⟩ :: ⟨(some 53), (.pick (.t 39) (.k (.bool true)) (.t 52)), none⟩ :: r
def sbD : ACode := .drawE [4, 19, 25] [] [(4, 9), (19, 23)] (sb0 (sb1 (sb2 [])))
theorem sb_eq : L3_0 = .seq sbA (.seq (.block 1 [0, 1, 5] (.seq sbH (.seq sbD sbE))) sbC) := by kernel_rfl
noncomputable abbrev sbX (k : Nat) (Hs : List (Nat × Heap)) (r : List AOper) (e : Env) : Option (Env × Heap) := runDrawE T (C T) [4, 19, 25] [] [(4, 9), (19, 23)] k Hs r e []
def siA : ACode := (.seq (.region [⟨(some 21), (.mv (.t 5)), none⟩, ⟨(some 22), (.mv (.t 0)), none⟩, ⟨(some 23), (.len (.t 22)), none⟩, ⟨(some 24), (.bin .lss .bool false (.t 21) (.t 23)), none⟩]) (.cond (.t 24) .skip (.exit 0)))
def siE : ACode := (.cond (.t 50) (.seq (.region [⟨(some 4), (.mv (.k (.bool true))), none⟩]) .ret) .skip)
def siC : ACode := (.region [⟨(some 25), (.mv (.t 5)), none⟩, ⟨(some 26), (.bin .add .bool false (.t 25) (.k (.int .i64 1))), none⟩, ⟨(some 5), (.mv (.t 26)), none⟩])
def si0 (r : List AOper) : List AOper := ⟨(some 27), (.mv (.t 0)), none⟩ :: ⟨(some 28), (.mv (.t 5)), none⟩ :: ⟨(some 29), (.iaddr none 3 (.t 27) (.t 28)), none⟩ :: ⟨(some 30), (.load (some 3) (.t 29)), none⟩ :: ⟨(some 31), (.call (.fn 8) [(.t 30)]), none⟩ :: ⟨(some 32), (.un .not (.t 31)), none⟩ :: ⟨(some 33), (.mv (.t 32)), none⟩ :: r
def si1 (r : List AOper) : List AOper := ⟨(some 34), (.mv (.t 0)), (some ((some 33), false))⟩ :: ⟨(some 35), (.mv (.t 5)), (some ((some 33), false))⟩ :: ⟨(some 36), (.iaddr none 3 (.t 34) (.t 35)), (some ((some 33), false))⟩ :: ⟨(some 37), (.load (some 3) (.t 36)), (some ((some 33), false))⟩ :: ⟨(some 38), (.mv (.t 5)), (some ((some 33), false))⟩ :: ⟨(some 39), (.mv (.t 1)), (some ((some 33), false))⟩ :: ⟨(some 40), (.len (.t 39)), (some ((some 33), false))⟩ :: ⟨(some 41), (.bin .lss .bool false (.t 38) (.t 40)), (some ((some 33), false))⟩ :: ⟨(some 42), (.mv (.t 41)), (some ((some 33), false))⟩ :: r
def si2 (r : List AOper) : List AOper := ⟨(some 43), (.mv (.t 1)), (some ((some 42), true))⟩ :: ⟨(some 44), (.mv (.t 5)), (some ((some 42), true))⟩ :: ⟨(some 45), (.iaddr none 1 (.t 43) (.t 44)), (some ((some 42), true))⟩ :: ⟨(some 46), (.load none (.t 45)), (some ((some 42), true))⟩ :: ⟨(some 47), (.pick (.t 42) (.t 46) (.k (.bool false))), (some ((some 33), false))⟩ :: ⟨(some 48), (.call (.fn 12) [(.t 37), (.t 47)]), (some ((some 33), false))⟩ :: ⟨(some 49), (.un .not (.t 48)), (some ((some 33), false))⟩ :: ⟨(some 50), (.pick (.t 33) (.k (.bool true)) (.t 49)), none⟩ :: r
def siD : ACode := .drawE [4, 21] [] [] (si0 (si1 (si2 [])))
theorem si_eq : L4_0 = .seq siA (.seq (.block 1 [0, 1, 5] (.seq siD siE)) siC) := by kernel_rfl
noncomputable abbrev siX (k : Nat) (Hs : List (Nat × Heap)) (r : List AOper) (e : Env) : Option (Env × Heap) := runDrawE T (C T) [4, 21] [] [] k Hs r e []

theorem sb0_ok (hx : Sit.ext = some (pureP pBy)) (a : AV) (i : Nat) (r : Rsp) (fs bd : AV) (cs' : List AV) (e1 : iaK 3 [] a (.int .i64 i) = some (.ep (.int .i64 r.1 :: fs :: bd :: cs'), [])) (e2 : FV fs r.2.1) (e3 : BV bd r.2.2) (hF : FewP r) (R : List AOper) (K : Env → Option (Env × Heap)) (hK : ∀ e, sbX 10 [(4, [])] R e = K e)
    (e : Env) (bare : AV) (g0 : e.get 0 = a) (g1 : e.get 1 = bare) (g5 : e.get 5 = .int .i64 i) :
    ∃ e', sbX 0 [] (sb0 R) e = K e' ∧ e'.get 31 = .str (bytesR r) ∧ e'.get 35 = .agg [.int .i64 r.1, fs, bd] ∧ e'.get 0 = a ∧ e'.get 1 = bare ∧ e'.get 5 = .int .i64 i := by
  have c9 := bytes_snap hx hF.fits (resp_self r.1 fs bd r.2.1 r.2.2 e2 e3 61 []) e2 e3
  rw [show outB r.1 r.2.1 ++ r.2.2 = bytesR r from rfl] at c9
  have hob : ∀ H, obK H (slv (bytesR r)) = some (.str (bytesR r), H) := fun H => obK_sl
  generalize bytesR r = B at *
  simp only [sbX] at hK ⊢
  simp [sb0, g0, g5, e1, c9, hob, hK]
  exact ⟨_, rfl, rfl, rfl, g0, g1, g5⟩
theorem sb1_ok (a : AV) (i : Nat) (r : Rsp) (fs bd : AV) (cs' : List AV) (e1 : iaK 3 [] a (.int .i64 i) = some (.ep (.int .i64 r.1 :: fs :: bd :: cs'), [])) (e2 : FV fs r.2.1) (e3 : BV bd r.2.2) (hF : FewP r) (R : List AOper) (K : Env → Option (Env × Heap)) (hK : ∀ e, sbX 19 [(4, [])] R e = K e)
    (e : Env) (bare : AV) (h31 : e.get 31 = .str (bytesR r)) (h35 : e.get 35 = .agg [.int .i64 r.1, fs, bd]) (g0 : e.get 0 = a) (g1 : e.get 1 = bare) (g5 : e.get 5 = .int .i64 i) :
    ∃ e', sbX 10 [(4, [])] (sb1 R) e = K e' ∧ e'.get 39 = .bool false ∧ e'.get 43 = .agg [.int .i64 r.1, fs, bd] ∧ e'.get 44 = bare ∧ e'.get 0 = a ∧ e'.get 1 = bare ∧ e'.get 5 = .int .i64 i := by
  have c10 := rbytes_ok r.1 fs bd r.2.1 r.2.2 e2 e3 hF.fits []
  rw [show outB r.1 r.2.1 ++ r.2.2 = bytesR r from rfl] at c10
  have hob2 := (bytV_ok (bytesR r)).ob
  have hcl1 := e2.closed
  have hcl2 := e3.closed
  generalize bytesR r = B at *
  simp only [sbX] at hK ⊢
  simp [sb1, h31, h35, g0, g1, g5, e1, c10, hob2, closedL, AV.closed, hcl1, hcl2, hK]
  exact ⟨_, rfl, rfl, rfl, rfl, g0, g1, g5⟩
theorem sb2_ok (a : AV) (i : Nat) (r : Rsp) (fs bd : AV) (cs' : List AV) (e1 : iaK 3 [] a (.int .i64 i) = some (.ep (.int .i64 r.1 :: fs :: bd :: cs'), [])) (e2 : FV fs r.2.1) (e3 : BV bd r.2.2) (hF : FewP r)
    (e : Env) (bare : Bool) (h39 : e.get 39 = .bool false) (h43 : e.get 43 = .agg [.int .i64 r.1, fs, bd]) (h44 : e.get 44 = .bool bare) (g0 : e.get 0 = a) (g1 : e.get 1 = .bool bare) (g5 : e.get 5 = .int .i64 i) :
    ∃ e', sbX 19 [(4, [])] (sb2 []) e = some (e', []) ∧ e'.get 53 = .bool false ∧ e'.get 0 = a ∧ e'.get 1 = .bool bare ∧ e'.get 5 = .int .i64 i := by
  have hb := hF.body
  have c11 := right_ok r.1 fs bd r.2.1 r.2.2 e2 e3 hF.small (by omega) bare []
  have c12 := rright_ok r.1 fs bd r.2.1 r.2.2 e2 e3 hF.small (by omega) bare []
  generalize rightB r.1 r.2.1 r.2.2 bare = Q at *
  simp only [sbX]
  simp [sb2, h39, h43, h44, g0, g1, g5, e1, c11, c12]
theorem sb_round (hx : Sit.ext = some (pureP pBy)) (a : AV) (i : Nat) (hi : i < 1000) (r : Rsp) (fs bd : AV) (cs' : List AV) (e1 : iaK 3 [] a (.int .i64 i) = some (.ep (.int .i64 r.1 :: fs :: bd :: cs'), [])) (e2 : FV fs r.2.1) (e3 : BV bd r.2.2) (hF : FewP r) (bare : Bool) (lp : Env → Heap → XR) (e : Env) (g0 : e.get 0 = a) (g1 : e.get 1 = .bool bare) (g5 : e.get 5 = .int .i64 i) :
    seqK (seqK (blkK 1 [0, 1, 5] (seqK (X T sbD e []) (X T sbE))) (X T sbC)) (fun e' H' => lp [(0, e'.get 0), (1, e'.get 1), (5, e'.get 5)] H') = lp [(0, a), (1, .bool bare), (5, .int .i64 ((i : Int) + 1))] [] := by
  obtain ⟨f1, a0, a1, a2, a3, a4, a5⟩ := sb0_ok hx a i r fs bd cs' e1 e2 e3 hF (sb1 (sb2 [])) (fun e => sbX 10 [(4, [])] (sb1 (sb2 [])) e) (fun _ => rfl) e (.bool bare) g0 g1 g5
  obtain ⟨f2, b0, b1, b2, b3, b4, b5, b6⟩ := sb1_ok a i r fs bd cs' e1 e2 e3 hF (sb2 []) (fun e => sbX 19 [(4, [])] (sb2 []) e) (fun _ => rfl) f1 (.bool bare) a1 a2 a3 a4 a5
  obtain ⟨f3, c0, c1, c2, c3, c4⟩ := sb2_ok a i r fs bd cs' e1 e2 e3 hF f2 bare b1 b2 b3 b4 b5 b6
  have hD : X T sbD e [] = some (.normal, f3, []) := by
    unfold sbD
    rw [S_drawE]
    show opsK (sbX 0 [] (sb0 (sb1 (sb2 []))) e) = _
    rw [a0]
    show opsK (sbX 10 _ _ f1) = _
    rw [b0]
    show opsK (sbX 19 _ _ f2) = _
    rw [c0]
    rfl
  have hw : IntKind.i64.wrap ((i : Int) + 1) = (i : Int) + 1 := wr64 (by omega) (by omega)
  rw [hD]
  simp [sbE, sbC, c1, c2, c3, c4, hw]
set_option maxHeartbeats 2000000 in
theorem sb_loop (hx : Sit.ext = some (pureP pBy)) (a : AV) (L : List Rsp) (hL : LV a L) (hA : ∀ r ∈ L, ArgR r) (bare : Bool) (hll : L.length ≤ 10) : ∀ (k i : Nat), i + k = L.length →
    ∃ e', XL T [0, 1, 5] L3_0 [(0, a), (1, .bool bare), (5, .int .i64 i)] [] = some (if allFew (L.drop i) = true then .exit 0 else .ret, e', []) ∧ (allFew (L.drop i) = true → e'.get 0 = a) ∧ (allFew (L.drop i) = false → e'.get 4 = .bool true)
  | 0, i, hk => by
    have hd : L.drop i = [] := List.drop_eq_nil_of_le (by omega)
    have hlt : ¬ (i : Int) < (L.length : Int) := by omega
    have hlen := hL.len
    rw [XL_eq, hd, sb_eq]
    simp [sbA, hlen, hlt, allFew]
  | k + 1, i, hk => by
    have hlt : i < L.length := by omega
    have hltI : (i : Int) < (L.length : Int) := by omega
    have hlen := hL.len
    obtain ⟨fs, bd, cs', e1, e2, e3⟩ := hL.ia [] hlt
    have hAi := hA L[i] (List.getElem_mem hlt)
    have hd : L.drop i = L[i] :: L.drop (i + 1) := List.drop_eq_getElem_cons hlt
    have ih := sb_loop hx a L hL hA bare hll k (i + 1) (by omega)
    push_cast at ih
    have hcons : allFew (L.drop i) = (few25 L[i].2.1 L[i].2.2 && allFew (L.drop (i + 1))) := by rw [hd]; rfl
    rw [sb_eq] at ih
    rw [hcons, XL_eq, sb_eq]
    generalize XL T [0, 1, 5] (.seq sbA (.seq (.block 1 [0, 1, 5] (.seq sbH (.seq sbD sbE))) sbC)) = lp at *
    generalize allFew (L.drop (i + 1)) = R at *
    generalize L[i] = r at *
    have c8 := few25_ok r.1 fs bd r.2.1 r.2.2 e2 e3 hAi.huge hAi.body []
    cases hf : few25 r.2.1 r.2.2 with
    | false =>
      rw [hf] at c8
      simp (disch := omega) [sbA, sbH, hlen, hltI, e1, c8]
    | true =>
      rw [hf] at c8
      have hF := few_facts hf hAi
      have hr := fun e g0 g1 g5 => sb_round hx a i (by omega) r fs bd cs' e1 e2 e3 hF bare lp e g0 g1 g5
      simp (disch := omega) [sbA, sbH, hlen, hltI, e1, c8]
      rw [hr]
      · exact ih
      · rfl
      · rfl
      · rfl
set_option maxHeartbeats 1000000 in
theorem serialBytes (hx : Sit.ext = some (pureP pBy)) (a : AV) (L : List Rsp) (hL : LV a L) (hA : ∀ r ∈ L, ArgR r) (hn : L.length < 9223372036854775808) (bare : Bool) : C T 3 [a, .bool bare] [] = some (.bool true, []) := by
  rw [q3]
  have hs := hL.snap 63 []
  have hlen := hL.len
  have haw := awake_ok hx
  by_cases h10 : L.length ≤ 10
  · have h10I : ¬ (10 : Int) < L.length := by omega
    obtain ⟨e', x1, x2, x3⟩ := sb_loop hx a L hL hA bare h10 L.length 0 (by omega)
    simp only [List.drop_zero, Int.natCast_zero] at x1 x2 x3
    cases hf : allFew L with
    | false =>
      rw [hf] at x1
      simp only [Bool.false_eq_true, if_false] at x1
      simp (disch := omega) [d3, hs, hlen, haw, h10I, x1, x3 hf]
    | true =>
      rw [hf] at x1
      simp only [if_true] at x1
      have hall : ∀ r ∈ L, FewP r := fun r hr => few_facts (List.all_eq_true.1 hf r hr) (hA r hr)
      have hjl := joinL_len L fun r hr => (hall r hr).len
      have c13 := join_ok hx a L hL (fun r hr => (hall r hr).fits) (by omega) (by omega)
      have c14 := rjoin_ok a L hL (fun r hr => (hall r hr).fits) (by omega) (by omega)
      have hob := (bytV_ok (joinL L)).ob
      have hcl := hL.closed
      simp (disch := omega) [d3, hs, hlen, haw, h10I, x1, x2 hf, c13, c14, hob, closedL, hcl]
  · have h10I : (10 : Int) < L.length := by omega
    simp (disch := omega) [d3, hs, hlen, haw, h10I]
end Go.Eng.S
namespace Go.Eng.S
open Go Go.Eng
set_option linter.unusedSectionVars false
variable [Sit]
set_option maxRecDepth 20000
theorem si0_ok (a : AV) (i : Nat) (r : Rsp) (fs bd : AV) (cs' : List AV) (e1 : iaK 3 [] a (.int .i64 i) = some (.ep (.int .i64 r.1 :: fs :: bd :: cs'), [])) (f : Bool) (c8 : C T 8 [.agg [.int .i64 r.1, fs, bd]] [] = some (.bool f, [])) (R : List AOper) (K : Env → Option (Env × Heap)) (hK : ∀ e, siX 7 [] R e = K e)
    (e : Env) (bare : AV) (g0 : e.get 0 = a) (g1 : e.get 1 = bare) (g5 : e.get 5 = .int .i64 i) :
    ∃ e', siX 0 [] (si0 R) e = K e' ∧ e'.get 33 = .bool (!f) ∧ e'.get 0 = a ∧ e'.get 1 = bare ∧ e'.get 5 = .int .i64 i := by
  simp only [siX] at hK ⊢
  simp [si0, g0, g5, e1, c8, hK]
  exact ⟨_, rfl, rfl, g0, g1, g5⟩
theorem si1_ok (a : AV) (i : Nat) (r : Rsp) (fs bd : AV) (cs' : List AV) (e1 : iaK 3 [] a (.int .i64 i) = some (.ep (.int .i64 r.1 :: fs :: bd :: cs'), [])) (ba : AV) (bare : List Bool) (hba : BoV ba bare) (R : List AOper) (K : Env → Option (Env × Heap)) (hK : ∀ e, siX 16 [] R e = K e)
    (e : Env) (h33 : e.get 33 = .bool false) (g0 : e.get 0 = a) (g1 : e.get 1 = ba) (g5 : e.get 5 = .int .i64 i) :
    ∃ e', siX 7 [] (si1 R) e = K e' ∧ e'.get 33 = .bool false ∧ e'.get 37 = .agg [.int .i64 r.1, fs, bd] ∧ e'.get 42 = .bool (decide (i < bare.length)) ∧ e'.get 0 = a ∧ e'.get 1 = ba ∧ e'.get 5 = .int .i64 i := by
  have hlen := hba.len
  have hd : decide ((i : Int) < bare.length) = decide (i < bare.length) := by
    by_cases h : i < bare.length
    · have : (i : Int) < bare.length := by omega
      simp [h]
    · have : ¬ (i : Int) < bare.length := by omega
      simp [h]
  simp only [siX] at hK ⊢
  simp [si1, h33, g0, g1, g5, e1, hlen, hK]
  exact ⟨_, rfl, h33, rfl, rfl, g0, g1, g5⟩
theorem si2_ok (a : AV) (i : Nat) (r : Rsp) (fs bd : AV) (ba : AV) (bare : List Bool) (hba : BoV ba bare) (q : Bool) (c12 : C T 12 [.agg [.int .i64 r.1, fs, bd], .bool (bare.getD i false)] [] = some (.bool q, []))
    (e : Env) (h33 : e.get 33 = .bool false) (h37 : e.get 37 = .agg [.int .i64 r.1, fs, bd]) (h42 : e.get 42 = .bool (decide (i < bare.length))) (g0 : e.get 0 = a) (g1 : e.get 1 = ba) (g5 : e.get 5 = .int .i64 i) :
    ∃ e', siX 16 [] (si2 []) e = some (e', []) ∧ e'.get 50 = .bool (!q) ∧ e'.get 0 = a ∧ e'.get 1 = ba ∧ e'.get 5 = .int .i64 i := by
  simp only [siX]
  by_cases h : i < bare.length
  · have hbi := hba.ia [] h
    have hg : bare.getD i false = bare[i] := by simp [h]
    rw [hg] at c12
    rw [show decide (i < bare.length) = true by simpa using h] at h42
    simp [si2, h33, h37, h42, g0, g1, g5, hbi, c12]
  · have hg : bare.getD i false = false := by simp [h]
    rw [hg] at c12
    rw [show decide (i < bare.length) = false by simpa using h] at h42
    simp [si2, h33, h37, h42, g0, g1, g5, c12]
theorem si12_ok (e : Env) (h33 : e.get 33 = .bool true) : ∃ e', siX 7 [] (si1 (si2 [])) e = some (e', []) ∧ e'.get 50 = .bool true := by
  simp only [siX]
  simp [si1, si2, h33]
theorem si_draw (a : AV) (i : Nat) (r : Rsp) (fs bd : AV) (cs' : List AV) (e1 : iaK 3 [] a (.int .i64 i) = some (.ep (.int .i64 r.1 :: fs :: bd :: cs'), [])) (e2 : FV fs r.2.1) (e3 : BV bd r.2.2) (hA : ArgR r) (ba : AV) (bare : List Bool) (hba : BoV ba bare) (e : Env) (g0 : e.get 0 = a) (g1 : e.get 1 = ba) (g5 : e.get 5 = .int .i64 i) :
    ∃ e', X T siD e [] = some (.normal, e', []) ∧ e'.get 50 = .bool (!(few25 r.2.1 r.2.2 && rightB r.1 r.2.1 r.2.2 (bare.getD i false))) ∧ (few25 r.2.1 r.2.2 = true → e'.get 0 = a ∧ e'.get 1 = ba ∧ e'.get 5 = .int .i64 i) := by
  have c8 := few25_ok r.1 fs bd r.2.1 r.2.2 e2 e3 hA.huge hA.body []
  obtain ⟨f1, a0, a1, a2, a3, a4⟩ := si0_ok a i r fs bd cs' e1 _ c8 (si1 (si2 [])) (fun e => siX 7 [] (si1 (si2 [])) e) (fun _ => rfl) e ba g0 g1 g5
  have hD : X T siD e [] = opsK (siX 7 [] (si1 (si2 [])) f1) := by
    unfold siD
    rw [S_drawE]
    show opsK (siX 0 [] (si0 (si1 (si2 []))) e) = _
    rw [a0]
  cases hf : few25 r.2.1 r.2.2 with
  | false =>
    rw [hf] at a1
    obtain ⟨f2, b0, b1⟩ := si12_ok f1 a1
    refine ⟨f2, ?_, by simpa using b1, fun h => by cases h⟩
    rw [hD, b0]
    rfl
  | true =>
    rw [hf] at a1
    have hF := few_facts hf hA
    have hb := hF.body
    have c12 := rright_ok r.1 fs bd r.2.1 r.2.2 e2 e3 hF.small (by omega) (bare.getD i false) []
    obtain ⟨f2, b0, b1, b2, b3, b4, b5, b6⟩ := si1_ok a i r fs bd cs' e1 ba bare hba (si2 []) (fun e => siX 16 [] (si2 []) e) (fun _ => rfl) f1 a1 a2 a3 a4
    obtain ⟨f3, d0, d1, d2, d3, d4⟩ := si2_ok a i r fs bd ba bare hba _ c12 f2 b1 b2 b3 b4 b5 b6
    refine ⟨f3, ?_, by simpa using d1, fun _ => ⟨d2, d3, d4⟩⟩
    rw [hD, b0]
    show opsK (siX 16 [] (si2 []) f2) = _
    rw [d0]
    rfl
theorem si_round (a : AV) (i : Nat) (hi : i < 1000) (r : Rsp) (fs bd : AV) (cs' : List AV) (e1 : iaK 3 [] a (.int .i64 i) = some (.ep (.int .i64 r.1 :: fs :: bd :: cs'), [])) (e2 : FV fs r.2.1) (e3 : BV bd r.2.2) (hA : ArgR r) (ba : AV) (bare : List Bool) (hba : BoV ba bare) (lp : Env → Heap → XR) (e : Env) (g0 : e.get 0 = a) (g1 : e.get 1 = ba) (g5 : e.get 5 = .int .i64 i) :
    ∃ e2, e2.get 4 = .bool true ∧ seqK (seqK (blkK 1 [0, 1, 5] (seqK (X T siD e []) (X T siE))) (X T siC)) (fun e' H' => lp [(0, e'.get 0), (1, e'.get 1), (5, e'.get 5)] H') = if (few25 r.2.1 r.2.2 && rightB r.1 r.2.1 r.2.2 (bare.getD i false)) = true then lp [(0, a), (1, ba), (5, .int .i64 ((i : Int) + 1))] [] else some (.ret, e2, []) := by
  obtain ⟨f, h0, h1, h2⟩ := si_draw a i r fs bd cs' e1 e2 e3 hA ba bare hba e g0 g1 g5
  have hw : IntKind.i64.wrap ((i : Int) + 1) = (i : Int) + 1 := wr64 (by omega) (by omega)
  rw [h0]
  cases hq : few25 r.2.1 r.2.2 && rightB r.1 r.2.1 r.2.2 (bare.getD i false) with
  | false =>
    rw [hq] at h1
    simp [siE, h1]
  | true =>
    rw [hq] at h1
    obtain ⟨k0, k1, k5⟩ := h2 (by simp only [Bool.and_eq_true] at hq; exact hq.1)
    exact ⟨[(4, .bool true)], rfl, by simp [siE, siC, h1, k0, k1, k5, hw]⟩
def okL (bare : List Bool) : Nat → List Rsp → Bool
  | _, [] => true
  | i, r :: L => (few25 r.2.1 r.2.2 && rightB r.1 r.2.1 r.2.2 (bare.getD i false)) && okL bare (i + 1) L
theorem okL_at (bare : List Bool) : ∀ (L : List Rsp) (i : Nat), okL bare i L = true → ∀ j (hj : j < L.length), few25 L[j].2.1 L[j].2.2 = true ∧ rightB L[j].1 L[j].2.1 L[j].2.2 (bare.getD (i + j) false) = true
  | r :: L, i, h, 0, _ => by
    simp only [okL, Bool.and_eq_true] at h
    exact h.1
  | r :: L, i, h, j + 1, hj => by
    simp only [okL, Bool.and_eq_true] at h
    have := okL_at bare L (i + 1) h.2 j (by simpa using hj)
    rw [show i + (j + 1) = i + 1 + j by omega]
    simpa using this
theorem si_loop (a : AV) (L : List Rsp) (hL : LV a L) (hA : ∀ r ∈ L, ArgR r) (ba : AV) (bare : List Bool) (hba : BoV ba bare) (hll : L.length ≤ 10) : ∀ (k i : Nat), i + k = L.length →
    ∃ e', XL T [0, 1, 5] L4_0 [(0, a), (1, ba), (5, .int .i64 i)] [] = some (if okL bare i (L.drop i) = true then .exit 0 else .ret, e', []) ∧ (okL bare i (L.drop i) = true → e'.get 0 = a ∧ e'.get 1 = ba) ∧ (okL bare i (L.drop i) = false → e'.get 4 = .bool true)
  | 0, i, hk => by
    have hd : L.drop i = [] := List.drop_eq_nil_of_le (by omega)
    have hlt : ¬ (i : Int) < (L.length : Int) := by omega
    have hlen := hL.len
    rw [XL_eq, hd, si_eq]
    simp [siA, hlen, hlt, okL]
  | k + 1, i, hk => by
    have hlt : i < L.length := by omega
    have hltI : (i : Int) < (L.length : Int) := by omega
    have hlen := hL.len
    obtain ⟨fs, bd, cs', e1, e2, e3⟩ := hL.ia [] hlt
    have hAi := hA L[i] (List.getElem_mem hlt)
    have hd : L.drop i = L[i] :: L.drop (i + 1) := List.drop_eq_getElem_cons hlt
    have ih := si_loop a L hL hA ba bare hba hll k (i + 1) (by omega)
    push_cast at ih
    rw [si_eq] at ih
    rw [hd, okL, XL_eq, si_eq]
    generalize XL T [0, 1, 5] (.seq siA (.seq (.block 1 [0, 1, 5] (.seq siD siE)) siC)) = lp at *
    generalize okL bare (i + 1) (L.drop (i + 1)) = R at *
    generalize L[i] = r at *
    have hr := fun e g0 g1 g5 => si_round a i (by omega) r fs bd cs' e1 e2 e3 hAi ba bare hba lp e g0 g1 g5
    generalize (few25 r.2.1 r.2.2 && rightB r.1 r.2.1 r.2.2 (bare.getD i false)) = Q at *
    obtain ⟨q1, q2, q3⟩ := hr [(24, .bool true), (23, .int .i64 L.length), (22, a), (21, .int .i64 i), (0, a), (1, ba), (5, .int .i64 i)] rfl rfl rfl
    simp (disch := omega) [siA, hlen, hltI]
    simp only [q3]
    cases Q with
    | false => simp [q2]
    | true => simpa using ih
set_option maxHeartbeats 1000000 in
theorem serialInverse (hx : Sit.ext = some (pureP pBy)) (a : AV) (L : List Rsp) (hL : LV a L) (hA : ∀ r ∈ L, ArgR r) (hn : L.length < 9223372036854775808) (ba : AV) (bare : List Bool) (hba : BoV ba bare) (hbn : bare.length < 9223372036854775808) : C T 4 [a, ba] [] = some (.bool true, []) := by
  rw [q4]
  have hs := hL.snap 63 []
  have hs2 := hba.snap 63 []
  have hlen := hL.len
  have hlen2 := hba.len
  have haw := awake_ok hx
  by_cases h10 : L.length ≤ 10
  · have h10I : ¬ (10 : Int) < L.length := by omega
    by_cases hb10 : bare.length ≤ 10
    · have hb10I : ¬ (10 : Int) < bare.length := by omega
      obtain ⟨e', x1, x2, x3⟩ := si_loop a L hL hA ba bare hba h10 L.length 0 (by omega)
      simp only [List.drop_zero, Int.natCast_zero] at x1 x2 x3
      cases hf : okL bare 0 L with
      | false =>
        rw [hf] at x1
        simp only [Bool.false_eq_true, if_false] at x1
        simp (disch := omega) [d4, hs, hs2, hlen, hlen2, haw, h10I, hb10I, x1, x3 hf]
      | true =>
        rw [hf] at x1
        simp only [if_true] at x1
        obtain ⟨y0, y1⟩ := x2 hf
        have hok := okL_at bare L 0 hf
        have hall : ∀ r ∈ L, FewP r := fun r hr => by
          obtain ⟨j, hj, rfl⟩ := List.mem_iff_getElem.1 hr
          exact few_facts (hok j hj).1 (hA _ hr)
        have hjl := joinL_len L fun r hr => (hall r hr).len
        have c14 := rjoin_ok a L hL (fun r hr => (hall r hr).fits) (by omega) (by omega)
        have c15 := fun H => split_ok hx (bytV (joinL L)) (joinL L) (bytV_ok _) (by omega) ba bare hba (by omega) H
        have hsp := split_right bare L (joinL L).length 0 (Nat.le_refl _) (fun j hj => (rightB_iff _ _).1 (hok j hj).2)
        rw [hsp] at c15
        have c16 := same26_ok (rspsV L) a L L (LV.rsps L) hL (by omega) (by omega) (fun r hr => by have := (hall r hr).small.len; omega) (fun r hr => by have := (hall r hr).small.len; omega)
        simp only [decide_true] at c16
        simp (disch := omega) [d4, hs, hs2, hlen, hlen2, haw, h10I, hb10I, x1, y0, y1, c14, c15, splV, c16]
    · have hb10I : (10 : Int) < bare.length := by omega
      simp (disch := omega) [d4, hs, hs2, hlen, hlen2, haw, h10I, hb10I]
  · have h10I : (10 : Int) < L.length := by omega
    simp (disch := omega) [d4, hs, hs2, hlen, haw, h10I]
theorem ftx_cnt : ∀ l : List Fld, l.length ≤ (ftx l).length
  | [] => by simp
  | f :: l => by
    have ih := ftx_cnt l
    rw [ftx_cons]
    simp only [List.length_append, List.length_cons, fldT]
    omega
theorem ftx_out (st : Int) (l : List Fld) : (ftx l).length ≤ (outB st l).length := by
  unfold outB
  simp only [List.length_append]
  omega
set_option maxHeartbeats 2000000 in
theorem serialSplits (hx : Sit.ext = some (pureP pBy)) (a : AV) (b : Seg) (hb : BV a b) (hn : b.length < 9223372036854775808) (ba : AV) (bare : List Bool) (hba : BoV ba bare) (hbn : bare.length < 9223372036854775808) : C T 5 [a, ba] [] = some (.bool true, []) := by
  rw [q5]
  have hs := hb.snap 63 []
  have hs2 := hba.snap 63 []
  have hlen := hb.len
  have hlen2 := hba.len
  have haw := awake_ok hx
  by_cases h10 : b.length ≤ 1500
  · have h10I : ¬ (1500 : Int) < b.length := by omega
    by_cases hb10 : bare.length ≤ 20
    · have hb10I : ¬ (20 : Int) < bare.length := by omega
      have c15 := fun H => split_ok hx a b hb (by omega) ba bare hba (by omega) H
      have c17 := fun H => rsplit_ok a b hb (by omega) ba bare hba (by omega) H
      rw [← split_eq] at c17
      have hsd := split_sound bare b.length 0 b
      cases ho : splitL oneL bare b.length 0 b with
      | none =>
        rw [ho] at c15 c17
        have c18 := IsP_ok
        simp (disch := omega) [d5, hs, hs2, hlen, hlen2, haw, h10I, hb10I, c15, c17, splV, splVW, c18]
      | some L =>
        rw [ho] at c15 c17
        obtain ⟨s1, s2⟩ := hsd L ho
        have hsz : ∀ r ∈ L, Fits r.1 r.2.1 r.2.2 ∧ r.2.1.length < 1000000000 := fun r hr => by
          obtain ⟨t1, t2⟩ := s2 r hr
          have u1 := ftx_cnt r.2.1
          have u2 := ftx_out r.1 r.2.1
          unfold bytesR at t2
          rw [List.length_append] at t2
          exact ⟨⟨by omega, by omega, by omega, by omega⟩, by omega⟩
        have hll : L.length ≤ b.length := by
          have : ∀ M : List Rsp, M.length ≤ (joinL M).length := by
            intro M
            induction M with
            | nil => simp
            | cons r M ih =>
              have := List.length_pos_iff.2 (bytesR_ne r)
              rw [joinL_cons]
              simp only [List.length_append, List.length_cons]
              omega
          have := this L
          rw [s1] at this
          exact this
        have c16 := same26_ok (rspsV L) (rspsW L) L L (LV.rsps L) (LV.rspsW L) (by omega) (by omega) (fun r hr => (hsz r hr).2) (fun r hr => (hsz r hr).2)
        simp only [decide_true] at c16
        have c13 := join_ok hx (rspsV L) L (LV.rsps L) (fun r hr => (hsz r hr).1) (by omega) (by rw [s1]; omega)
        rw [s1] at c13
        have hob := (bytV_ok b).ob
        have hob2 := hb.ob
        simp (disch := omega) [d5, hs, hs2, hlen, hlen2, haw, h10I, hb10I, c15, c17, splV, splVW, c16, c13, hob, hob2]
    · have hb10I : (20 : Int) < bare.length := by omega
      simp (disch := omega) [d5, hs, hs2, hlen, hlen2, haw, h10I, hb10I]
  · have h10I : (1500 : Int) < b.length := by omega
    simp (disch := omega) [d5, hs, hs2, hlen, haw, h10I]
end Go.Eng.S
namespace Go.Eng.S
open Go Go.Eng
set_option linter.unusedSectionVars false
variable [Sit]
set_option maxRecDepth 20000
theorem bytV_ne {b : Seg} (h : b ≠ []) : bytV b = slv b := by
  unfold bytV accV
  rw [if_neg (by simpa using h)]
theorem short_none {r : Rsp} (h : RightP r false) : splitL oneL [] ((bytesR r).take ((bytesR r).length - 1)).length 0 ((bytesR r).take ((bytesR r).length - 1)) = none := by
  have hb4 : 4 ≤ (bytesR r).length := by unfold bytesR outB fstL; simp
  have hl : ((bytesR r).take ((bytesR r).length - 1)).length = (bytesR r).length - 1 := by simp
  have hone : oneL ((bytesR r).take ((bytesR r).length - 1)) false = none := by
    cases ho : oneL ((bytesR r).take ((bytesR r).length - 1)) false with
    | none => rfl
    | some p =>
      obtain ⟨s, n⟩ := p
      obtain ⟨a1, a2⟩ := oneL_sound ho
      obtain ⟨n1, n2⟩ := oneL_n ho
      rw [hl] at n2
      rw [List.take_take, Nat.min_eq_left n2] at a2
      have h1 := oneL_right a1 ((bytesR r).drop n)
      rw [a2, List.take_append_drop] at h1
      have h2 := oneL_right h []
      rw [List.append_nil, h1] at h2
      have h3 : ((bytesR r).take n).length = (bytesR r).length := by
        have := (Prod.mk.inj (Option.some.inj h2)).2
        exact this
      rw [List.length_take] at h3
      omega
  have hne : (bytesR r).take ((bytesR r).length - 1) ≠ [] := fun e => by rw [e] at hl; simp at hl; omega
  rw [hl]
  obtain ⟨k, hk⟩ : ∃ k, (bytesR r).length - 1 = k + 1 := ⟨(bytesR r).length - 2, by omega⟩
  rw [hk] at hone hne ⊢
  rw [splitL, if_neg hne]
  simp only [List.getD_nil]
  rw [hone]
theorem long_none {r : Rsp} (h : RightP r false) (c : UInt8) : splitL oneL [] (bytesR r ++ [c]).length 0 (bytesR r ++ [c]) = none := by
  have hb4 : ∀ s : Rsp, 4 ≤ (bytesR s).length := fun s => by unfold bytesR outB fstL; simp
  have h1 := oneL_right h [c]
  have hc : oneL [c] false = none := by
    cases ho : oneL [c] false with
    | none => rfl
    | some p =>
      obtain ⟨s, n⟩ := p
      obtain ⟨a1, a2⟩ := oneL_sound ho
      have := congrArg List.length a2
      have h4 := hb4 s
      simp only [List.length_take, List.length_cons, List.length_nil] at this
      omega
  have hl : (bytesR r ++ [c]).length = (bytesR r).length + 1 := by simp
  have hb := hb4 r
  rw [hl, splitL, if_neg (by simp)]
  simp only [List.getD_nil]
  rw [h1]
  dsimp only
  rw [List.drop_left]
  obtain ⟨k, hk⟩ : ∃ k, (bytesR r).length = k + 1 := ⟨(bytesR r).length - 1, by omega⟩
  rw [hk, splitL, if_neg (by simp)]
  simp only [List.getD_nil]
  rw [hc]
  rfl
theorem bslice3 (b : Seg) (H : Heap) : slK H (slv b) none (some (.int .i64 b.length)) (some (.int .i64 b.length)) = some (.sl true b.length 1 (bcells b), H) := by
  have e1 : bnd b.length (.int .i64 (b.length : Nat)) = some b.length := bnd_n (Nat.le_refl _)
  have e5 : (bcells b).take b.length = bcells b := List.take_of_length_le (by simp [bcells])
  simp [slK, aslice, bndR, bndO, e5]
set_option maxHeartbeats 2000000 in
theorem serialCuts (hx : Sit.ext = some (pureP pBy)) (r : Rsp) (fs bd : AV) (hf : FV fs r.2.1) (hb : BV bd r.2.2) (hA : ArgR r) (c : UInt8) : C T 6 [.agg [.int .i64 r.1, fs, bd], .int .u8 c.toNat] [] = some (.bool true, []) := by
  rw [q6]
  have hs1 := hf.snap 62 []
  have hs2 := hb.snap 62 []
  have hc1 := hf.cell
  have hc2 := hb.cell
  have haw := awake_ok hx
  have hg : hget [rowR r.1 fs bd] 0 0 3 0 = some [.int .i64 r.1, fs, bd] := rfl
  have c8 := few25_ok r.1 fs bd r.2.1 r.2.2 hf hb hA.huge hA.body
  cases hfw : few25 r.2.1 r.2.2 with
  | false =>
    rw [hfw] at c8
    simp [d6, hs1, hs2, hc1, hc2, haw, hg, c8]
  | true =>
    rw [hfw] at c8
    have hF := few_facts hfw hA
    have hbb := hF.body
    have c12 := rright_ok r.1 fs bd r.2.1 r.2.2 hf hb hF.small (by omega) false
    cases hrt : rightB r.1 r.2.1 r.2.2 false with
    | false =>
      rw [hrt] at c12
      simp [d6, hs1, hs2, hc1, hc2, haw, hg, c8, c12]
    | true =>
      rw [hrt] at c12
      have hR : RightP r false := (rightB_iff r false).1 hrt
      have c10 := rbytes_ok r.1 fs bd r.2.1 r.2.2 hf hb hF.fits
      rw [show outB r.1 r.2.1 ++ r.2.2 = bytesR r from rfl, bytV_ne (bytesR_ne r)] at c10
      have hsh := short_none hR
      have hlo := long_none hR c
      have hlen := hF.len
      have hpos : 0 < (bytesR r).length := List.length_pos_iff.2 (bytesR_ne r)
      generalize bytesR r = B at *
      have hl : ∀ H, lenK H (slv B) = some (.int .i64 B.length, H) := BV.len (.inr rfl)
      have hb0 := bslice0 B (B.length - 1) (by omega)
      rw [show ((B.length - 1 : Nat) : Int) = (B.length : Int) - 1 by omega] at hb0
      have hb3 := bslice3 B
      have hw : IntKind.i64.wrap ((B.length : Int) - 1) = (B.length : Int) - 1 := wr64 (by omega) (by omega)
      have hsl : (B.take (B.length - 1)).length < 1000000 := by simp; omega
      have c15 := fun H => split_ok hx (slv (B.take (B.length - 1))) _ (.inr rfl) hsl nls [] (.inl ⟨rfl, rfl⟩) (by decide) H
      rw [hsh] at c15
      have hap : aappend .no [rowR r.1 fs bd] 1 1 (.sl true B.length 1 (bcells B)) 1 [.int .u8 c.toNat] = some (.ms 1 0 (B.length + 1) 1 0, [rowR r.1 fs bd, ⟨bcells B ++ [.int .u8 c.toNat], 0, true, .no⟩]) := by
        have : (B.length + 1) * (1 + 1) ≤ LIM := by unfold LIM; omega
        unfold aappend
        simp [this, hnewK]
      have c15b : C T 15 [.ms 1 0 (B.length + 1) 1 0, nls] [rowR r.1 fs bd, ⟨bcells B ++ [.int .u8 c.toNat], 0, true, .no⟩] = some (.tup [nls, badV], [rowR r.1 fs bd, ⟨bcells B ++ [.int .u8 c.toNat], 0, false, .no⟩]) := by
        have he : bcells B ++ [AV.int .u8 (c.toNat : Nat)] = bcells (B ++ [c]) := by rw [bcells_app]; rfl
        rw [he]
        have hln : (B ++ [c]).length = B.length + 1 := by simp
        refine pure_snap fd15 rfl (args' := [slv (B ++ [c]), nls]) ?_ ?_ ?_
        · have hgm : hget [rowR r.1 fs bd, ⟨bcells (B ++ [c]), 0, true, .no⟩] 1 0 ((B.length + 1) * 1) 0 = some (bcells (B ++ [c])) := by
            rw [hget_at (cs := bcells (B ++ [c])) (l := true) (kd := .no) rfl, if_pos (by rw [bcells_len, hln]; omega), List.drop_zero, List.take_of_length_le (by rw [bcells_len, hln]; omega)]
          rw [mapS_cons, snap_ms, hgm]
          simp only
          rw [bcells_snap 62]
          simp only
          rw [mapS_cons, snap_cst]
          simp only [mapS_nil]
          rw [← hln]
          rfl
        · rw [mapS_cons, BV.snap (.inr rfl) 63]
          simp only
          rw [mapS_cons, snap_cst]
          simp only [mapS_nil]
        · intro H
          have := split_ok hx (slv (B ++ [c])) _ (.inr rfl) (by rw [hln]; omega) nls [] (.inl ⟨rfl, rfl⟩) (by decide) H
          rw [hlo] at this
          exact this
      have c18 := IsP_ok
      simp (disch := omega) [d6, hs1, hs2, hc1, hc2, haw, hg, c8, c12, c10, hl, hw, hb0, c15, splV, hb3, reps, fillP, splice, hap, c15b, c18]
end Go.Eng.S
