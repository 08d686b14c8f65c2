/- The call of Bytes. Bytes as an entry of the table. No condition. -/
import Derived.Test.YtgjgcjhmaibblaaGreatDoorM4
import Derived.Test.YtgjgcjhmaibblaaGreatDoorTc
namespace Go.Eng.S
open Go Go.Eng
set_option linter.unusedSectionVars false
variable [Sit]
set_option maxRecDepth 20000
def as0 : List AOper := [⟨some 1, .box (.t 0), none⟩, ⟨some 2, .mv (.k nls), none⟩]
def as1 : List AOper := [⟨some 3, .alloc .no [nls], none⟩]
def as2 : List AOper := [⟨some 5, .load (some 3) (.t 1), none⟩, ⟨some 6, .call (.fn 20) [.t 5], none⟩]
def as5 : List AOper := [⟨some 12, .load none (.t 3), none⟩, ⟨some 13, .faddr 2 (.t 1), none⟩, ⟨some 14, .load none (.t 13), none⟩, ⟨some 15, .append .no 1 1 (.t 12) (.t 14), none⟩, ⟨some 2, .mv (.t 15), none⟩]
theorem parts_ok (st : Int) (fs bd : AV) (h1 : fs.isCell = true) (h2 : bd.isCell = true) (H : Heap) : C T 20 [.agg [.int .i64 st, fs, bd]] H = some (.fn (.func 37) [] [.ptr H.length 0 0], H ++ [rowR st fs bd]) := by
  rw [q20]
  simp [d20, h1, h2, hnew]
theorem snap_out {H : Heap} {v : AV} {acc : Seg} (h : Out H v acc) (h0 : acc ≠ []) : ∃ H', snap 64 H v = some (.sl false acc.length 1 (bcells acc), H') := by
  have hm : ∀ (m : Seg) (H : Heap), mapS (snap 63) H (bcells m) = some (bcells m, H) := by
    intro m
    induction m with
    | nil => intro H; rfl
    | cons s m ih =>
      intro H
      have e : bcells (s :: m) = .int .u8 (s.toNat : Nat) :: bcells m := rfl
      rw [e]
      simp [mapS, ih]
  rcases h with ⟨e, _⟩ | ⟨k, g, rfl, e2, e3, e4⟩
  · exact absurd e h0
  · refine ⟨freeze H k, ?_⟩
    have hg : hget H k 0 (acc.length * 1) g = some (bcells acc) := by
      rw [hget_at e4, if_pos (by simp [bcells]), List.drop_zero, List.take_of_length_le (by simp [bcells])]
    unfold snap
    simp only [hg, hm]
theorem bytes_calls (hx : Sit.ext = none) {c : Cx} (hc : OK T c) (hA : c.A = []) {st : Int} {fs bd : AV} {l : List Fld} {b : Seg} (s1 : -9223372036854775808 ≤ st) (s2 : st < 9223372036854775808) (hl : l.length < 100000000) (hb : (outB st l).length + b.length < 1800000000)
    (hfs : (l = [] ∧ fs = nls) ∨ fs = .sl false l.length 2 (fcells l)) (hbd : (b = [] ∧ bd = nls) ∨ bd = .sl false b.length 1 (bcells b)) {args' : Array Value} (ha : VRs c [.agg [.int .i64 st, fs, bd]] args'.toList) :
    Calls Go.Proofs.Tryz.prog 9 args' c.w fun e w' => ∃ y c', e = .returned y ∧ w' = c'.w ∧ Ext c c' ∧ OK T c' ∧ ∃ r1 H3, VR c' r1 y ∧ snap 64 c'.A r1 = some (.sl false (outB st l ++ b).length 1 (bcells (outB st l ++ b)), H3) := by
  have hT := tab_ok2
  have hcf := C_ok hT (fn_ok fun p h => by rw [hx] at h; cases h)
  have hfc : fs.isCell = true := by rcases hfs with ⟨_, rfl⟩ | rfl <;> rfl
  have hbc : bd.isCell = true := by rcases hbd with ⟨_, rfl⟩ | rfl <;> rfl
  have hK : ∀ c1 c2, Ext c c1 → Ext c1 c2 → OK T c2 → Ext c c2 := fun _ _ h1 h2 _ => h1.trans h2
  refine (callsIn_wide (n := 0)).1 (callsIn_of_wp_marks Go.Proofs.Tryz.func9 rfl trivial ?_ rfl)
  refine wpIn_seq ?_
  have r0 : runOpsB T (C T) 0 noY as0 (argEnv 0 [.agg [.int .i64 st, fs, bd]]) c.A = some ([(2, nls), (1, .ptr 0 0 0), (0, .agg [.int .i64 st, fs, bd])], [rowR st fs bd]) := by
    rw [hA]
    simp [as0, runOpsB, argEnv, wantedA, yArgs, putA, aop, ev, Env.get, AV.cells, hfc, hbc, hnew]
  refine regB (ro := none) (l := 0) (K := fun c' => Ext c c') (nt := 16) hT hcf (by kernel_rfl) hK noY_ok (al := as0) (by kernel_rfl) (Ext.refl c) hc (argEnv_ok ha _) (by simp; omega) r0 ?_
  intro a1 c1 _ k1 o1 A1 e1 z1 d1
  refine wpIn_seq ?_
  have r1 : runOpsB T (C T) 0 noY as1 [(2, nls), (1, .ptr 0 0 0), (0, .agg [.int .i64 st, fs, bd])] c1.A = some ([(3, .ptr 1 0 0), (2, nls), (1, .ptr 0 0 0), (0, .agg [.int .i64 st, fs, bd])], [rowR st fs bd, ⟨[nls], 0, true, .no⟩]) := by
    rw [A1]
    simp [as1, runOpsB, wantedA, yArgs, putA, aop, hnew]
  refine regB (ro := none) (l := 0) (K := fun c' => Ext c c') (nt := 16) hT hcf (by kernel_rfl) hK noY_ok (al := as1) (by kernel_rfl) k1 o1 e1 z1 r1 ?_
  intro a2 c2 _ k2 o2 A2 e2 z2 d2
  refine wpIn_seq (wpIn_seq ?_)
  have hg2 : hget [rowR st fs bd, ⟨[nls], 0, true, .no⟩] 0 0 3 0 = some [.int .i64 st, fs, bd] := rfl
  have hpt := parts_ok st fs bd hfc hbc
  have r2 : runOpsB T (C T) 0 noY as2 [(3, .ptr 1 0 0), (2, nls), (1, .ptr 0 0 0), (0, .agg [.int .i64 st, fs, bd])] c2.A = some ([(6, .fn (.func 37) [] [.ptr 2 0 0]), (5, .agg [.int .i64 st, fs, bd]), (3, .ptr 1 0 0), (2, nls), (1, .ptr 0 0 0), (0, .agg [.int .i64 st, fs, bd])], [rowR st fs bd, ⟨[nls], 0, true, .no⟩, rowR st fs bd]) := by
    rw [A2]
    simp [as2, runOpsB, wantedA, yArgs, putA, aop, ev, Env.get, hg2, applyF, hpt]
  refine regB (ro := none) (l := 0) (K := fun c' => Ext c c') (nt := 16) hT hcf (by kernel_rfl) hK noY_ok (al := as2) (by kernel_rfl) k2 o2 e2 z2 r2 ?_
  intro a3 c3 _ k3 o3 A3 e3 z3 d3
  refine wpIn_block ?_
  have hJ3 : J st fs bd [] c3.A := by
    rw [A3]
    exact ⟨nls, rfl, rfl, rfl, .inl ⟨rfl, rfl⟩⟩
  have hg6 : VR c3 (.fn (.func 37) [] [.ptr 2 0 0]) (a3.eval (.tmp 6)) := e3 6
  refine rangeB (nt := 16) (p := 7) (G := 37) (asA := asA) (asR := asR) (PH := J st fs bd (outB st l)) hT hcf (by kernel_rfl) (by kernel_rfl) (by kernel_rfl) (by kernel_rfl) (by omega) Go.Proofs.Tryz.call37 o3 e3 z3 hg6 ?_ ?_
  · intro ly K hKK hY c4 k4 o4 A4 args hargs
    rw [A4.symm] at hJ3
    obtain ⟨e', H', q1, q2⟩ := parts_run (e := [(6, .fn (.func 37) [] [.ptr 2 0 0]), (5, .agg [.int .i64 st, fs, bd]), (3, .ptr 1 0 0), (2, nls), (1, .ptr 0 0 0), (0, .agg [.int .i64 st, fs, bd])]) s1 s2 hl (by omega) rfl ly hfs hJ3
    refine (bodyB_ok hT hcf hKK hY Go.Proofs.Tryz.func37 tr37 (by kernel_rfl) k4 o4 hargs (x := .normal) (.inl rfl) q1 (vs := []) rfl).mono ?_
    rintro e5 w5 ⟨y, c5, rfl, rfl, _, g2, g3, g4, _⟩
    exact ⟨y, c5, rfl, rfl, g2, g3, by rw [g4]; exact q2⟩
  · intro D c4 k4 o4 hJ4 hsD hD hnD
    refine wpIn_seq ?_
    obtain ⟨v, h0, h1, h2, hO⟩ := hJ4
    have h3 : 3 ≤ c4.A.length := (List.getElem?_eq_some_iff.1 h2).1
    have hne : outB st l ≠ [] := by unfold outB fstL; simp
    have hgv : hget c4.A 1 0 1 0 = some [v] := by rw [hget_at h1]; simp
    have hgb : hget c4.A 0 2 1 0 = some [bd] := by rw [hget_at h0]; simp
    have hr5 : ∃ r1 H5, runOpsB T (C T) 0 noY as5 [(6, .fn (.func 37) [] [.ptr 2 0 0]), (5, .agg [.int .i64 st, fs, bd]), (3, .ptr 1 0 0), (2, nls), (1, .ptr 0 0 0), (0, .agg [.int .i64 st, fs, bd])] c4.A = some ((2, r1) :: (15, r1) :: (14, bd) :: (13, .ptr 0 2 0) :: (12, v) :: [(6, .fn (.func 37) [] [.ptr 2 0 0]), (5, .agg [.int .i64 st, fs, bd]), (3, .ptr 1 0 0), (2, nls), (1, .ptr 0 0 0), (0, .agg [.int .i64 st, fs, bd])], H5) ∧ Out H5 r1 (outB st l ++ b) := by
      by_cases hb0 : b = []
      · subst hb0
        refine ⟨v, c4.A, ?_, by simpa using hO⟩
        rcases hO with ⟨e, _⟩ | ⟨k, g, rfl, _, _, _⟩
        · exact absurd e hne
        · have hap : aappend .no c4.A 1 1 (.ms k 0 (outB st l).length 1 g) 0 [] = some (.ms k 0 (outB st l).length 1 g, c4.A) := by unfold aappend; rw [if_pos rfl]
          rcases hbd with ⟨_, rfl⟩ | rfl
          · simp [as5, runOpsB, wantedA, yArgs, putA, aop, ev, Env.get, hgv, hgb, hap, viewOf]
          · have hbn : bcells [] = [] := rfl
            simp [as5, runOpsB, wantedA, yArgs, putA, aop, ev, Env.get, hgv, hgb, hap, viewOf, hbn]
      · obtain ⟨H5, r1, p1, p2, _, _, _⟩ := hO.append h3 b hb0 (by omega)
        refine ⟨r1, H5, ?_, p2⟩
        rcases hbd with ⟨e, _⟩ | rfl
        · exact absurd e hb0
        · simp [as5, runOpsB, wantedA, yArgs, putA, aop, ev, Env.get, hgv, hgb, viewOf, p1]
    obtain ⟨r1, H5, r5, hO5⟩ := hr5
    obtain ⟨H6, hsn⟩ := snap_out hO5 (by simp [hne])
    refine regB (ro := none) (l := 0) (K := fun c' => Ext c c' ∧ c'.w.heap[D]? = some (.deferred (some [])) ∧ ¬ LOwn c' D) (nt := 16) hT hcf (by kernel_rfl) (fun c1 c2 h1 h2 _ => ⟨h1.1.trans h2, h2.keeps h1.2.1 h1.2.2⟩) noY_ok (al := as5) (by kernel_rfl) ⟨k3.trans k4, hD, hnD⟩ o4 (e3.ext k4) z3 r5 ?_
    intro a5 c5 _ k5 o5 A5 e5 z5 d5
    refine wpIn_ret ?_
    obtain ⟨t1, t2⟩ := toggle_ok (o' := .deferred none) o5 k5.2.1 rfl rfl k5.2.2
    have hdef : a5.defers = [{ target := .collected D, args := #[] }] := by
      rw [d5]
      show _ :: a3.defers = _
      rw [d3, d2, d1]
    show LeavesInM Fence.wide 0 Go.Proofs.Tryz.prog Go.Proofs.Tryz.f9 a5.tmps _ a5.defers .returning c5.w
    rw [hdef]
    obtain ⟨y, hy1, hy2⟩ := results_ok t2 (t1.env e5) (fn := Go.Proofs.Tryz.f9) (rs := [.tmp 2]) (by kernel_rfl) (vs := [r1]) rfl
    refine leaves_mark k5.2.1 hy1 ⟨y, _, rfl, rfl, ext_toggle k5.1 (Nat.le_trans k3.size hsD) k5.2.1 rfl rfl, t2, r1, H6, hy2, ?_⟩
    show snap 64 c5.A r1 = _
    rw [A5]
    exact hsn
end Go.Eng.S
namespace Go.Eng.S
open Go Go.Eng
set_option linter.unusedSectionVars false
variable [Sit]
set_option maxRecDepth 20000
def pairsOf : List AV → Option (List Fld)
  | [] => some []
  | .str a :: .str b :: r => match pairsOf r with
    | some l => some ((a, b) :: l)
    | none => none
  | _ => none
theorem pairs_cells : ∀ l : List Fld, pairsOf (fcells l) = some l
  | [] => rfl
  | f :: l => by rw [fcells_cons, pairsOf, pairs_cells l]
theorem pairs_inv : ∀ (cs : List AV) (l : List Fld), pairsOf cs = some l → cs = fcells l
  | [], l, h => by cases h; rfl
  | .str a :: .str b :: r, l, h => by
    rw [pairsOf] at h
    split at h
    · rename_i l' hl
      cases h
      rw [fcells_cons, pairs_inv r l' hl]
    · cases h
  | .str _ :: [], l, h => by cases h
  | .str _ :: .unk :: _, l, h => by cases h
  | .str _ :: .bool _ :: _, l, h => by cases h
  | .str _ :: .int _ _ :: _, l, h => by cases h
  | .str _ :: .cst _ :: _, l, h => by cases h
  | .str _ :: .ptr _ _ _ :: _, l, h => by cases h
  | .str _ :: .ep _ :: _, l, h => by cases h
  | .str _ :: .sl _ _ _ _ :: _, l, h => by cases h
  | .str _ :: .ms _ _ _ _ _ :: _, l, h => by cases h
  | .str _ :: .fn _ _ _ :: _, l, h => by cases h
  | .str _ :: .iface _ _ :: _, l, h => by cases h
  | .str _ :: .agg _ :: _, l, h => by cases h
  | .str _ :: .tup _ :: _, l, h => by cases h
  | .unk :: _, l, h => by cases h
  | .bool _ :: _, l, h => by cases h
  | .int _ _ :: _, l, h => by cases h
  | .cst _ :: _, l, h => by cases h
  | .ptr _ _ _ :: _, l, h => by cases h
  | .ep _ :: _, l, h => by cases h
  | .sl _ _ _ _ :: _, l, h => by cases h
  | .ms _ _ _ _ _ :: _, l, h => by cases h
  | .fn _ _ _ :: _, l, h => by cases h
  | .iface _ _ :: _, l, h => by cases h
  | .agg _ :: _, l, h => by cases h
  | .tup _ :: _, l, h => by cases h
def fldsOf (a : AV) : Option (List Fld) := match a with
  | .cst (.slice none 0 0) => some []
  | .sl false n 2 cs => match pairsOf cs with
    | some l => if n = l.length then some l else none
    | none => none
  | _ => none
def isBytes (cs : List AV) (b : Seg) : Prop := cs = bcells b
def bodyOf (a : AV) : Option Seg := match a with
  | .cst (.slice none 0 0) => some []
  | .sl false n 1 cs => match bytesOf cs with
    | some b => if n = b.length ∧ bytesOf cs = some b ∧ (b.map fun x => (x.toNat : Int)) = cs.map (fun c => match c with
        | .int .u8 i => i
        | _ => -1) then some b else none
    | none => none
  | _ => none
theorem flds_inv {a : AV} {l : List Fld} (h : fldsOf a = some l) : (l = [] ∧ a = nls) ∨ a = .sl false l.length 2 (fcells l) := by
  unfold fldsOf at h
  split at h
  · cases h; exact .inl ⟨rfl, rfl⟩
  · split at h
    · rename_i n cs _ l' hl
      split at h
      · rename_i hn
        cases h
        exact .inr (by rw [pairs_inv _ _ hl, hn])
      · cases h
    · cases h
  · cases h
theorem bytes_inv : ∀ (cs : List AV) (b : Seg), bytesOf cs = some b → (b.map fun x => (x.toNat : Int)) = cs.map (fun c => match c with
        | .int .u8 i => i
        | _ => -1) → cs = bcells b
  | [], b, h, _ => by cases h; rfl
  | c :: cs, b, h, hm => by
    unfold bytesOf at h
    split at h
    · cases ‹c :: cs = []›
    · rename_i n r e
      cases e
      split at h
      · rename_i b' hb
        cases h
        simp only [List.map_cons, List.cons.injEq] at hm
        have ih := bytes_inv cs b' hb hm.2
        rw [ih]
        show AV.int .u8 n :: bcells b' = AV.int .u8 ((UInt8.ofNat n.toNat).toNat : Nat) :: bcells b'
        rw [hm.1]
      · cases h
    · cases h
theorem body_inv {a : AV} {b : Seg} (h : bodyOf a = some b) : (b = [] ∧ a = nls) ∨ a = .sl false b.length 1 (bcells b) := by
  unfold bodyOf at h
  split at h
  · cases h; exact .inl ⟨rfl, rfl⟩
  · split at h
    · rename_i n cs _ b' hb
      split at h
      · rename_i hn
        cases h
        exact .inr (by rw [bytes_inv _ _ hb hn.2.2, hn.1])
      · cases h
    · cases h
  · cases h
def pBy (args : List AV) : Option AV := match args with
  | [.agg [.int .i64 st, fs, bd]] => match fldsOf fs, bodyOf bd with
    | some l, some b => if -9223372036854775808 ≤ st ∧ st < 9223372036854775808 ∧ l.length < 100000000 ∧ (outB st l).length + b.length < 1800000000 then some (.sl false (outB st l ++ b).length 1 (bcells (outB st l ++ b))) else none
    | _, _ => none
  | _ => none
theorem bytes_prim (hx : Sit.ext = none) : PrimOK Go.Proofs.Tryz.prog T 9 (pureP pBy) := pureP_ok glob_ok Go.Proofs.Tryz.call9 fun c hc hA args args' r ha hp => by
  unfold pBy at hp
  split at hp
  · rename_i st fs bd
    split at hp
    · rename_i l b hl hb
      split at hp
      · rename_i h
        cases hp
        exact bytes_calls hx hc hA h.1 h.2.1 h.2.2.1 h.2.2.2 (flds_inv hl) (body_inv hb) ha
      · cases hp
    · cases hp
  · cases hp
end Go.Eng.S
namespace Go.Eng.S
open Go Go.Eng
/-- The table with Bytes in it; the value of the variable that is not laid. -/
abbrev sitB (m : Int) : Sit := ⟨m, some (pureP pBy)⟩
abbrev sitS (m : Int) : Sit := ⟨m, none⟩
theorem fn_okB (m : Int) : @FnOK Go.Proofs.Tryz.prog (@T (sitB m)) := @fn_ok (sitB m) fun p hp => by
  cases hp
  intro args H r H' h c hc hA args' ha
  exact @bytes_prim (sitS m) rfl args H r H' h c ⟨hc.wr, hc.gl, hc.fr⟩ hA args' ha
#print axioms fn_okB
end Go.Eng.S
