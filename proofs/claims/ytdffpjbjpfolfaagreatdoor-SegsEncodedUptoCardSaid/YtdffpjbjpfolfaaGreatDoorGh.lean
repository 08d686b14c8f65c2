/- Clean, Same, the fixed results. No condition. -/
import Derived.Test.YtdffpjbjpfolfaaGreatDoorGg
namespace Go.Eng.S
open Go Go.Eng
def CleanV (d : Bool) (r : Except Nat (List Seg)) (y : AV) : Prop := match r with
  | .ok st => ∃ a, y = .tup [.agg [a, .bool d], .bool true] ∧ Names a st
  | .error _ => y = .tup [.agg [nls, .bool false], .bool false]
theorem hset_new {H : Heap} (x y z w : AV) : hset (H ++ [⟨[x, y], 0, true, .no⟩]) H.length 0 0 [z, w] = some (H ++ [⟨[z, w], 0, true, .no⟩]) := by
  unfold hset
  simp
theorem hget_new {H : Heap} (x y : AV) : hget (H ++ [⟨[x, y], 0, true, .no⟩]) H.length 0 2 0 = some [x, y] := by
  unfold hget
  simp
theorem clean_ok {a : AV} {l : List Seg} (ha : Names a l) (hl : l.length < 100000000) : ∃ y, (∀ H, C T 19 [a] H = some (y, H)) ∧ CleanV (dirR false l) (clnS [] l 0) y := by
  suffices h : ∃ y, C T 19 [a] [] = some (y, []) ∧ CleanV (dirR false l) (clnS [] l 0) y by
    obtain ⟨y, h1, h2⟩ := h
    exact ⟨y, fun H => anyH fd19 rfl (closed1 ha.closed) h1 H, h2⟩
  rw [q19]
  obtain ⟨y, hy, hv⟩ := walk_ok ha hl
  have hsn := fun k H => snap_names ha k H
  have g1 : ∀ (x y : AV) (d e : Bool), hset [⟨[nls, .bool false], 0, true, .no⟩, ⟨[nls, .bool false], 0, true, .no⟩] 1 0 0 [x, .bool d] = some [⟨[nls, .bool false], 0, true, .no⟩, ⟨[x, .bool d], 0, true, .no⟩] := fun _ _ _ _ => rfl
  cases hr : clnS [] l 0 with
  | ok st =>
    rw [hr] at hv
    obtain ⟨b, rfl, hb⟩ := hv
    refine ⟨.tup [.agg [b, .bool (dirR false l)], .bool true], ?_, b, rfl, hb⟩
    have hbc := hb.cell
    have hsb := fun k H => snap_names hb k H
    simp [d19, hsn, hy, hset, hget, hbc, hsb]
  | error j =>
    rw [hr] at hv
    obtain rfl := hv
    refine ⟨_, ?_, rfl⟩
    simp (disch := omega) [d19, hsn, hy, hset, hget]
theorem same_ok {a b : AV} {l m : List Seg} {x y : Bool} (ha : Names a l) (hb : Names b m) (hl : l.length ≤ maxLen) (hm : m.length ≤ maxLen) (H : Heap) :
    C T 12 [.agg [a, .bool x], .agg [b, .bool y]] H = some (.bool (decide (l = m) && (x == y)), H) := by
  refine anyH fd12 rfl (by simp [closedL, AV.closed, ha.closed, hb.closed]) ?_ H
  rw [q12]
  have ht := texts_ok ha hb hl hm
  have hsa := fun k H => snap_names ha k H
  have hsb := fun k H => snap_names hb k H
  have hac := ha.cell
  have hbc := hb.cell
  by_cases h : l = m
  · simp [h] at ht
    simp [d12, hsa, hsb, hac, hbc, hget, ht, h]
  · simp [h] at ht
    simp [d12, hsa, hsb, hac, hbc, hget, ht, h]
theorem awake_ok (H : Heap) : C T 6 [] H = some (.bool true, H) := anyH fd6 rfl rfl (C_of 80 (by kernel_rfl)) H
end Go.Eng.S
