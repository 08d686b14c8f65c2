/- chunked.Decode. No condition. -/
import Derived.Test.YtpdkdkdcmnipfaaGreatDoorKh
namespace Go.Eng.S
open Go Go.Eng
theorem bc_closed : ∀ s : List UInt8, closedL (bcells s) = true
  | [] => rfl
  | _ :: r => by
    have := bc_closed r
    simp only [bcells] at this
    simp [bcells, this]
theorem bc_snap (k : Nat) (H : Heap) : ∀ s : List UInt8, mapS (snap (k + 1)) H (bcells s) = some (bcells s, H)
  | [] => rfl
  | _ :: r => by
    have := bc_snap k H r
    simp only [bcells] at this
    simp [bcells, this]
/-- Bytes as they are handed on for good. -/
def byV (s : List UInt8) : AV := if s = [] then .cst (.slice none 0 0) else .sl false s.length 1 (bcells s)
theorem byV_closed (s : List UInt8) : (byV s).closed = true := by
  unfold byV
  split
  · rfl
  · simp [bc_closed]
theorem snap_sl (k : Nat) (H : Heap) (f : Bool) (s : List UInt8) : snap (k + 1) H (.sl f s.length 1 (bcells s)) = some (.sl false s.length 1 (bcells s), H) := by
  simp [snap, bc_closed]
theorem snap_byV (k : Nat) (H : Heap) (s : List UInt8) : snap (k + 1) H (byV s) = some (byV s, H) := by
  unfold byV
  split
  · rfl
  · exact snap_sl k H false s
/-- Bytes, live or not. -/
def OwnD (H : Heap) (v : AV) (s : List UInt8) : Prop := (s = [] ∧ v = .cst (.slice none 0 0)) ∨ ∃ k g l, v = .ms k 0 s.length 1 g ∧ 0 < s.length ∧ H[k]? = some ⟨bcells s, g, l⟩
theorem Own.d {H : Heap} {v : AV} {s : List UInt8} (h : Own H v s) : OwnD H v s := by
  rcases h with h | ⟨k, g, h1, h2, h3⟩
  · exact .inl h
  · exact .inr ⟨k, g, true, h1, h2, h3⟩
def frz (H : Heap) : AV → Heap
  | .ms k _ _ _ _ => freeze H k
  | _ => H
theorem snap_ms (k : Nat) (H : Heap) (i off n e g : Nat) : snap (k + 1) H (.ms i off n e g) = (match hget H i off (n * e) g with
    | some cs => match mapS (snap k) H cs with
      | some (cs', H') => some (.sl false n e cs', freeze H' i)
      | none => none
    | none => none) := rfl
theorem snap_own {H : Heap} {v : AV} {s : List UInt8} (h : OwnD H v s) (k : Nat) : snap (k + 2) H v = some (byV s, frz H v) := by
  rcases h with ⟨rfl, rfl⟩ | ⟨i, g, l, rfl, h0, hr⟩
  · rfl
  · have ht : List.take s.length (bcells s) = bcells s := List.take_of_length_le (by simp [bcells])
    have hn : s ≠ [] := by intro e; subst e; simp at h0
    have hm := bc_snap k H s
    rw [snap_ms]
    simp [hget_at hr, ht, bcells_len, hm, byV, hn, frz]
theorem clone_ok {H : Heap} {v : AV} {s : List UInt8} (h : OwnD H v s) (hl : s.length < 1000000000) : C T 31 [v] H = some (byV s, frz H v) := by
  rw [q31]
  have hs := snap_own h 10
  by_cases hn : s = []
  · subst hn
    have : byV [] = .cst (.slice none 0 0) := rfl
    rw [this] at hs ⊢
    simp [d31, hs, aeq]
  · have : byV s = .sl false s.length 1 (bcells s) := if_neg hn
    rw [this] at hs ⊢
    have hlen : s.length ≠ 0 := by simpa using hn
    have hcs : (bcells s).all AV.isCell = true := by simp [bcells]
    have hlim : s.length * 2 ≤ LIM := by unfold LIM; omega
    have ht : List.take s.length (bcells s) = bcells s := List.take_of_length_le (by simp [bcells])
    have ha : aappend [] 1 1 (.sl true 0 1 []) s.length (bcells s) = some (.ms 0 0 s.length 1 0, [⟨bcells s, 0, true⟩]) := by
      unfold aappend
      rw [if_neg hlen]
      simp [hcs, hlim, hnew]
    have hs2 : snap 12 [⟨bcells s, 0, true⟩] (.ms 0 0 s.length 1 0) = some (byV s, frz [⟨bcells s, 0, true⟩] (.ms 0 0 s.length 1 0)) := snap_own (k := 10) (.inr ⟨0, 0, true, rfl, by omega, rfl⟩)
    rw [this] at hs2
    simp [d31, hs, aeq, ha, hs2]
end Go.Eng.S
