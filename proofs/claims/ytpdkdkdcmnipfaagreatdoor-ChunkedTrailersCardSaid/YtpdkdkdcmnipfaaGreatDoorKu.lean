/- ChunkedDecodes, the plain law. No condition. -/
import Derived.Test.YtpdkdkdcmnipfaaGreatDoorKt
namespace Go.Eng.S
open Go Go.Eng
theorem awake14_ok (H : Heap) : C T 8 [] H = some (.bool true, H) := anyH fd8 rfl rfl (C_of 90 (by kernel_rfl)) H
def Lims.small (l : Lims) : Bool := decide (l.line ≤ 1099511627776) && decide (l.head ≤ 1099511627776) && decide (l.fields ≤ 1099511627776) && decide (l.body ≤ 1099511627776)
theorem right_ok (l : Lims) (H : Heap) : C T 9 [l.av] H = some (.bool l.small, H) := by
  refine anyH fd9 rfl rfl ?_ H
  rw [q9]
  unfold Lims.av Lims.small
  by_cases h1 : l.line ≤ 1099511627776
  · by_cases h2 : l.head ≤ 1099511627776
    · by_cases h3 : l.fields ≤ 1099511627776
      · simp [d9, hget, h1, h2, h3]
      · simp [d9, hget, h1, h2, h3]
    · simp [d9, hget, h1, h2]
  · simp [d9, hget, h1]
theorem byV_cell (s : List UInt8) : (byV s).isCell = true := by unfold byV; split <;> rfl
theorem byV_cells (s : List UInt8) : (byV s).cells = [byV s] := cells_cell (byV_cell s)
def stOK (st : Nat) : Prop := st = 400 ∨ st = 413 ∨ st = 431
theorem wrong_ok14 {st : Nat} (h : stOK st) (a b : Int) (H : Heap) : C T 12 [flt st a, .int .i64 st, .int .i64 b] H = some (.bool (a == b), H) := by
  rcases h with rfl | rfl | rfl
  · exact wrong400_ok a b H
  · exact wrong413_ok a b H
  · exact wrong431_ok a b H
theorem stOK_ne {st : Nat} (h : stOK st) : ((st : Int) != 0) = true := by rcases h with rfl | rfl | rfl <;> rfl
theorem dsz_st {m : Nat} {s : List UInt8} {k st : Nat} (hd : dsz m s k = .inl st) : stOK st := by
  unfold stOK
  unfold dsz at hd
  repeat' split at hd
  all_goals first
    | (cases hd; simp; done)
    | cases hd
theorem trailR_st {L : Lm} {data : List UInt8} : ∀ {k a f b : Nat} {s : List UInt8} {st x : Nat}, trailR L.lim data k a f b s = .bad st x → stOK st
  | 0, a, f, b, s, st, x, h => by cases h
  | k + 1, a, f, b, s, st, x, h => by
    unfold trailR at h
    cases hl : lineR L.lim.line [] s with
    | opn => rw [hl] at h; cases h
    | long j => rw [hl] at h; cases h; exact .inr (.inr rfl)
    | bad j => rw [hl] at h; cases h; exact .inl rfl
    | ok y rest =>
      rw [hl] at h
      dsimp only at h
      split at h
      · cases h
      · split at h
        · cases h; exact .inr (.inr rfl)
        · split at h
          · exact trailR_st h
          · cases h; exact .inl rfl
theorem crlfR_st {a : Nat} {s : List UInt8} {st x : Nat} (h : crlfR a s = .inl (.bad st x)) : stOK st := by
  unfold crlfR at h
  repeat' split at h
  all_goals first
    | (cases h; exact .inl rfl)
    | cases h
theorem crlfR_ok {a : Nat} {s data : List UInt8} {n : Nat} (h : crlfR a s = .inl (.ok data n)) : False := by
  unfold crlfR at h
  repeat' split at h
  all_goals cases h
theorem readR_st {L : Lm} : ∀ {k a : Nat} {out s : List UInt8} {st x : Nat}, readR L.lim k a out s = .bad st x → stOK st
  | 0, a, out, s, st, x, h => by cases h
  | k + 1, a, out, s, st, x, h => by
    rw [readR_k] at h
    cases hl : lineR L.lim.line [] s with
    | opn => rw [hl] at h; cases h
    | long j => rw [hl] at h; cases h; exact .inl rfl
    | bad j => rw [hl] at h; cases h; exact .inl rfl
    | ok y rest =>
      rw [hl] at h
      dsimp only at h
      cases hd : L.lim.size y out.length with
      | inl s2 =>
        rw [hd] at h
        cases h
        exact dsz_st (m := L.body) hd
      | inr n =>
        rw [hd] at h
        dsimp only at h
        split at h
        · exact trailR_st h
        · split at h
          · cases h
          · cases hc : crlfR (a + y.length + 2 + n) (rest.drop n) with
            | inl r => rw [hc] at h; subst h; exact crlfR_st hc
            | inr r2 => rw [hc] at h; exact readR_st h
theorem bytes_len {a : AV} {b : List UInt8} (ha : Bytes a b) (H : Heap) : (match a with
    | .sl _ n _ _ => some (AV.int .i64 n, H)
    | .ms _ _ n _ _ => some (.int .i64 n, H)
    | .cst (.slice none 0 0) => some (.int .i64 0, H)
    | _ => none) = some (AV.int .i64 b.length, H) := by
  rcases ha with ⟨rfl, rfl⟩ | rfl <;> rfl
theorem snap_bytes {a : AV} {b : List UInt8} (ha : Bytes a b) (k : Nat) (H : Heap) : snap (k + 1) H a = some (a, H) := by
  rcases ha with ⟨rfl, rfl⟩ | rfl
  · rfl
  · exact snap_sl k H false b
set_option maxHeartbeats 1000000 in
theorem chunkedDecodes (a : AV) (b : List UInt8) (ha : Bytes a b) (l : Lims) : C T 3 [a, l.av] [] = some (.bool true, []) := by
  rw [q3]
  have hsn := snap_bytes ha
  have hri := right_ok l
  by_cases hb : 1000 < b.length
  · have hb' : (1000 : Int) < b.length := by omega
    unfold Lims.av
    rcases ha with ⟨rfl, rfl⟩ | rfl
    · simp at hb
    · simp [d3, hsn, awake14_ok, hb']
  have hb' : ¬ (1000 : Int) < b.length := by omega
  cases hs : l.small with
  | false =>
    rw [hs] at hri
    unfold Lims.av at *
    rcases ha with ⟨rfl, rfl⟩ | rfl <;> simp at hb' <;> simp [d3, hsn, awake14_ok, hb', hri, hget]
  | true =>
    rw [hs] at hri
    have hbody : l.body ≤ 1099511627776 := by unfold Lims.small at hs; simp at hs; exact hs.2
    have hdec := decode_ok a b ha (by omega) l hbody
    have hread := read_ok a b ha (by omega) l hbody
    rw [run_read] at hdec
    have hst := @readR_st l.lm (b.length + 1) 0 [] b
    generalize readR l.lm.lim (b.length + 1) 0 [] b = r at *
    have hw := fun (x : Nat) (y z : Int) H (h : stOK x) => wrong_ok14 h y z H
    unfold Lims.av at *
    cases r with
    | opn =>
      simp only [decV, resV] at hdec hread
      have hw := wrong400_ok b.length b.length
      have hw0 := wrong400_ok 0 0
      rcases ha with ⟨rfl, rfl⟩ | rfl <;> simp at hb' <;> simp [d3, hsn, awake14_ok, hb', hri, hdec, hread, hget, hset, hw, hw0]
    | bad st x =>
      simp only [decV, resV] at hdec hread
      have hok := hst rfl
      have hw := wrong_ok14 hok x x
      have hne := stOK_ne hok
      simp at hne
      rcases ha with ⟨rfl, rfl⟩ | rfl <;> simp at hb' <;> simp [d3, hsn, awake14_ok, hb', hri, hdec, hread, hget, hset, hw, hne]
    | ok data n =>
      simp only [decV, resV] at hdec hread
      have hbc := byV_cell data
      have hbcs := byV_cells data
      by_cases hd : data = []
      · subst hd
        have e : byV [] = nls := rfl
        rw [e] at hdec hread
        rcases ha with ⟨rfl, rfl⟩ | rfl <;> simp at hb' <;> simp [d3, hsn, awake14_ok, hb', hri, hdec, hread, hget, hset, bytesOf]
      · have e : byV data = .sl false data.length 1 (bcells data) := if_neg hd
        rw [e] at hdec hread
        rcases ha with ⟨rfl, rfl⟩ | rfl <;> simp at hb' <;> simp [d3, hsn, awake14_ok, hb', hri, hdec, hread, hget, hset, bytesOf_bcells]
end Go.Eng.S
