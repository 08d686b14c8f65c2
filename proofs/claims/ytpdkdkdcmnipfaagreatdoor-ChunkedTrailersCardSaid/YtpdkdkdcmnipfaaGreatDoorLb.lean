/- ChunkedTrailers, the plain law. No condition. -/
import Derived.Test.YtpdkdkdcmnipfaaGreatDoorKy
import Derived.Test.YtpdkdkdcmnipfaaGreatDoorKv
namespace Go.Eng.S
open Go Go.Eng
set_option maxRecDepth 20000 in
set_option maxHeartbeats 2000000 in
theorem chunkedTrailers (a : AV) (p : List UInt8) (ha : Bytes a p) (s t : List UInt8) : C T 7 [a, .str s, .str t] [] = some (.bool true, []) := by
  rw [q7]
  have hsn := snap_bytes ha
  by_cases hp : 100 < p.length
  · have hp' : (100 : Int) < p.length := by omega
    rcases ha with ⟨rfl, rfl⟩ | rfl
    · simp at hp
    · simp [d7, hsn, awake14_ok, hp']
  have hp' : ¬ (100 : Int) < p.length := by omega
  by_cases hs : 50 < s.length
  · have hs' : (50 : Int) < s.length := by omega
    rcases ha with ⟨rfl, rfl⟩ | rfl <;> simp at hp' <;> simp [d7, hsn, awake14_ok, hp', hs']
  have hs' : ¬ (50 : Int) < s.length := by omega
  by_cases ht : 50 < t.length
  · have ht' : (50 : Int) < t.length := by omega
    rcases ha with ⟨rfl, rfl⟩ | rfl <;> simp at hp' <;> simp [d7, hsn, awake14_ok, hp', hs', ht']
  have ht' : ¬ (50 : Int) < t.length := by omega
  have henc := renc_one ha (by omega)
  have e1 : byV (encT [p]) = slV (encT [p]) := if_neg (encT_ne [p])
  rw [e1] at henc
  have hel := encT_len (ps := [p]) (by intro q hq; simp at hq; subst hq; omega) (by simp)
  have hel5 : 5 ≤ (encT [p]).length := by simp [encT]
  have hgr := great_ok
  generalize encT [p] = e at *
  have l1 : s.length + 1 ≤ LIM := by unfold LIM; omega
  have l2 : s.length + 1 + t.length ≤ LIM := by unfold LIM; omega
  have l3 : s.length + 1 + t.length + 2 ≤ LIM := by unfold LIM; omega
  have hlne : s ++ [58] ++ t ++ [13, 10] ≠ [] := by simp
  have hll : (s ++ [58] ++ t ++ [13, 10]).length = s.length + 1 + t.length + 2 := by simp; omega
  obtain ⟨X, hX⟩ : ∃ X, X = s ++ [58] ++ t ++ [13, 10] := ⟨_, rfl⟩
  rw [← hX] at hlne hll
  have hB1 : (e.take (e.length - 2) ++ X).length = e.length - 2 + X.length := by simp
  have hXn : X.length ≠ 0 := by omega
  have hcX : (bcells X).all AV.isCell = true := by simp [bcells]
  have hlm : (e.length - 2 + X.length) * 2 ≤ LIM := by unfold LIM; omega
  have ha1 : aappend [] 1 1 (.sl true (e.length - 2) 1 (List.take (e.length - 2) (bcells e))) X.length (bcells X) = some (.ms 0 0 (e.take (e.length - 2) ++ X).length 1 0, [⟨bcells (e.take (e.length - 2) ++ X), 0, true⟩]) := by
    unfold aappend
    rw [if_neg hXn, hB1]
    simp only [hcX, hlm, Bool.not_true, cond_false, and_self, if_true, hnew, List.length_nil, List.nil_append, bcells_app, bcells_take]
  obtain ⟨B1, hB⟩ : ∃ B1, B1 = e.take (e.length - 2) ++ X := ⟨_, rfl⟩
  rw [← hB] at ha1 hB1
  have o1 : Own [⟨bcells B1, 0, true⟩] (.ms 0 0 B1.length 1 0) B1 := .inr ⟨0, 0, rfl, by omega, rfl⟩
  obtain ⟨H', v', a2, o2, _, _, _⟩ := o1.appendL [13, 10] (by simp) (by simp; omega)
  have hcr : bcells [13, 10] = [.int .u8 13, .int .u8 10] := rfl
  rw [hcr] at a2
  simp only [List.length_cons, List.length_nil, Nat.zero_add, Nat.reduceAdd] at a2
  have hlB : (B1 ++ [13, 10]).length < 10000 := by simp; omega
  generalize B1 ++ [13, 10] = B at *
  have hbB : Bytes (byV B) B := by
    unfold byV
    split
    · rename_i h; exact .inl ⟨rfl, h⟩
    · exact .inr rfl
  have hdec := dec_any (snap_own o2.d 10) hbB hlB gr (by decide)
  have hread := read_any (snap_own (frz_own o2.d) 10) hbB hlB gr (by decide)
  rw [run_read] at hdec
  have hst := @readR_st gr.lm (B.length + 1) 0 [] B
  generalize readR gr.lm.lim (B.length + 1) 0 [] B = r at *
  generalize frz (frz H' v') v' = H3 at *
  generalize frz H' v' = H2 at *
  have hlo : (X.length : Int) = s.length + 1 + t.length + 2 := by omega
  have hX2 : s ++ 58 :: (t ++ [13, 10]) = X := by rw [hX]; simp
  have etn : ((e.length : Int) - 2).toNat = e.length - 2 := by omega
  have hlY : s.length + (t.length + 2 + 1) = X.length := by omega
  unfold gr Lims.av at *
  cases r with
  | opn =>
    simp only [decV, resV] at hdec hread
    rcases ha with ⟨rfl, rfl⟩ | rfl <;> simp at hp' <;> simp (disch := omega) [d7, hsn, awake14_ok, hs', ht', henc, hgr, l1, l2, etn, hX2, ha1, a2, hdec, hread, hset_tail0, hget_tail0, hg0, hs0]
  | bad st x =>
    simp only [decV, resV] at hdec hread
    have hok := hst rfl
    have hw := wrong_ok14 hok x x
    have hne := stOK_ne hok
    simp at hne
    rcases ha with ⟨rfl, rfl⟩ | rfl <;> simp at hp' <;> simp (disch := omega) [d7, hsn, awake14_ok, hs', ht', henc, hgr, l1, l2, etn, hX2, ha1, a2, hdec, hread, hset_tail0, hget_tail0, hg0, hs0, hw]
  | ok data n =>
    simp only [decV, resV] at hdec hread
    by_cases hd : data = []
    · subst hd
      have e : byV [] = nls := rfl
      rw [e] at hdec hread
      rcases ha with ⟨rfl, rfl⟩ | rfl <;> simp at hp' <;> simp (disch := omega) [d7, hsn, awake14_ok, hs', ht', henc, hgr, l1, l2, etn, hX2, ha1, a2, hdec, hread, hset_tail0, hget_tail0, hg0, hs0, bytesOf]
    · have e : byV data = .sl false data.length 1 (bcells data) := if_neg hd
      rw [e] at hdec hread
      rcases ha with ⟨rfl, rfl⟩ | rfl <;> simp at hp' <;> simp (disch := omega) [d7, hsn, awake14_ok, hs', ht', henc, hgr, l1, l2, etn, hX2, ha1, a2, hdec, hread, hset_tail0, hget_tail0, hg0, hs0, bytesOf_bcells]
end Go.Eng.S
