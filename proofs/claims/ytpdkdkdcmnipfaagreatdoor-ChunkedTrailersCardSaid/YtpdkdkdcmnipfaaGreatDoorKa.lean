/- The reader of lines, on a heap. No condition. -/
import Derived.Test.YtpdkdkdcmnipfaaGreatDoorKb
import Derived.Test.YtpdkdkdcmnipfaaGreatDoorCa
namespace Go.Eng.S
open Go Go.Eng
theorem aveqL_bc (k : Nat) : ∀ s : List UInt8, aveq.aveqL (k + 1) (bcells s) (bcells s) = true
  | [] => rfl
  | a :: s => by
    have := aveqL_bc k s
    simp only [bcells] at this
    simp [bcells, aveq.aveqL, aveq, this]
@[simp] theorem aveq_sl (k n : Nat) (s : List UInt8) : aveq (k + 2) (.sl false n 1 (bcells s)) (.sl false n 1 (bcells s)) = true := by
  simp [aveq, aveqL_bc]
@[simp] theorem aveq_int (k : Nat) (q : IntKind) (n : Int) : aveq (k + 1) (.int q n) (.int q n) = true := by simp [aveq]
@[simp] theorem aveq_str (k : Nat) (s : List UInt8) : aveq (k + 1) (.str s) (.str s) = true := by simp [aveq]
@[simp] theorem aveq_nls (k : Nat) : aveq (k + 1) (.cst (.slice none 0 0)) (.cst (.slice none 0 0)) = true := rfl
@[simp] theorem aveq_bool (k : Nat) (b : Bool) : aveq (k + 1) (.bool b) (.bool b) = true := by simp [aveq]
def rowOf : AV → Option Nat
  | .ms k _ _ _ _ => some k
  | _ => none
/-- A slice of bytes that is appended to: nil, or all of its row. -/
def Own (H : Heap) (v : AV) (s : List UInt8) : Prop := (s = [] ∧ v = .cst (.slice none 0 0)) ∨ ∃ k g, v = .ms k 0 s.length 1 g ∧ 0 < s.length ∧ H[k]? = some ⟨bcells s, g, true⟩
theorem Own.mono {H H' : Heap} {v : AV} {s : List UInt8} (h : Own H v s) (hf : ∀ k o, rowOf v = some k → H[k]? = some o → H'[k]? = some o) : Own H' v s := by
  rcases h with h | ⟨k, g, rfl, h0, hk⟩
  · exact .inl h
  · exact .inr ⟨k, g, rfl, h0, hf k _ rfl hk⟩
theorem Own.lt {H : Heap} {v : AV} {s : List UInt8} (h : Own H v s) {k : Nat} (hk : rowOf v = some k) : k < H.length := by
  rcases h with ⟨_, rfl⟩ | ⟨k', g, rfl, h0, hr⟩
  · cases hk
  · cases hk
    exact (List.getElem?_eq_some_iff.1 hr).1
theorem Own.cell {H : Heap} {v : AV} {s : List UInt8} (h : Own H v s) : v.isCell = true := by
  rcases h with ⟨_, rfl⟩ | ⟨k', g, rfl, h0, hr⟩ <;> rfl
theorem Own.view {H : Heap} {v : AV} {s : List UInt8} (h : Own H v s) : viewOf H 1 v = some (s.length, bcells s) := by
  rcases h with ⟨rfl, rfl⟩ | ⟨k, g, rfl, h0, hr⟩
  · rfl
  · have ht : List.take s.length (bcells s) = bcells s := List.take_of_length_le (by simp [bcells])
    simp [viewOf, hget, hr, bcells_len, ht]
theorem Own.nstr {H : Heap} {v : AV} {s : List UInt8} (h : Own H v s) (l : List UInt8) : v ≠ .str l := by
  rcases h with ⟨rfl, rfl⟩ | ⟨k, g, rfl, h0, hr⟩ <;> simp
theorem app_get {H : Heap} {G : Heap} {k : Nat} {o : AObj} (h : H[k]? = some o) : (H ++ G)[k]? = some o := by
  rw [List.getElem?_append_left (List.getElem?_eq_some_iff.1 h).1, h]
theorem Own.append {H : Heap} {v : AV} {s : List UInt8} (h : Own H v s) (c : UInt8) (hl : s.length < 1000000000) :
    ∃ H' v', aappend H 1 1 v 1 [.int .u8 c.toNat] = some (v', H') ∧ Own H' v' (s ++ [c]) ∧ H.length ≤ H'.length ∧ (∀ k o, rowOf v ≠ some k → H[k]? = some o → H'[k]? = some o) ∧ (∀ k, rowOf v' = some k → rowOf v = some k ∨ H.length ≤ k) := by
  rcases h with ⟨rfl, rfl⟩ | ⟨k, g, rfl, h0, hr⟩
  · refine ⟨H ++ [⟨[.int .u8 c.toNat], 0, true⟩], .ms H.length 0 1 1 0, ?_, .inr ⟨_, _, rfl, by simp, by simp [bcells]⟩, by simp, fun k o _ hk => app_get hk, fun k hk => by cases hk; exact .inr (Nat.le_refl _)⟩
    unfold aappend
    simp [LIM, hnew]
  · have hkl := (List.getElem?_eq_some_iff.1 hr).1
    have ht : List.take s.length (bcells s) = bcells s := List.take_of_length_le (by simp [bcells])
    have hlim : (s.length + 1) * 2 ≤ LIM := by unfold LIM; omega
    refine ⟨H.set k ⟨bcells (s ++ [c]), g + 1, true⟩, .ms k 0 (s.length + 1) 1 (g + 1), ?_, .inr ⟨k, g + 1, by simp, by simp, by simp [hkl]⟩, by simp, fun k' o hk' hr' => ?_, fun k' hk' => .inl hk'⟩
    · unfold aappend
      simp [hlim, hr, bcells_len, ht]
      simp [bcells]
    · have : k ≠ k' := fun e => hk' (by rw [e]; rfl)
      rw [List.getElem?_set_ne this, hr']

/-- The cells of a reader. -/
abbrev rdRow (most : Nat) (v : AV) (r : Rd) : AObj := ⟨[.int .i64 most, v, .str r.line, .bool r.cr, .bool r.op, .int .i64 r.st], 0, true⟩
theorem bytesOf_own {H : Heap} {v : AV} {s : List UInt8} (_h : Own H v s) (_l : List UInt8) : bytesOf (bcells s) = some s := bytesOf_bcells s
def nxtP (H : Heap) (j most : Nat) (v : AV) (r r' : Rd) (x : Option (AV × Heap)) : Prop := ∃ H' v', x = some (.int .i64 r'.st, H') ∧ H'[j]? = some (rdRow most v' { r' with st := r.st }) ∧ Own H' v' r'.buf ∧ H.length ≤ H'.length ∧ (∀ k o, k ≠ j → rowOf v ≠ some k → H[k]? = some o → H'[k]? = some o) ∧ (∀ k, rowOf v' = some k → rowOf v = some k ∨ H.length ≤ k)
theorem set_ne {H : Heap} {j k : Nat} {o x : AObj} (h : k ≠ j) (hk : H[k]? = some o) : (H.set j x)[k]? = some o := by
  rw [List.getElem?_set_ne (Ne.symm h), hk]
theorem set_self {H : Heap} {j : Nat} {o x : AObj} (hk : H[j]? = some o) : (H.set j x)[j]? = some x := by
  rw [List.getElem?_set_self (List.getElem?_eq_some_iff.1 hk).1]
theorem hget_at {H : Heap} {j : Nat} {cs : List AV} {g : Nat} {l : Bool} (h : H[j]? = some ⟨cs, g, l⟩) (off n : Nat) : hget H j off n g = if off + n ≤ cs.length then some ((cs.drop off).take n) else none := by
  unfold hget; rw [h]; simp
theorem hset_at {H : Heap} {j : Nat} {cs : List AV} {g : Nat} (h : H[j]? = some ⟨cs, g, true⟩) (off : Nat) (vs : List AV) : hset H j off g vs = if off + vs.length ≤ cs.length then some (H.set j ⟨splice cs off vs, g, true⟩) else none := by
  unfold hset; rw [h]; simp
theorem hget_sa {H : Heap} {j : Nat} {o : AObj} (h : H[j]? = some o) (cs : List AV) (g : Nat) (l : Bool) (off n : Nat) : hget (H.set j ⟨cs, g, l⟩) j off n g = if off + n ≤ cs.length then some ((cs.drop off).take n) else none := hget_at (set_self h) off n
theorem hset_sa {H : Heap} {j : Nat} {o : AObj} (h : H[j]? = some o) (cs : List AV) (g : Nat) (off : Nat) (vs : List AV) : hset (H.set j ⟨cs, g, true⟩) j off g vs = if off + vs.length ≤ cs.length then some (H.set j ⟨splice cs off vs, g, true⟩) else none := by
  rw [hset_at (set_self h), List.set_set]
theorem next_ok (H : Heap) (j most : Nat) (v : AV) (r : Rd) (c : UInt8) (hj : H[j]? = some (rdRow most v r)) (hb : Own H v r.buf) (hvj : rowOf v ≠ some j) (hst : ¬ (r.st = 2 ∨ r.st = 3)) (hop : r.op = true) (hl : r.buf.length < 1000000000) :
    nxtP H j most v r (r.put most c) (C T 87 [.ptr j 0 0, .int .u8 c.toNat] H) := by
  rw [q87]
  have e10 := u8_eqlit c 10 10 rfl
  have e13 := u8_eqlit c 13 13 rfl
  obtain ⟨buf, line, cr, op, st⟩ := r
  simp only at hop hb hst hl
  subst hop
  have hown := hb
  cases cr with
  | true =>
    by_cases h1 : c = 10
    · have e1 : ((c.toNat : Int) == 10) = true := by rw [e10, h1]; rfl
      have hp : Rd.put most ⟨buf, line, true, true, st⟩ c = ⟨[], buf, false, false, 1⟩ := by simp [Rd.put, hst, h1]
      rw [hp]
      refine ⟨H.set j (rdRow most (.cst (.slice none 0 0)) ⟨[], buf, false, false, st⟩), .cst (.slice none 0 0), ?_, by rw [set_self hj], .inl ⟨rfl, rfl⟩, by simp, fun k o hk _ h => set_ne hk h, fun k hk => by cases hk⟩
      rcases hb with ⟨rfl, rfl⟩ | ⟨k, g, rfl, h0, hr⟩
      · simp (disch := omega) [d87, hget_at hj, hset_at hj, hset_sa hj, h1, bytesOf]
      · have ht : List.take buf.length (bcells buf) = bcells buf := List.take_of_length_le (by simp [bcells])
        simp (disch := omega) [d87, hget_at hj, hset_at hj, hset_sa hj, hget_at hr, h1, bytesOf_bcells, bcells_len, ht]
    · have e1 : ((c.toNat : Int) == 10) = false := by rw [e10]; simpa using h1
      have hp : Rd.put most ⟨buf, line, true, true, st⟩ c = ⟨buf, line, true, true, 2⟩ := by simp [Rd.put, hst, h1]
      rw [hp]
      refine ⟨H, v, ?_, hj, hb, Nat.le_refl _, fun k o _ _ h => h, fun k hk => .inl hk⟩
      simp (disch := omega) [d87, hget_at hj, e1]
  | false =>
    by_cases h1 : c = 10
    · have e1 : ((c.toNat : Int) == 10) = true := by rw [e10, h1]; rfl
      have hp : Rd.put most ⟨buf, line, false, true, st⟩ c = ⟨buf, line, false, true, 2⟩ := by simp [Rd.put, hst, h1]
      rw [hp]
      refine ⟨H, v, ?_, hj, hb, Nat.le_refl _, fun k o _ _ h => h, fun k hk => .inl hk⟩
      simp (disch := omega) [d87, hget_at hj, h1]
    · have e1 : ((c.toNat : Int) == 10) = false := by rw [e10]; simpa using h1
      by_cases h2 : c = 13
      · have e2 : ((c.toNat : Int) == 13) = true := by rw [e13, h2]; rfl
        have hp : Rd.put most ⟨buf, line, false, true, st⟩ c = ⟨buf, line, true, true, 0⟩ := by simp [Rd.put, hst, h2]
        rw [hp]
        refine ⟨H.set j (rdRow most v ⟨buf, line, true, true, st⟩), v, ?_, by rw [set_self hj], ?_, by simp, fun k o hk _ h => set_ne hk h, fun k hk => .inl hk⟩
        · simp (disch := omega) [d87, hget_at hj, hset_at hj, h2]
        · exact hb.mono fun k o hk h => set_ne (fun e => hvj (by rw [← e]; exact hk)) h
      · have e2 : ((c.toNat : Int) == 13) = false := by rw [e13]; simpa using h2
        by_cases h3 : buf.length = most
        · have hp : Rd.put most ⟨buf, line, false, true, st⟩ c = ⟨buf, line, false, true, 3⟩ := by simp [Rd.put, hst, h1, h2, h3]
          rw [hp]
          refine ⟨H, v, ?_, hj, hb, Nat.le_refl _, fun k o _ _ h => h, fun k hk => .inl hk⟩
          subst h3
          rcases hb with ⟨rfl, rfl⟩ | ⟨k, g, rfl, h0, hr⟩ <;> simp (disch := omega) [d87, hget_at hj, e1, e2]
        · have hp : Rd.put most ⟨buf, line, false, true, st⟩ c = ⟨buf ++ [c], line, false, true, 0⟩ := by simp [Rd.put, hst, h1, h2, h3]
          rw [hp]
          obtain ⟨H', v', ha, ho, hlen, hfr, hrow⟩ := hb.append c hl
          have hj' := hfr j _ hvj hj
          have hvj' : rowOf v' ≠ some j := fun e => (hrow j e).elim hvj (fun h => by have := (List.getElem?_eq_some_iff.1 hj).1; omega)
          refine ⟨H'.set j (rdRow most v' ⟨buf ++ [c], line, false, true, st⟩), v', ?_, by rw [set_self hj'], ?_, by simpa using hlen, fun k o hk hk' h => set_ne hk (hfr k o hk' h), hrow⟩
          · have h3' : ((buf.length : Int) == most) = false := by rw [beq_eq_false_iff_ne]; omega
            have hc1 := ho.cell
            have hc2 := cells_cell hc1
            rcases hb with ⟨rfl, rfl⟩ | ⟨k, g, rfl, h0, hr⟩ <;> simp at h3' <;> simp (disch := omega) [d87, hget_at hj, e1, e2, ha, hset_at hj', hc1, hc2]
          · exact ho.mono fun k o hk h => set_ne (fun e => hvj' (by rw [← e]; exact hk)) h
def rdP (H : Heap) (j most : Nat) (v : AV) (r' : Rd) (x : Option (AV × Heap)) : Prop := ∃ H' v', x = some (.int .i64 r'.st, H') ∧ H'[j]? = some (rdRow most v' r') ∧ Own H' v' r'.buf ∧ H.length ≤ H'.length ∧ (∀ k o, k ≠ j → rowOf v ≠ some k → H[k]? = some o → H'[k]? = some o) ∧ (∀ k, rowOf v' = some k → rowOf v = some k ∨ H.length ≤ k)
theorem rdput_ok (H : Heap) (j most : Nat) (v : AV) (r : Rd) (c : UInt8) (hj : H[j]? = some (rdRow most v r)) (hb : Own H v r.buf) (hvj : rowOf v ≠ some j) (hl : r.buf.length < 1000000000) :
    rdP H j most v (r.put most c) (C T 70 [.ptr j 0 0, .int .u8 c.toNat] H) := by
  rw [q70]
  by_cases hst : r.st = 2 ∨ r.st = 3
  · have hp : r.put most c = r := if_pos hst
    rw [hp]
    refine ⟨H, v, ?_, hj, hb, Nat.le_refl _, fun k o _ _ h => h, fun k hk => .inl hk⟩
    rcases hst with h | h <;> simp [d70, hget_at hj, h, aeq]
  · have hj1 : (H.set j (rdRow most v { r with op := true }))[j]? = some (rdRow most v { r with op := true }) := set_self hj
    have hb1 : Own (H.set j (rdRow most v { r with op := true })) v r.buf := hb.mono fun k o hk h => set_ne (fun e => hvj (by rw [← e]; exact hk)) h
    have hpo : Rd.put most { r with op := true } c = r.put most c := by
      obtain ⟨buf, line, cr, op, st⟩ := r
      simp only at hst
      unfold Rd.put
      rw [if_neg hst, if_neg hst]
    obtain ⟨H', v', h1, h2, h3, h4, h5, h6⟩ := next_ok _ j most v { r with op := true } c hj1 hb1 hvj hst rfl hl
    rw [hpo] at h1 h2 h3
    have hlen : H.length ≤ H'.length := by simpa using h4
    have hvj' : rowOf v' ≠ some j := fun e => (h6 j e).elim hvj (fun h => by have := (List.getElem?_eq_some_iff.1 hj).1; simp at h; omega)
    refine ⟨H'.set j (rdRow most v' (r.put most c)), v', ?_, set_self h2, ?_, by simpa using hlen, fun k o hk hk' h => set_ne hk (h5 k o hk hk' (set_ne hk h)), fun k hk => by simpa using h6 k hk⟩
    · have s2 : ((r.st : Int) == 2) = false := by rw [beq_eq_false_iff_ne]; omega
      have s3 : ((r.st : Int) == 3) = false := by rw [beq_eq_false_iff_ne]; omega
      generalize r.put most c = r' at *
      simp at s2 s3
      simp [d70, hget_at hj, hset_at hj, s2, s3, aeq, h1, hset_at h2, hget_sa h2]
    · exact h3.mono fun k o hk h => set_ne (fun e => hvj' (by rw [← e]; exact hk)) h
end Go.Eng.S
