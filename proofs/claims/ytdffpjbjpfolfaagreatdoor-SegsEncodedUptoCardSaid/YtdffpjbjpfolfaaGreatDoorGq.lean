/- The reference's path. No condition. -/
import Derived.Test.YtdffpjbjpfolfaaGreatDoorGp
import Derived.Test.YtdffpjbjpfolfaaGreatDoorGn
namespace Go.Eng.S
open Go Go.Eng
def rowOf : AV → Option Nat
  | .ms k _ _ _ _ => some k
  | _ => none
/-- A slice that is appended to. -/
def OwnC (H : Heap) (v : AV) (cells : List AV) : Prop := (cells = [] ∧ v = nls) ∨ ∃ k g cs, v = .ms k 0 cells.length 1 g ∧ 1 ≤ k ∧ H[k]? = some ⟨cs, g, true, .no⟩ ∧ cs.take cells.length = cells ∧ cells.length ≤ cs.length
theorem OwnC.mono {H H' : Heap} {v : AV} {cells : List AV} (h : OwnC H v cells) (hf : ∀ (k : Nat) (o : AObj), rowOf v = some k → 1 ≤ k → H[k]? = some o → H'[k]? = some o) : OwnC H' v cells := by
  rcases h with h | ⟨k, g, cs, rfl, h2, h3, h4⟩
  · exact .inl h
  · exact .inr ⟨k, g, cs, rfl, h2, hf k _ rfl h2 h3, h4⟩
theorem OwnC.lt {H : Heap} {v : AV} {cells : List AV} (h : OwnC H v cells) {k : Nat} (hk : rowOf v = some k) : k < H.length ∧ 1 ≤ k := by
  rcases h with ⟨_, rfl⟩ | ⟨k', g, cs, rfl, h2, h3, h4⟩
  · cases hk
  · cases hk
    exact ⟨(List.getElem?_eq_some_iff.1 h3).1, h2⟩
theorem OwnC.append {H : Heap} {v : AV} {cells : List AV} (h : OwnC H v cells) (bytes : Nat) (hb : bytes ≤ 16) (x : AV) (hx : x.isCell = true) (hl : cells.length < 1000000000) (hH : 1 ≤ H.length) :
    ∃ H' v', aappend .no H 1 bytes v 1 [x] = some (v', H') ∧ OwnC H' v' (cells ++ [x]) ∧ H.length ≤ H'.length ∧ (∀ (k : Nat) (o : AObj), rowOf v ≠ some k → H[k]? = some o → H'[k]? = some o) ∧ ∀ k, rowOf v' = some k → rowOf v = some k ∨ k = H.length := by
  rcases h with ⟨rfl, rfl⟩ | ⟨k, g, cs, rfl, h0, h3, h4, h5⟩
  · refine ⟨hnewK H .no [x], .ms H.length 0 1 1 0, ?_, .inr ⟨H.length, 0, [x], rfl, hH, by simp [hnew], rfl, by simp⟩, by simp [hnew], fun k o _ hk => app_get hk, fun k hk => by cases hk; exact .inr rfl⟩
    unfold aappend
    have : 1 * (bytes + 1) ≤ LIM := by unfold LIM; omega
    simp [hx]
    omega
  · have hlim : (cells.length + 1) * (bytes + 1) ≤ LIM := by
      have : (cells.length + 1) * (bytes + 1) ≤ (cells.length + 1) * 17 := Nat.mul_le_mul_left _ (by omega)
      unfold LIM; omega
    have hk := (List.getElem?_eq_some_iff.1 h3).1
    refine ⟨H.set k ⟨cells ++ [x], g + 1, true, .no⟩, .ms k 0 (cells.length + 1) 1 (g + 1), ?_, .inr ⟨k, g + 1, cells ++ [x], by simp, h0, set_self h3, ?_, by simp⟩, by simp, fun k' o hk' hr => set_ne (fun e => hk' (by rw [e]; rfl)) hr, fun k' hk' => .inl hk'⟩
    · unfold aappend
      simp [hlim, h3, h5, h4, hx]
    · exact List.take_of_length_le (by simp)
/-- The first wrong byte of a path text. -/
def rscan : Nat → Seg → Option Nat
  | _, [] => none
  | i, c :: r => if c = 37 then (if tri r = none then some i else rscan (i + 1) r) else if alw c = true then rscan (i + 1) r else some i
def rscP (r : Option Nat) (x : XR) : Prop := match r with
  | none => ∃ e', x = some (.exit 0, e', [pRow nls false]) ∧ e'.get 2 = .ptr 0 0 0
  | some j => ∃ e', x = some (.ret, e', [pRow nls false]) ∧ e'.get 2 = .ptr 0 0 0 ∧ e'.get 3 = .int .i64 j
set_option maxHeartbeats 1000000 in
theorem rsc_loop (s : Seg) (hs : s.length < 100000000) : ∀ (n i : Nat), i + n = s.length →
    rscP (rscan i (s.drop i)) (XL T [0, 2, 4] L8_1 [(0, .str s), (2, .ptr 0 0 0), (4, .int .i64 i)] [pRow nls false]) ∧ (rscan i (s.drop i) = none → ∀ e' H', XL T [0, 2, 4] L8_1 [(0, .str s), (2, .ptr 0 0 0), (4, .int .i64 i)] [pRow nls false] = some (.exit 0, e', H') → e'.get 0 = .str s)
  | 0, i, hn => by
    have hd : s.drop i = [] := List.drop_eq_nil_of_le (by omega)
    rw [hd, XL_eq]
    refine ⟨?_, fun _ e' H' => ?_⟩
    · simp (disch := omega) [L8_1, rscP, rscan]
    · simp (disch := omega) [L8_1]
      rintro rfl _
      rfl
  | n + 1, i, hn => by
    have hlt : i < s.length := by omega
    have hd : s.drop i = s[i] :: s.drop (i + 1) := List.drop_eq_getElem_cons hlt
    obtain ⟨ih, ih2⟩ := rsc_loop s hs n (i + 1) (by omega)
    push_cast at ih ih2
    have hcl := class_ok s[i] 4 (by omega)
    have e47 := u8_eqlit s[i] 47 47 rfl
    have e37 := u8_eqlit s[i] 37 37 rfl
    have hh : ∀ (b1 b2 : Bool), hset [pRow nls b1] 0 0 0 [nls, .bool b2] = some [pRow nls b2] := fun _ _ => rfl
    rw [hd, XL_eq, rscan]
    generalize XL T [0, 2, 4] L8_1 = lp at *
    by_cases c37 : s[i] = 37
    · have b37 : ((s[i].toNat : Int) == 37) = true := by rw [c37]; rfl
      have n37 : ((s[i].toNat : Int) != 37) = false := by rw [c37]; rfl
      rw [if_pos c37]
      by_cases h2 : s.length ≤ i + 2
      · have ht : tri (s.drop (i + 1)) = none := by
          have hl : (s.drop (i + 1)).length ≤ 1 := by simp; omega
          match s.drop (i + 1), hl with
          | [], _ => rfl
          | [_], _ => rfl
        rw [if_pos ht]
        refine ⟨?_, fun h => by cases h⟩
        simp (disch := omega) [L8_1, b37, rscP, hh]
      · have h1' : i + 1 < s.length := by omega
        have h2' : i + 2 < s.length := by omega
        have hd1 : s.drop (i + 1) = s[i + 1] :: s[i + 2] :: s.drop (i + 3) := by
          rw [List.drop_eq_getElem_cons h1', List.drop_eq_getElem_cons h2']
        have htc := tri_cons s[i + 1] s[i + 2] (s.drop (i + 3))
        rw [← hd1] at htc
        rw [htc]
        have r1 := rhex_ok s[i + 1]
        have r2 := rhex_ok s[i + 2]
        by_cases c1 : hexI s[i + 1].toNat < 0
        · have ht : ¬ (0 ≤ hexI s[i + 1].toNat ∧ 0 ≤ hexI s[i + 2].toNat) := by omega
          rw [if_neg ht, if_pos rfl]
          refine ⟨?_, fun h => by cases h⟩
          simp (disch := omega) [L8_1, b37, r1, c1, rscP, hh]
        · by_cases c2 : hexI s[i + 2].toNat < 0
          · have ht : ¬ (0 ≤ hexI s[i + 1].toNat ∧ 0 ≤ hexI s[i + 2].toNat) := by omega
            rw [if_neg ht, if_pos rfl]
            refine ⟨?_, fun h => by cases h⟩
            simp (disch := omega) [L8_1, b37, r1, r2, c1, c2, rscP, hh]
          · have ht : 0 ≤ hexI s[i + 1].toNat ∧ 0 ≤ hexI s[i + 2].toNat := by omega
            rw [if_pos ht, if_neg (by simp)]
            refine ⟨?_, fun h e' H' => ?_⟩
            · simp (disch := omega) [L8_1, b37, n37, r1, r2, c1, c2]
              exact ih
            · simp (disch := omega) [L8_1, b37, n37, r1, r2, c1, c2]
              exact ih2 h e' H'
    · have b37 : ((s[i].toNat : Int) == 37) = false := by rw [e37]; simpa using c37
      have n37 : ((s[i].toNat : Int) != 37) = true := by simp only [bne, b37]; rfl
      rw [if_neg c37]
      by_cases c47 : s[i] = 47
      · have n47 : ((s[i].toNat : Int) != 47) = false := by rw [c47]; rfl
        have ha : alw s[i] = true := by rw [c47]; rfl
        rw [if_pos ha]
        refine ⟨?_, fun h e' H' => ?_⟩
        · simp (disch := omega) [L8_1, b37, n37, n47]
          exact ih
        · simp (disch := omega) [L8_1, b37, n37, n47]
          exact ih2 h e' H'
      · have n47 : ((s[i].toNat : Int) != 47) = true := by simp only [bne, e47]; simpa using c47
        have ha : alw s[i] = clsB 4 s[i] := by
          have x1 : (s[i] == 47) = false := by simpa using c47
          have x2 : (s[i] == 37) = false := by simpa using c37
          unfold alw
          rw [x1, x2]
          rfl
        rw [ha]
        have hcl' : ∀ H, C T 18 [.int .u8 s[i].toNat, .int .i64 4] H = some (.bool (clsB 4 s[i]), H) := hcl
        cases hb : clsB 4 s[i] with
        | true =>
          rw [hb] at hcl'
          rw [if_pos rfl]
          refine ⟨?_, fun h e' H' => ?_⟩
          · simp (disch := omega) [L8_1, b37, n37, n47, hcl']
            exact ih
          · simp (disch := omega) [L8_1, b37, n37, n47, hcl']
            exact ih2 h e' H'
        | false =>
          rw [hb] at hcl'
          rw [if_neg (by simp)]
          refine ⟨?_, fun h => by cases h⟩
          simp (disch := omega) [L8_1, b37, n37, n47, hcl', rscP, hh]
end Go.Eng.S
