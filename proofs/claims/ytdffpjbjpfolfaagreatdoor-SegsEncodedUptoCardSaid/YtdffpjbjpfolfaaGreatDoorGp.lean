/- The reference's raw segments. No condition. -/
import Derived.Test.YtdffpjbjpfolfaaGreatDoorGo
import Derived.Test.YtdffpjbjpfolfaaGreatDoorGg
namespace Go.Eng.S
open Go Go.Eng
/-- The segments behind these ones. -/
def rr : List Seg → Seg → List Seg
  | out, [] => out
  | out, c :: r => if c = 47 then rr (out ++ [[]]) r else rr (out.dropLast ++ [out.getLastD [] ++ [c]]) r
def appH (x : Seg) : List Seg → List Seg
  | h :: t => (x ++ h) :: t
  | [] => [x]
theorem rr_eq : ∀ (r : Seg) (out : List Seg) (x : Seg), rr (out ++ [x]) r = out ++ appH x (spl r)
  | [], out, x => by simp [rr, spl, appH]
  | c :: r, out, x => by
    rw [rr, spl]
    by_cases hc : c = 47
    · rw [if_pos hc, if_pos hc, rr_eq r (out ++ [x]) []]
      have : appH [] (spl r) = spl r := by
        cases h : spl r with
        | nil => exact absurd h (spl_ne r)
        | cons a t => rfl
      rw [this]
      simp [appH]
    · rw [if_neg hc, if_neg hc]
      have e1 : (out ++ [x]).dropLast = out := by simp
      have e2 : (out ++ [x]).getLastD [] = x := by simp [List.getLastD_eq_getLast?]
      rw [e1, e2, rr_eq r out (x ++ [c])]
      cases h : spl r with
      | nil => exact absurd h (spl_ne r)
      | cons a t => simp [appH, consH]
theorem rr_raw (s : Seg) (h : sl1 s = true) : rr [] s = rawL s := by
  cases s with
  | nil => cases h
  | cons c r =>
    have hc : c = 47 := by simpa [sl1] using h
    subst hc
    unfold rawL
    rw [if_pos h, rr, if_pos rfl, rr_eq r [] []]
    cases hh : spl r with
    | nil => exact absurd hh (spl_ne r)
    | cons a t => simp [appH, hh]
theorem OwnS.last {b k g : Nat} {H : Heap} {out : List Seg} (h : OwnS b H (.ms k 0 out.length 1 g) out) (hne : out ≠ []) (x : Seg) :
    ∃ H', hget H k (out.length - 1) 1 g = some [.str (out.getLastD [])] ∧ hset H k (out.length - 1) g [.str x] = some H' ∧ OwnS b H' (.ms k 0 out.length 1 g) (out.dropLast ++ [x]) := by
  have hl : 0 < out.length := List.length_pos_iff.2 hne
  rcases h with ⟨e, _⟩ | ⟨k', g', cs, e, h0, h3, h4, h5⟩
  · exact absurd e hne
  · cases e
    have hlast : cs[out.length - 1]? = some (.str (out.getLastD [])) := by
      have h6 : (cs.take out.length)[out.length - 1]? = cs[out.length - 1]? := by rw [List.getElem?_take, if_pos (by omega)]
      rw [← h6, h4]
      unfold scells
      rw [List.getElem?_map, List.getLastD_eq_getLast?, List.getLast?_eq_getElem?, List.getElem?_eq_getElem (by omega)]
      rfl
    refine ⟨H.set k ⟨splice cs (out.length - 1) [.str x], g, true, .no⟩, ?_, ?_, .inr ⟨k, g, _, by simp; omega, h0, set_self h3, ?_, ?_⟩⟩
    · rw [hget_at h3, if_pos (by omega)]
      obtain ⟨hlt, he⟩ := List.getElem?_eq_some_iff.1 hlast
      rw [List.drop_eq_getElem_cons hlt, he]
      rfl
    · rw [hset_at h3, if_pos (by simp; omega)]
    · have e1 : (out.dropLast ++ [x]).length = out.length := by simp; omega
      rw [e1]
      unfold splice
      have e2 : (cs.take (out.length - 1) ++ [AV.str x]).length = out.length := by simp; omega
      rw [List.take_left' e2, sc_app]
      have e3 : cs.take (out.length - 1) = (cs.take out.length).take (out.length - 1) := by rw [List.take_take]; congr 1; omega
      rw [e3, h4]
      simp [scells, List.dropLast_eq_take, List.map_take]
    · rw [splice_len (by simp; omega)]
      simp; omega
def rrP (out : List Seg) (x : XR) : Prop := ∃ e' H' v, x = some (.exit 0, e', H') ∧ e'.get 3 = v ∧ OwnS 0 H' v out
theorem rr_loop (s : Seg) (hs : s.length < 100000000) (hsl : sl1 s = true) : ∀ (n i : Nat) (out : List Seg) (H : Heap) (v : AV), i + n = s.length → out.length ≤ i → (0 < i → out ≠ []) → (out.getLastD []).length ≤ i → OwnS 0 H v out →
    rrP (rr out (s.drop i)) (XL T [0, 3, 4] L11_0 [(0, .str s), (3, v), (4, .int .i64 i)] H)
  | 0, i, out, H, v, hn, ho, hi, hg, hO => by
    have hd : s.drop i = [] := List.drop_eq_nil_of_le (by omega)
    rw [hd, XL_eq]
    have hx : ∃ e', seqK (X T L11_0 (Env.keep [0, 3, 4] [(0, .str s), (3, v), (4, .int .i64 i)]) H) (fun e' H' => XL T [0, 3, 4] L11_0 (Env.keep [0, 3, 4] e') H') = some (.exit 0, e', H) ∧ e'.get 3 = v := by
      simp (disch := omega) [L11_0]
    obtain ⟨e', x1, x2⟩ := hx
    exact ⟨e', H, v, x1, x2, hO⟩
  | n + 1, i, out, H, v, hn, ho, hi, hg, hO => by
    have hlt : i < s.length := by omega
    have hd : s.drop i = s[i] :: s.drop (i + 1) := List.drop_eq_getElem_cons hlt
    have h0 : 0 < s.length := by omega
    have hs0 : s[0] = 47 := by
      cases s with
      | nil => cases hsl
      | cons c r => simpa [sl1] using hsl
    have hs0n : ((s[0].toNat : Int) != 47) = false := by rw [hs0]; rfl
    have e47 := u8_eqlit s[i] 47 47 rfl
    rw [hd, XL_eq, rr]
    by_cases hc : s[i] = 47
    · rw [if_pos hc]
      have hcb : ((s[i].toNat : Int) == 47) = true := by rw [hc]; rfl
      obtain ⟨H', v', p1, p2, _⟩ := hO.append [] (by omega) (Nat.zero_le _)
      have ih := rr_loop s hs hsl n (i + 1) (out ++ [[]]) H' v' (by omega) (by simp; omega) (fun _ => by simp) (by simp [List.getLastD_eq_getLast?]) p2
      push_cast at ih
      generalize XL T [0, 3, 4] L11_0 = lp at *
      by_cases hi0 : i = 0
      · subst hi0
        simp (disch := omega) [L11_0, hs0, p1]
        simpa using ih
      · have hib : ((i : Int) == 0) = false := by rw [beq_eq_false_iff_ne]; omega
        simp (disch := omega) [L11_0, hib, hcb, p1]
        exact ih
    · rw [if_neg hc]
      have hcb : ((s[i].toNat : Int) == 47) = false := by rw [e47]; simpa using hc
      have hi0 : i ≠ 0 := by rintro rfl; exact hc hs0
      have hib : ((i : Int) == 0) = false := by rw [beq_eq_false_iff_ne]; omega
      have hne := hi (by omega)
      have hl : 0 < out.length := List.length_pos_iff.2 hne
      rcases hO.lenv with ⟨e, _⟩ | ⟨k, g, rfl⟩
      · exact absurd e hne
      · obtain ⟨H', p1, p2, p3⟩ := hO.last hne (out.getLastD [] ++ [s[i]])
        have hlen : (out.dropLast ++ [out.getLastD [] ++ [s[i]]]).length = out.length := by simp; omega
        have ih := rr_loop s hs hsl n (i + 1) (out.dropLast ++ [out.getLastD [] ++ [s[i]]]) H' (.ms k 0 out.length 1 g) (by omega) (by rw [hlen]; omega) (fun _ => by simp) (by simp [List.getLastD_eq_getLast?] at hg ⊢; omega) p3
        push_cast at ih
        generalize XL T [0, 3, 4] L11_0 = lp at *
        have htk : (s.take (i + 1)).drop i = [s[i]] := by
          rw [List.drop_take, show i + 1 - i = 1 by omega, hd]
          rfl
        generalize hL : out.getLastD [] = L at *
        have hlim : L.length + 1 ≤ LIM := by unfold LIM; omega
        simp (disch := omega) [L11_0, hib, hcb, p1, htk, hlim, p2]
        exact ih
theorem rraw_ok (s : Seg) (hs : s.length < 10000000) (H : Heap) : C T 11 [.str s] H = some (rawV s, H) := by
  refine anyH fd11 rfl rfl ?_ H
  rw [q11]
  by_cases hb : sl1 s = true
  · have h := rr_loop s (by omega) hb s.length 0 [] [] nls (by omega) (by simp) (fun h => absurd h (by omega)) (by simp) (.inl ⟨rfl, rfl⟩)
    simp only [List.drop_zero, Int.natCast_zero] at h
    rw [rr_raw s hb] at h
    obtain ⟨e', H', v, x1, x2, x3⟩ := h
    have hv : rawV s = slS (rawL s) := if_pos hb
    have hne : rawL s ≠ [] := by unfold rawL; rw [if_pos hb]; exact spl_ne _
    obtain ⟨a, H2, s1, s2⟩ := snap_own x3 62
    have ha : a = slS (rawL s) := by
      rcases x3 with ⟨e, _⟩ | ⟨k, g, cs, rfl, h0, h3, h4, h5⟩
      · exact absurd e hne
      · have hg : hget H' k 0 ((rawL s).length * 1) g = some (scells (rawL s)) := by rw [hget_at h3]; simp [h5, h4]
        rw [snap_ms, hg] at s1
        simp only [mapS_sc] at s1
        cases s1
        rfl
    subst ha
    rw [hv]
    simp [d11, x1, x2, s1]
  · have hv : rawV s = nls := if_neg hb
    rw [hv]
    cases s with
    | nil =>
      rw [← q11]
      exact C_of 9 (by kernel_rfl)
    | cons c r =>
      have hc : ¬ c = 47 := by simpa [sl1] using hb
      have hcb : ((c.toNat : Int) != 47) = true := by
        have := u8_eqlit c 47 47 rfl
        simp only [bne, this]
        simpa using hc
      have hx : ∃ e', XL T [0, 3, 4] L11_0 [(0, .str (c :: r)), (3, nls), (4, .int .i64 0)] [] = some (.ret, e', []) ∧ e'.get 2 = nls := by
        rw [XL_eq]
        simp only [List.length_cons] at hs
        simp (disch := omega) [L11_0, hcb]
      obtain ⟨e', x1, x2⟩ := hx
      simp [d11, x1, x2]
end Go.Eng.S
