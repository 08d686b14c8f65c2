/- Percent encoding; the text of a path. No condition. -/
import Derived.Test.YtdffpjbjpfolfaaGreatDoorGm
namespace Go.Eng.S
open Go Go.Eng
/-- A byte, encoded. -/
def encB (c : UInt8) : Seg := if clsB 3 c = true then [c] else [37, dgU (c.toNat / 16), dgU (c.toNat % 16)]
def enc (s : Seg) : Seg := s.flatMap encB
theorem enc_cons (c : UInt8) (r : Seg) : enc (c :: r) = encB c ++ enc r := rfl
theorem encB_len (c : UInt8) : (encB c).length ≤ 3 := by unfold encB; split <;> simp
theorem enc_len : ∀ s : Seg, (enc s).length ≤ 3 * s.length
  | [] => Nat.le_refl _
  | c :: r => by
    have := enc_len r
    have := encB_len c
    rw [enc_cons, List.length_append, List.length_cons]; omega
def OwnB (H : Heap) (v : AV) (s : Seg) : Prop := (s = [] ∧ v = nls) ∨ ∃ k g, v = .ms k 0 s.length 1 g ∧ 0 < s.length ∧ H[k]? = some ⟨bcells s, g, true, .no⟩
theorem OwnB.append {H : Heap} {v : AV} {s : Seg} (h : OwnB H v s) (l : Seg) (h0 : l ≠ []) (hl : s.length + l.length < 1000000000) : ∃ H' v', aappend .no H 1 1 v l.length (bcells l) = some (v', H') ∧ OwnB H' v' (s ++ l) := by
  have hl0 : l.length ≠ 0 := by simpa using h0
  have hall : (bcells l).all AV.isCell = true := by simp [bcells]
  rcases h with ⟨rfl, rfl⟩ | ⟨k, g, rfl, hp, hr⟩
  · refine ⟨hnewK H .no (bcells l), .ms H.length 0 l.length 1 0, ?_, .inr ⟨H.length, 0, by simp, by simp; omega, by simp [hnew]⟩⟩
    unfold aappend
    rw [if_neg hl0]
    have : l.length * (1 + 1) ≤ LIM := by unfold LIM; omega
    simp [hall, this]
  · have hk := (List.getElem?_eq_some_iff.1 hr).1
    have ht : List.take s.length (bcells s) ++ bcells l = bcells (s ++ l) := by rw [List.take_of_length_le (by simp [bcells])]; simp [bcells]
    have hlim : (s.length + l.length) * (1 + 1) ≤ LIM := by unfold LIM; omega
    refine ⟨H.set k ⟨bcells (s ++ l), g + 1, true, .no⟩, .ms k 0 (s.length + l.length) 1 (g + 1), ?_, .inr ⟨k, g + 1, by simp, by simp; omega, by rw [set_self hr]⟩⟩
    unfold aappend
    rw [if_neg hl0]
    simp [hall, hlim, hr, bcells_len, ht]
theorem OwnB.str {H : Heap} {v : AV} {s : Seg} (h : OwnB H v s) : (s = [] ∧ v = nls) ∨ ∃ k g, v = .ms k 0 s.length 1 g ∧ hget H k 0 s.length g = some (bcells s) := by
  rcases h with h | ⟨k, g, rfl, hp, hr⟩
  · exact .inl h
  · refine .inr ⟨k, g, rfl, ?_⟩
    rw [hget_at hr, if_pos (by simp [bcells]), List.drop_zero, List.take_of_length_le (by simp [bcells])]
def encP (out : Seg) (x : XR) : Prop := ∃ e' H' v, x = some (.exit 0, e', H') ∧ e'.get 3 = v ∧ OwnB H' v out
theorem enc_loop (s : Seg) (hs : s.length < 100000000) : ∀ (n i : Nat) (out : Seg) (H : Heap) (v : AV), i + n = s.length → out.length ≤ 3 * i → OwnB H v out →
    encP (out ++ enc (s.drop i)) (XL T [0, 3, 7, 8] L34_0 [(0, .str s), (3, v), (7, .int .i64 s.length), (8, .int .i64 i)] H)
  | 0, i, out, H, v, hn, ho, hO => by
    have hd : s.drop i = [] := List.drop_eq_nil_of_le (by omega)
    rw [hd, XL_eq]
    have hx : ∃ e', seqK (X T L34_0 (Env.keep [0, 3, 7, 8] [(0, .str s), (3, v), (7, .int .i64 s.length), (8, .int .i64 i)]) H) (fun e' H' => XL T [0, 3, 7, 8] L34_0 (Env.keep [0, 3, 7, 8] e') H') = some (.exit 0, e', H) ∧ e'.get 3 = v := by
      simp (disch := omega) [L34_0]
    obtain ⟨e', x1, x2⟩ := hx
    exact ⟨e', H, v, x1, x2, by simpa [enc] using hO⟩
  | n + 1, i, out, H, v, hn, ho, hO => by
    have hlt : i < s.length := by omega
    have hd : s.drop i = s[i] :: s.drop (i + 1) := List.drop_eq_getElem_cons hlt
    have hu := unres_ok s[i]
    have hc := s[i].toNat_lt
    rw [hd, XL_eq, enc_cons, ← List.append_assoc]
    unfold encB
    have ih := enc_loop s hs n (i + 1)
    push_cast at ih
    generalize XL T [0, 3, 7, 8] L34_0 = lp at *
    cases hb : clsB 3 s[i] with
    | true =>
      rw [hb] at hu
      rw [if_pos rfl]
      obtain ⟨H', v', p1, p2⟩ := hO.append [s[i]] (by simp) (by simp; omega)
      have ih := ih (out ++ [s[i]]) H' v' (by omega) (by simp; omega) p2
      have hbc : bcells [s[i]] = [.int .u8 (s[i].toNat : Nat)] := rfl
      rw [hbc] at p1
      simp only [List.length_singleton] at p1
      simp (disch := omega) [L34_0, hu, p1]
      simpa using ih
    | false =>
      rw [hb] at hu
      rw [if_neg (by simp)]
      have d1 := digit16_ok (s[i].toNat / 16) (by omega)
      have d2 := digit16_ok (s[i].toNat % 16) (by omega)
      obtain ⟨H', v', p1, p2⟩ := hO.append [37, dgU (s[i].toNat / 16), dgU (s[i].toNat % 16)] (by simp) (by simp; omega)
      have ih := ih (out ++ [37, dgU (s[i].toNat / 16), dgU (s[i].toNat % 16)]) H' v' (by omega) (by simp; omega) p2
      have hbc : bcells [37, dgU (s[i].toNat / 16), dgU (s[i].toNat % 16)] = [.int .u8 37, .int .u8 ((dgU (s[i].toNat / 16)).toNat : Nat), .int .u8 ((dgU (s[i].toNat % 16)).toNat : Nat)] := rfl
      rw [hbc] at p1
      have hl3 : [(37 : UInt8), dgU (s[i].toNat / 16), dgU (s[i].toNat % 16)].length = 3 := rfl
      rw [hl3] at p1
      have e1 : ((s[i].toNat : Int).tdiv 16) = ((s[i].toNat / 16 : Nat) : Int) := by rw [Int.tdiv_eq_ediv_of_nonneg (by omega)]; omega
      have e2 : ((s[i].toNat : Int).tmod 16) = ((s[i].toNat % 16 : Nat) : Int) := by rw [Int.tmod_eq_emod_of_nonneg (by omega)]; omega
      have w1 : IntKind.u8.wrap (((s[i].toNat / 16 : Nat) : Int)) = ((s[i].toNat / 16 : Nat) : Int) := wr8 (by omega) (by omega)
      generalize dgU (s[i].toNat / 16) = D1 at *
      generalize dgU (s[i].toNat % 16) = D2 at *
      generalize s[i].toNat / 16 = q1 at *
      generalize s[i].toNat % 16 = q2 at *
      simp (disch := omega) [L34_0, hu, e1, e2, w1, d1, d2, p1]
      simpa using ih
theorem encode_ok (s : Seg) (hs : s.length < 100000000) (H : Heap) : C T 34 [.str s] H = some (.str (enc s), H) := by
  refine anyH fd34 rfl rfl ?_ H
  rw [q34]
  have h := enc_loop s hs s.length 0 [] [] nls (by omega) (by simp) (.inl ⟨rfl, rfl⟩)
  simp only [List.drop_zero, Int.natCast_zero, List.nil_append] at h
  obtain ⟨e', H', v, x1, x2, x3⟩ := h
  rcases x3.str with ⟨h0, rfl⟩ | ⟨k, g, rfl, hg⟩
  · rw [h0]
    simp [d34, x1, x2, bytesOf]
  · simp [d34, x1, x2, hg, bytesOf_bcells]
/-- The text of segments. -/
def segT (l : List Seg) : Seg := l.flatMap fun x => 47 :: enc x
theorem segT_cons (x : Seg) (l : List Seg) : segT (x :: l) = 47 :: (enc x ++ segT l) := rfl
theorem segT_app (l m : List Seg) : segT (l ++ m) = segT l ++ segT m := by unfold segT; rw [List.flatMap_append]
def txt (l : List Seg) (d : Bool) : Seg := if (d || l.isEmpty) = true then segT l ++ [47] else segT l
theorem segT_len : ∀ l : List Seg, (segT l).length ≤ 3 * lens l + l.length
  | [] => Nat.le_refl _
  | x :: l => by
    have := segT_len l
    have := enc_len x
    rw [segT_cons, lens_cons]
    simp only [List.length_cons, List.length_append]; omega
theorem text_loop (l : List Seg) (p : AV) (H : Heap) (hl : l.length < 1000000) (hx : lens l < 10000000) : ∀ (n i : Nat) (acc : Seg), i + n = l.length → acc.length + 3 * lens (l.drop i) + n < 50000000 →
    ∃ e', XL T [1, 3, 7, 8, 9] L15_0 [(1, p), (3, .str acc), (7, slS l), (8, .int .i64 l.length), (9, .int .i64 i)] H = some (.exit 0, e', H) ∧ e'.get 1 = p ∧ e'.get 3 = .str (acc ++ segT (l.drop i))
  | 0, i, acc, hn, ha => by
    have hd : l.drop i = [] := List.drop_eq_nil_of_le (by omega)
    rw [hd, XL_eq]
    simp (disch := omega) [L15_0, segT]
  | n + 1, i, acc, hn, ha => by
    have hlt : i < l.length := by omega
    have hd : l.drop i = l[i] :: l.drop (i + 1) := List.drop_eq_getElem_cons hlt
    rw [hd, lens_cons] at ha
    have hsd := sc_drop l i hlt
    have he := encode_ok l[i] (by omega)
    have hel := enc_len l[i]
    rw [hd, segT_cons, XL_eq]
    have ih := text_loop l p H hl hx n (i + 1) (acc ++ 47 :: enc l[i]) (by omega) (by simp; omega)
    push_cast at ih
    generalize XL T [1, 3, 7, 8, 9] L15_0 = lp at *
    generalize enc l[i] = E at *
    have h1 : E.length + 1 ≤ LIM := by unfold LIM; omega
    have h2 : acc.length + (E.length + 1) ≤ LIM := by unfold LIM; omega
    have h1' : 1 + E.length ≤ LIM := by omega
    simp (disch := omega) [L15_0, hsd, he, h1, h1', h2]
    simpa using ih
theorem text_ok {a : AV} {l : List Seg} (ha : Names a l) (d : Bool) (hl : l.length < 1000000) (hx : lens l < 10000000) (H : Heap) : C T 15 [.agg [a, .bool d]] H = some (.str (txt l d), H) := by
  refine anyH fd15 rfl (by simp [closedL, AV.closed, ha.closed]) ?_ H
  rw [q15]
  have hsa := fun k H => snap_names ha k H
  have hac := ha.cell
  rcases names_two ha with ⟨rfl, rfl⟩ | rfl
  · have hx : ∃ e', XL T [1, 3, 7, 8, 9] L15_0 [(1, .ptr 0 0 0), (3, .str []), (7, nls), (8, .int .i64 0), (9, .int .i64 0)] [⟨[nls, .bool d], 0, true, .no⟩] = some (.exit 0, e', [⟨[nls, .bool d], 0, true, .no⟩]) ∧ e'.get 1 = .ptr 0 0 0 ∧ e'.get 3 = .str [] := by
      rw [XL_eq]
      simp [L15_0]
    obtain ⟨e', x1, x2, x3⟩ := hx
    have ht : txt [] d = [47] := by unfold txt; simp [segT]
    have hlim : 1 ≤ LIM := by decide
    rw [ht]
    cases d <;> simp [d15, hget, x1, x2, x3, hlim]
  · obtain ⟨e', x1, x2, x3⟩ := text_loop l (.ptr 0 0 0) [⟨[slS l, .bool d], 0, true, .no⟩] hl hx l.length 0 [] (by omega) (by simp; omega)
    simp only [List.drop_zero, Int.natCast_zero, List.nil_append] at x1 x3
    have hlen := segT_len l
    have hlim : (segT l).length + 1 ≤ LIM := by unfold LIM; omega
    have hemp : (segT l == []) = l.isEmpty := by
      cases l with
      | nil => rfl
      | cons x r => rw [segT_cons]; rfl
    unfold txt
    cases d with
    | true => simp [d15, hsa, hget, x1, x2, x3, hlim]
    | false =>
      cases he : l.isEmpty with
      | true =>
        rw [he] at hemp
        simp [d15, hsa, hget, x1, x2, x3, hlim, hemp]
      | false =>
        rw [he] at hemp
        simp [d15, hsa, hget, x1, x2, x3, hemp]
end Go.Eng.S
