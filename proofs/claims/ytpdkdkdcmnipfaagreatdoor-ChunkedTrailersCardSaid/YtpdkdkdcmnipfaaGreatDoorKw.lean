/- Hexadecimal texts of numbers; chunked bodies of parts. No condition. -/
import Derived.Test.YtpdkdkdcmnipfaaGreatDoorKx
namespace Go.Eng.S
open Go Go.Eng
/-- The number of digits, without a bound. -/
def hval : List UInt8 → Int → Int
  | [], n => n
  | c :: r, n => hval r (n * 16 + hxI c)
theorem hval_ge : ∀ (l : List UInt8) (n : Int), 0 ≤ n → n ≤ hval l n
  | [], n, _ => Int.le_refl n
  | c :: r, n, h => by
    have h1 := rhexD.ge c
    have h2 := hval_ge r (n * 16 + hxI c) (by omega)
    show n ≤ hval r (n * 16 + hxI c)
    omega
theorem dv_hv (m : Int) : ∀ (l : List UInt8) (n : Int), 0 ≤ n → n ≤ m → dv 16 m hxI l n = if m < hval l n then none else some (hval l n)
  | [], n, _, hm => by rw [if_neg (by show ¬ m < n; omega)]; rfl
  | c :: r, n, h, hm => by
    have h1 := rhexD.ge c
    have h2 := hval_ge r (n * 16 + hxI c) (by omega)
    rw [dv]
    show _ = if m < hval r (n * 16 + hxI c) then none else some (hval r (n * 16 + hxI c))
    by_cases hg : m < n * 16 + hxI c
    · rw [if_pos hg, if_pos (by omega)]
    · rw [if_neg hg, dv_hv m r _ (by omega) (by omega)]
/-- What is asked of a text of a size. -/
def hxOK (n : Nat) : Bool := decide (hx n ≠ []) && (hx n).all (fun c => hxB c && decide (c ≠ 59) && decide (c ≠ 13) && decide (c ≠ 10) && !blk c) && decide (hval (hx n) 0 = n) && decide ((hx n).length ≤ 5)
theorem hx_ok : (List.range 301).all hxOK = true := by decide +kernel
structure HxF (n : Nat) : Prop where
  ne : hx n ≠ []
  hex : ∀ c ∈ hx n, hxB c = true
  semi : 59 ∉ hx n
  cr : ∀ c ∈ hx n, c ≠ 13 ∧ c ≠ 10
  blk : ∀ c ∈ hx n, blk c = false
  val : hval (hx n) 0 = n
  len : (hx n).length ≤ 5
theorem hx_f (n : Nat) (hn : n ≤ 300) : HxF n := by
  have h := List.all_eq_true.1 hx_ok n (List.mem_range.2 (by omega))
  unfold hxOK at h
  simp only [Bool.and_eq_true, decide_eq_true_eq, List.all_eq_true, Bool.not_eq_true'] at h
  obtain ⟨⟨⟨h1, h2⟩, h3⟩, h4⟩ := h
  exact ⟨h1, fun c hc => (h2 c hc).1.1.1.1, fun hm => (h2 _ hm).1.1.1.2 rfl, fun c hc => ⟨(h2 c hc).1.1.2, (h2 c hc).1.2⟩, fun c hc => (h2 c hc).2, h3, h4⟩
theorem trimR_id {s : List UInt8} (h : ∀ c ∈ s, blk c = false) : trimR s = s := by
  rcases List.eq_nil_or_concat s with rfl | ⟨t, c, rfl⟩
  · rfl
  · rw [List.concat_eq_append] at *
    rw [trimR_app, if_neg (by rw [h c (by simp)]; simp)]
/-- A size line of a number. -/
theorem dsz_hx (m n k : Nat) (hn : n ≤ 300) : dsz m (hx n) k = if (m : Int) < n then .inl 413 else if (m : Int) < k + n then .inl 413 else .inr n := by
  have F := hx_f n hn
  unfold dsz
  simp only [F.semi, if_false]
  rw [if_neg (by simp), trimR_id F.blk, if_neg F.ne, firstBad_none.2 F.hex, dv_hv m _ 0 (Int.le_refl 0) (by omega), F.val]
  by_cases h : (m : Int) < n
  · rw [if_pos h, if_pos h]
  · rw [if_neg h, if_neg h]
    rfl
theorem lineR_plain {most : Nat} : ∀ (q p rest : List UInt8), (∀ c ∈ q, c ≠ 13 ∧ c ≠ 10) → p.length + q.length ≤ most → lineR most p (q ++ 13 :: 10 :: rest) = .ok (p ++ q) rest
  | [], p, rest, _, _ => by
    rw [List.nil_append, lineR_c, if_neg (by decide), if_pos rfl, List.append_nil]
    rfl
  | c :: q, p, rest, h, hl => by
    have hc := h c (by simp)
    simp only [List.length_cons] at hl
    rw [List.cons_append, lineR_c, if_neg hc.2, if_neg hc.1, if_neg (by omega), lineR_plain q (p ++ [c]) rest (fun d hd => h d (by simp [hd])) (by simp; omega)]
    simp
/-- A chunk, and a body of parts. -/
def chunk (p : List UInt8) : List UInt8 := if p = [] then [] else hx p.length ++ [13, 10] ++ p ++ [13, 10]
def encT (ps : List (List UInt8)) : List UInt8 := ps.flatMap chunk ++ [48, 13, 10, 13, 10]
theorem read_end (L : Lm) (hL : 1 ≤ L.line) (k at_ : Nat) (out more : List UInt8) (ho : out.length ≤ L.body) : readR L.lim (k + 1) at_ out ([48, 13, 10, 13, 10] ++ more) = .ok out (at_ + 5) := by
  have hll : L.lim.line = L.line := rfl
  have hls : L.lim.size = dsz L.body := rfl
  have h1 := lineR_plain (most := L.line) [48] [] (13 :: 10 :: more) (by decide) (by simpa using hL)
  have h2 := dsz_hx L.body 0 out.length (by decide)
  have e0 : hx 0 = [48] := by decide
  have e1 : [48, 13, 10, 13, 10] ++ more = [48] ++ 13 :: 10 :: 13 :: 10 :: more := rfl
  rw [e0] at h2
  rw [e1, readR_k, hll, hls, h1]
  dsimp only [List.nil_append]
  rw [h2]
  have h3 := lineR_plain (most := L.line) [] [] more (by simp) (by simp)
  rw [if_neg (by omega), if_neg (by omega)]
  dsimp only
  rw [if_pos rfl, trailR, hll]
  have e2 : (13 :: 10 :: more) = [] ++ 13 :: 10 :: more := rfl
  rw [e2, h3]
  rfl
theorem enc_cons (p : List UInt8) (ps : List (List UInt8)) : encT (p :: ps) = chunk p ++ encT ps := by
  unfold encT
  rw [List.flatMap_cons, List.append_assoc]
theorem read_enc (L : Lm) (hL : 10 ≤ L.line) : ∀ (ps : List (List UInt8)) (k at_ : Nat) (out more : List UInt8), ps.length < k → (∀ p ∈ ps, p.length ≤ 300) → (out ++ ps.flatten).length ≤ L.body →
    readR L.lim k at_ out (encT ps ++ more) = .ok (out ++ ps.flatten) (at_ + (encT ps).length)
  | [], k, at_, out, more, hk, _, hb => by
    obtain ⟨k, rfl⟩ : ∃ j, k = j + 1 := ⟨k - 1, by simp at hk; omega⟩
    have := read_end L (by omega) k at_ out more (by simpa using hb)
    simpa [encT] using this
  | p :: ps, k, at_, out, more, hk, hp, hb => by
    obtain ⟨k, rfl⟩ : ∃ j, k = j + 1 := ⟨k - 1, by simp at hk; omega⟩
    simp only [List.length_cons] at hk
    have hps : ∀ q ∈ ps, q.length ≤ 300 := fun q hq => hp q (by simp [hq])
    rw [enc_cons]
    by_cases hn : p = []
    · subst hn
      have := read_enc L hL ps (k + 1) at_ out more (by omega) hps (by simpa using hb)
      simpa [chunk] using this
    · have hpl := hp p (by simp)
      have hn0 : p.length ≠ 0 := by simpa using hn
      have F := hx_f p.length hpl
      have hbl : out.length + p.length + ps.flatten.length ≤ L.body := by simpa [Nat.add_assoc] using hb
      have hll : L.lim.line = L.line := rfl
      have hls : L.lim.size = dsz L.body := rfl
      have hlen := F.len
      have h1 := lineR_plain (most := L.line) (hx p.length) [] (p ++ 13 :: 10 :: (encT ps ++ more)) F.cr (by simp; omega)
      have h2 := dsz_hx L.body p.length out.length hpl
      have e1 : chunk p ++ encT ps ++ more = hx p.length ++ 13 :: 10 :: (p ++ 13 :: 10 :: (encT ps ++ more)) := by
        unfold chunk
        rw [if_neg hn]
        simp
      have ih := read_enc L hL ps k (at_ + (hx p.length).length + 2 + p.length + 2) (out ++ p) more (by omega) hps (by rw [List.length_append, List.length_append]; omega)
      rw [e1, readR_k, hll, hls, h1]
      dsimp only [List.nil_append]
      rw [h2, if_neg (by omega), if_neg (by omega)]
      dsimp only
      rw [if_neg hn0, if_neg (by simp), List.drop_left, List.take_left]
      have hc : crlfR (at_ + (hx p.length).length + 2 + p.length) (13 :: 10 :: (encT ps ++ more)) = .inr (encT ps ++ more) := rfl
      rw [hc]
      dsimp only
      rw [ih]
      have el : (chunk p ++ encT ps).length = (hx p.length).length + 2 + p.length + 2 + (encT ps).length := by
        unfold chunk
        rw [if_neg hn]
        simp
        omega
      rw [el, List.flatten_cons, List.append_assoc]
      congr 1
      omega
/-- A chunk that is longer than the limit. -/
theorem read_big (L : Lm) (hL : 10 ≤ L.line) (p : List UInt8) (hp : p.length ≤ 300) (hn : p ≠ []) (hb : L.body < p.length) (k : Nat) : readR L.lim (k + 1) 0 [] (encT [p]) = .bad 413 ((hx p.length).length + 1) := by
  have F := hx_f p.length hp
  have hll : L.lim.line = L.line := rfl
  have hls : L.lim.size = dsz L.body := rfl
  have hlen := F.len
  have h1 := lineR_plain (most := L.line) (hx p.length) [] (p ++ 13 :: 10 :: (encT [])) F.cr (by simp; omega)
  have h2 := dsz_hx L.body p.length 0 hp
  have e1 : encT [p] = hx p.length ++ 13 :: 10 :: (p ++ 13 :: 10 :: encT []) := by
    rw [enc_cons]
    unfold chunk
    rw [if_neg hn]
    simp
  rw [e1, readR_k, hll, hls, h1]
  dsimp only [List.nil_append, List.length_nil]
  rw [h2, if_pos (by omega)]
  simp
theorem cutI_app (x : UInt8) : ∀ (q r : List UInt8), (∀ c ∈ q, c ≠ x) → cutI x (q ++ r) = q.length + cutI x r
  | [], r, _ => by simp
  | a :: q, r, h => by
    rw [List.cons_append, cutI_cons, if_neg (h a (by simp)), cutI_app x q r (fun c hc => h c (by simp [hc]))]
    simp; omega
theorem nl_at (p : List UInt8) (hp : p.length ≤ 300) (hn : p ≠ []) : cutI 10 (encT [p]) = (hx p.length).length + 1 := by
  have F := hx_f p.length hp
  have e1 : encT [p] = hx p.length ++ 13 :: 10 :: (p ++ 13 :: 10 :: encT []) := by
    rw [enc_cons]
    unfold chunk
    rw [if_neg hn]
    simp
  rw [e1, cutI_app 10 _ _ (fun c hc => (F.cr c hc).2), cutI_cons, if_neg (by decide), cutI_cons, if_pos rfl]
end Go.Eng.S
