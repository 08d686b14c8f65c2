/- strings.Builder, on a heap. No condition. -/
import Derived.Test.YtdffpjbjpfolfaaGreatDoorGa
namespace Go.Eng.S
open Go Go.Eng
theorem hget_at {H : Heap} {j : Nat} {cs : List AV} {g : Nat} {l : Bool} {kd : Kd} (h : H[j]? = some ⟨cs, g, l, kd⟩) (off n : Nat) : hget H j off n g = if off + n ≤ cs.length then some ((cs.drop off).take n) else none := by
  unfold hget; rw [h]; simp
theorem hset_at {H : Heap} {j : Nat} {cs : List AV} {g : Nat} {kd : Kd} (h : H[j]? = some ⟨cs, g, true, kd⟩) (off : Nat) (vs : List AV) : hset H j off g vs = if off + vs.length ≤ cs.length then some (H.set j ⟨splice cs off vs, g, true, kd⟩) else none := by
  unfold hset; rw [h]; simp
theorem typ_at {H : Heap} {j : Nat} {cs : List AV} {g : Nat} {t : TypeId} (h : H[j]? = some ⟨cs, g, true, .typ t⟩) : typOf H j g = some t := by
  unfold typOf; rw [h]; simp
theorem set_self {H : Heap} {j : Nat} {o x : AObj} (hk : H[j]? = some o) : (H.set j x)[j]? = some x := by
  rw [List.getElem?_set_self (List.getElem?_eq_some_iff.1 hk).1]
theorem set_ne {H : Heap} {j k : Nat} {o x : AObj} (h : k ≠ j) (hk : H[k]? = some o) : (H.set j x)[k]? = some o := by
  rw [List.getElem?_set_ne (Ne.symm h), hk]
theorem app_get {H : Heap} {G : Heap} {k : Nat} {o : AObj} (h : H[k]? = some o) : (H ++ G)[k]? = some o := by
  rw [List.getElem?_append_left (List.getElem?_eq_some_iff.1 h).1, h]

/-- A builder that holds these bytes. -/
structure Bld (H : Heap) (j : Nat) (out : List UInt8) (ad bv : AV) : Prop where
  row : H[j]? = some ⟨[ad, bv], 0, true, .typ 79⟩
  addr : ad = .cst (.pointer none) ∨ ad = .ptr j 0 0
  buf : (out = [] ∧ bv = .cst (.slice none 0 0)) ∨ ∃ k g cs, bv = .ms k 0 out.length 1 g ∧ k ≠ j ∧ H[k]? = some ⟨cs, g, true, .typ 5⟩ ∧ cs.take out.length = bcells out ∧ out.length ≤ cs.length
theorem Bld.cell {H : Heap} {j : Nat} {out : List UInt8} {ad bv : AV} (h : Bld H j out ad bv) : bv.isCell = true := by
  rcases h.buf with ⟨_, rfl⟩ | ⟨k, g, cs, rfl, _⟩ <;> rfl
theorem pf72 : T.fn 72 = some (.prim pSame) := by kernel_rfl
theorem ip72 : isPure T 72 = false := by kernel_rfl
/-- copyCheck. -/
theorem chk_ok {H : Heap} {j : Nat} {out : List UInt8} {ad bv : AV} (h : Bld H j out ad bv) : ∃ H', C T 57 [.ptr j 0 0] H = some (.tup [], H') ∧ Bld H' j out (.ptr j 0 0) bv ∧ H'.length = H.length := by
  have hr := h.row
  have hj := (List.getElem?_eq_some_iff.1 hr).1
  rw [q57]
  have hne : ∀ (a : List AV) (H : Heap), C T 72 a H = pSame a H := fun a H => C_prim pf72 a H
  rcases h.addr with rfl | rfl
  · refine ⟨H.set j ⟨[.ptr j 0 0, bv], 0, true, .typ 79⟩, ?_, ⟨set_self hr, .inr rfl, ?_⟩, by simp⟩
    · have ha : aeq T 9 .nptr true (.cst (.pointer none)) (.cst (.pointer none)) = some true := rfl
      have h2 := hget_at (set_self (x := ⟨[.ptr j 0 0, bv], 0, true, .typ 79⟩) hr)
      simp [d57, hget_at hr, hset_at hr, typ_at hr, ha, hne, pSame]
    · rcases h.buf with hb | ⟨k, g, cs, h1, h2, h3, h4⟩
      · exact .inl hb
      · exact .inr ⟨k, g, cs, h1, h2, set_ne h2 h3, h4⟩
  · refine ⟨H, ?_, h, rfl⟩
    have ha : aeq T 9 .nptr true (.ptr j 0 0) (.cst (.pointer none)) = some false := rfl
    simp [d57, hget_at hr, ha]
theorem take_app {cs : List AV} {out : List UInt8} (h : cs.take out.length = bcells out) (l : List UInt8) : cs.take out.length ++ bcells l = bcells (out ++ l) := by rw [h]; simp [bcells]
/-- Bytes appended to a builder's own. -/
theorem bapp_ok {H : Heap} {j : Nat} {out : List UInt8} {ad bv : AV} (h : Bld H j out ad bv) (l : List UInt8) (hl : l ≠ []) (hlen : out.length + l.length < 1000000000) :
    ∃ H' bv', aappend (.typ 5) H 1 1 bv l.length (bcells l) = some (bv', H') ∧ H'[j]? = some ⟨[ad, bv], 0, true, .typ 79⟩ ∧ bv'.isCell = true ∧ Bld (H'.set j ⟨[ad, bv'], 0, true, .typ 79⟩) j (out ++ l) ad bv' := by
  have hr := h.row
  have hj := (List.getElem?_eq_some_iff.1 hr).1
  have hl0 : l.length ≠ 0 := by simpa using hl
  have hall : (bcells l).all AV.isCell = true := by simp [bcells]
  rcases h.buf with ⟨rfl, rfl⟩ | ⟨k, g, cs, rfl, h2, h3, h4, h5⟩
  · have hr' : (hnewK H (.typ 5) (bcells l))[j]? = some ⟨[ad, .cst (.slice none 0 0)], 0, true, .typ 79⟩ := app_get hr
    refine ⟨hnewK H (.typ 5) (bcells l), .ms H.length 0 l.length 1 0, ?_, hr', rfl, ⟨set_self hr', h.addr, .inr ⟨H.length, 0, bcells l, by simp, by omega, ?_, ?_, by simp [bcells]⟩⟩⟩
    · unfold aappend
      rw [if_neg hl0]
      have : l.length * (1 + 1) ≤ LIM := by unfold LIM; omega
      simp [hall, this]
    · refine set_ne (o := ⟨bcells l, 0, true, .typ 5⟩) (by omega) ?_
      simp [hnewK]
    · exact List.take_of_length_le (by simp [bcells])
  · have hk := (List.getElem?_eq_some_iff.1 h3).1
    have hr' : (H.set k ⟨bcells (out ++ l), g + 1, true, .typ 5⟩)[j]? = some ⟨[ad, .ms k 0 out.length 1 g], 0, true, .typ 79⟩ := set_ne (Ne.symm h2) hr
    refine ⟨H.set k ⟨bcells (out ++ l), g + 1, true, .typ 5⟩, .ms k 0 (out.length + l.length) 1 (g + 1), ?_, hr', rfl, ⟨set_self hr', h.addr, .inr ⟨k, g + 1, bcells (out ++ l), by simp, h2, set_ne h2 (set_self h3), ?_, by simp [bcells]⟩⟩⟩
    · unfold aappend
      rw [if_neg hl0]
      have hlim : (out.length + l.length) * (1 + 1) ≤ LIM := by unfold LIM; omega
      have ht := take_app h4 l
      simp [hall, hlim, h3, h5, ht, Kd.join]
    · exact List.take_of_length_le (by simp [bcells])
theorem wbyte_ok {H : Heap} {j : Nat} {out : List UInt8} {ad bv : AV} (h : Bld H j out ad bv) (c : UInt8) (hlen : out.length < 900000000) :
    ∃ H' bv', C T 55 [.ptr j 0 0, .int .u8 c.toNat] H = some (.cst .nilIface, H') ∧ Bld H' j (out ++ [c]) (.ptr j 0 0) bv' := by
  obtain ⟨H1, h1, h2, _⟩ := chk_ok h
  obtain ⟨H2, bv', h3, h4, h5, h6⟩ := bapp_ok h2 [c] (by simp) (by simp; omega)
  refine ⟨_, bv', ?_, h6⟩
  rw [q55]
  have hb : bcells [c] = [.int .u8 c.toNat] := rfl
  rw [hb] at h3
  simp only [List.length_singleton] at h3
  have hce := cells_cell h5
  simp [d55, h1, hget_at h2.row, h3, hset_at h4, hce, h5]
theorem wstr_ok {H : Heap} {j : Nat} {out : List UInt8} {ad bv : AV} (h : Bld H j out ad bv) (l : List UInt8) (hlen : out.length + l.length < 900000000) :
    ∃ H' bv', C T 45 [.ptr j 0 0, .str l] H = some (.tup [.int .i64 l.length, .cst .nilIface], H') ∧ Bld H' j (out ++ l) (.ptr j 0 0) bv' := by
  obtain ⟨H1, h1, h2, _⟩ := chk_ok h
  rw [q45]
  by_cases hl : l = []
  · subst hl
    have hr := h2.row
    have hself : H1.set j ⟨[.ptr j 0 0, bv], 0, true, .typ 79⟩ = H1 := by
      apply List.ext_getElem?
      intro i
      rw [List.getElem?_set]
      split
      · rename_i e; subst e; rw [if_pos (List.getElem?_eq_some_iff.1 hr).1, hr]
      · rfl
    refine ⟨H1, bv, ?_, by simpa using h2⟩
    have hc := h2.cell
    have hce := cells_cell hc
    have ha : aappend (.typ 5) H1 1 1 bv 0 [] = some (bv, H1) := by
      rcases h2.buf with ⟨_, rfl⟩ | ⟨k, g, cs, rfl, _⟩ <;> rfl
    have hbc : bcells [] = [] := rfl
    simp [d45, h1, hget_at hr, hset_at hr, hbc, ha, hce, hc, hself]
  · obtain ⟨H2, bv', h3, h4, h5, h6⟩ := bapp_ok h2 l hl (by omega)
    refine ⟨_, bv', ?_, h6⟩
    have hce := cells_cell h5
    simp [d45, h1, hget_at h2.row, h3, hset_at h4, hce, h5]
theorem bstr_ok {H : Heap} {j : Nat} {out : List UInt8} {ad bv : AV} (h : Bld H j out ad bv) (h0 : out = [] → bv = .cst (.slice none 0 0)) (hlen : out.length < 1000000000) : ∃ H', C T 46 [.ptr j 0 0] H = some (.str out, H') := by
  rw [q46]
  have hr := h.row
  by_cases ho : out = []
  · obtain rfl := h0 ho
    subst ho
    exact ⟨H, by simp [d46, hget_at hr]⟩
  · rcases h.buf with ⟨e, _⟩ | ⟨k, g, cs, rfl, h2, h3, h4, h5⟩
    · exact absurd e ho
    · have hl0 : out.length ≠ 0 := by simpa using ho
      have hlim : (out.length : Int) ≤ (LIM : Int) := by unfold LIM; omega
      refine ⟨freeze H k, ?_⟩
      simp (disch := omega) [d46, hget_at hr, hl0, hlim, hget_at h3, typ_at h3, h5, h4, bytesOf_bcells]
end Go.Eng.S
