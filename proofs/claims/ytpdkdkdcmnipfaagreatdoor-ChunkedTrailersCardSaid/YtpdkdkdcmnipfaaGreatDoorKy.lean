/- Both Encode functions. No condition. -/
import Derived.Test.YtpdkdkdcmnipfaaGreatDoorKw
import Derived.Test.YtpdkdkdcmnipfaaGreatDoorKp
namespace Go.Eng.S
open Go Go.Eng
/-- Parts, each of them bytes. -/
def Parts (a : AV) (ps : List (List UInt8)) : Prop := (a = nls ∧ ps = []) ∨ ∃ cells, a = .sl false ps.length 1 cells ∧ closedL cells = true ∧ ∀ i p, ps[i]? = some p → ∃ v rest, cells.drop i = v :: rest ∧ Bytes v p
theorem Parts.closed {a : AV} {ps : List (List UInt8)} (h : Parts a ps) : a.closed = true := by
  rcases h with ⟨rfl, _⟩ | ⟨cells, rfl, h, _⟩
  · rfl
  · simpa [AV.closed] using h
theorem chunk_len {p : List UInt8} (h : p.length ≤ 300) : (chunk p).length ≤ 309 := by
  unfold chunk
  split
  · simp
  · have := (hx_f p.length h).len
    simp
    omega
theorem chunks_len : ∀ {ps : List (List UInt8)}, (∀ p ∈ ps, p.length ≤ 300) → (ps.flatMap chunk).length ≤ 309 * ps.length
  | [], _ => by simp
  | p :: ps, h => by
    have h1 := chunk_len (h p (by simp))
    have h2 := chunks_len (ps := ps) fun q hq => h q (by simp [hq])
    rw [List.flatMap_cons, List.length_append, List.length_cons]
    omega
theorem take_chunks (ps : List (List UInt8)) (i : Nat) (h : i < ps.length) : (ps.take (i + 1)).flatMap chunk = (ps.take i).flatMap chunk ++ chunk ps[i] := by
  rw [List.take_succ_eq_append_getElem h, List.flatMap_append]
  simp
theorem take_chunks_len {ps : List (List UInt8)} (h : ∀ p ∈ ps, p.length ≤ 300) (i : Nat) : ((ps.take i).flatMap chunk).length ≤ 309 * ps.length := by
  have h1 := chunks_len (ps := ps.take i) fun q hq => h q (List.mem_of_mem_take hq)
  have h2 : (ps.take i).length ≤ ps.length := by simp; omega
  have := Nat.mul_le_mul_left 309 h2
  omega
theorem bytes_sl {v : AV} {p : List UInt8} (h : Bytes v p) (hp : p ≠ []) : v = slV p := by
  rcases h with ⟨_, rfl⟩ | h
  · exact absurd rfl hp
  · exact h
def encP (A : List UInt8) (x : XR) : Prop := ∃ e' H', x = some (.exit 0, e', H') ∧ Own H' (e'.get 3) A
theorem encP_of {A : List UInt8} {x : XR} {H : Heap} {v : AV} (h : ∃ e', x = some (.exit 0, e', H) ∧ e'.get 3 = v) (ho : Own H v A) : encP A x := by
  obtain ⟨e', h1, h2⟩ := h
  exact ⟨e', H, h1, by rw [h2]; exact ho⟩
theorem renc_loop (cells : List AV) (ps : List (List UInt8)) (hc : ∀ i p, ps[i]? = some p → ∃ v rest, cells.drop i = v :: rest ∧ Bytes v p) (hp : ∀ p ∈ ps, p.length ≤ 300) (hn : ps.length ≤ 10) : ∀ (k i : Nat) (H : Heap) (vo : AV), i + k = ps.length → Own H vo ((ps.take i).flatMap chunk) →
    encP (ps.flatMap chunk) (XL T [0, 3, 4] L18_0 [(0, .sl false ps.length 1 cells), (3, vo), (4, .int .i64 i)] H)
  | 0, i, H, vo, hk, ho => by
    have he : ps.take i = ps := List.take_of_length_le (by omega)
    rw [he] at ho
    have hlt : ¬ ((i : Int) < ps.length) := by omega
    refine encP_of (H := H) (v := vo) ?_ ho
    rw [XL_eq]
    simp (disch := omega) [L18_0, hlt]
  | k + 1, i, H, vo, hk, ho => by
    have hlt : i < ps.length := by omega
    have hlt' : (i : Int) < ps.length := by omega
    obtain ⟨v, rest, hd, hb⟩ := hc i ps[i] (List.getElem?_eq_getElem hlt)
    have hpi := hp ps[i] (List.getElem_mem hlt)
    have htl := take_chunks_len hp i
    have ih := renc_loop cells ps hc hp hn k (i + 1)
    rw [take_chunks ps i hlt] at ih
    push_cast at ih
    rw [XL_eq]
    generalize XL T [0, 3, 4] L18_0 = lp at *
    generalize (ps.take i).flatMap chunk = A at *
    generalize ps[i] = p at *
    by_cases hpn : p = []
    · subst hpn
      have hl0 : (match v with
        | .sl _ n _ _ => some (AV.int .i64 n, H)
        | .ms _ _ n _ _ => some (.int .i64 n, H)
        | .cst (.slice none 0 0) => some (.int .i64 0, H)
        | _ => none) = some (AV.int .i64 0, H) := by
        rcases hb with ⟨rfl, _⟩ | rfl <;> rfl
      have ih := ih H vo (by omega) (by simpa [chunk] using ho)
      rcases hb with ⟨rfl, _⟩ | rfl <;> simp (disch := omega) [L18_0, hlt', hd] <;> exact ih
    · obtain rfl := bytes_sl hb hpn
      have hp0 : (0 : Int) < p.length := by
        have : p.length ≠ 0 := by simpa using hpn
        omega
      have F := hx_f p.length hpi
      have hxl := F.len
      have hrx := rhx_ok p.length hpi
      have hlim : (hx p.length).length ≤ LIM := by unfold LIM; omega
      have o1 : Own (H ++ [⟨bcells (hx p.length), 0, true⟩]) vo A := ho.mono fun _ _ _ h => app_get h
      obtain ⟨H2, v2, a1, o2, _, _, _⟩ := o1.appendL (hx p.length) F.ne (by omega)
      obtain ⟨H3, v3, a2, o3, _, _, _⟩ := o2.appendL [13, 10] (by simp) (by simp; omega)
      obtain ⟨H4, v4, a3, o4, _, _, _⟩ := o3.appendL p hpn (by simp; omega)
      obtain ⟨H5, v5, a4, o5, _, _, _⟩ := o4.appendL [13, 10] (by simp) (by simp; omega)
      have hcr : bcells [13, 10] = [.int .u8 13, .int .u8 10] := rfl
      rw [hcr] at a2 a4
      simp only [List.length_cons, List.length_nil, Nat.zero_add, Nat.reduceAdd] at a2 a4
      have ht : List.take (hx p.length).length (bcells (hx p.length)) = bcells (hx p.length) := List.take_of_length_le (by simp [bcells])
      have ih := ih H5 v5 (by omega) (by
        unfold chunk
        rw [if_neg hpn]
        simpa using o5)
      generalize hx p.length = X at *
      simp (disch := omega) [L18_0, hlt', hd, hrx, hlim, hget_tail0, hg0, bcells_len, ht, a1, a2, a3, a4]
      exact ih
theorem cenc_loop (cells : List AV) (ps : List (List UInt8)) (hc : ∀ i p, ps[i]? = some p → ∃ v rest, cells.drop i = v :: rest ∧ Bytes v p) (hp : ∀ p ∈ ps, p.length ≤ 300) (hn : ps.length ≤ 10) : ∀ (k i : Nat) (H : Heap) (vo : AV), i + k = ps.length → Own H vo ((ps.take i).flatMap chunk) →
    encP (ps.flatMap chunk) (XL T [3, 6, 7, 8] L17_0 [(3, vo), (6, .sl false ps.length 1 cells), (7, .int .i64 ps.length), (8, .int .i64 i)] H)
  | 0, i, H, vo, hk, ho => by
    have he : ps.take i = ps := List.take_of_length_le (by omega)
    rw [he] at ho
    have hlt : ¬ ((i : Int) < ps.length) := by omega
    refine encP_of (H := H) (v := vo) ?_ ho
    rw [XL_eq]
    simp (disch := omega) [L17_0, hlt]
  | k + 1, i, H, vo, hk, ho => by
    have hlt : i < ps.length := by omega
    have hlt' : (i : Int) < ps.length := by omega
    obtain ⟨v, rest, hd, hb⟩ := hc i ps[i] (List.getElem?_eq_getElem hlt)
    have hpi := hp ps[i] (List.getElem_mem hlt)
    have htl := take_chunks_len hp i
    have ih := cenc_loop cells ps hc hp hn k (i + 1)
    rw [take_chunks ps i hlt] at ih
    push_cast at ih
    rw [XL_eq]
    generalize XL T [3, 6, 7, 8] L17_0 = lp at *
    generalize (ps.take i).flatMap chunk = A at *
    generalize ps[i] = p at *
    by_cases hpn : p = []
    · subst hpn
      have ih := ih H vo (by omega) (by simpa [chunk] using ho)
      rcases hb with ⟨rfl, _⟩ | rfl <;> simp (disch := omega) [L17_0, hlt', hd] <;> exact ih
    · obtain rfl := bytes_sl hb hpn
      have hp0 : (0 : Int) < p.length := by
        have : p.length ≠ 0 := by simpa using hpn
        omega
      have F := hx_f p.length hpi
      have hxl := F.len
      have hfm := fmt_ok p.length hpi
      have hlim : (hx p.length).length + 2 ≤ LIM := by unfold LIM; omega
      obtain ⟨H2, v2, a1, o2, _, _, _⟩ := ho.appendL (hx p.length ++ [13, 10]) (by simp) (by simp; omega)
      obtain ⟨H3, v3, a2, o3, _, _, _⟩ := o2.appendL p hpn (by simp; omega)
      obtain ⟨H4, v4, a3, o4, _, _, _⟩ := o3.appendL [13, 10] (by simp) (by simp; omega)
      simp only [List.length_append, List.length_cons, List.length_nil, Nat.zero_add, Nat.reduceAdd] at a1 a3
      have ih := ih H4 v4 (by omega) (by
        unfold chunk
        rw [if_neg hpn]
        simpa using o4)
      generalize hx p.length = X at *
      simp (disch := omega) [L17_0, hlt', hd, hfm, hlim, a1, a2, a3]
      exact ih
theorem encT_ne (ps : List (List UInt8)) : encT ps ≠ [] := by simp [encT]
theorem encT_len {ps : List (List UInt8)} (hp : ∀ p ∈ ps, p.length ≤ 300) (hn : ps.length ≤ 10) : (encT ps).length ≤ 3095 := by
  have := chunks_len hp
  unfold encT
  simp only [List.length_append, List.length_cons, List.length_nil]
  omega
theorem renc_ok (a : AV) (ps : List (List UInt8)) (ha : Parts a ps) (hp : ∀ p ∈ ps, p.length ≤ 300) (hn : ps.length ≤ 10) (H : Heap) : C T 18 [a] H = some (byV (encT ps), H) := by
  refine anyH fd18 rfl (by simp [closedL, ha.closed]) ?_ H
  rw [q18]
  have hcl := chunks_len hp
  have fin : ∀ H v, Own H v (ps.flatMap chunk) → ∃ H' v', aappend H 1 1 v 5 [.int .u8 48, .int .u8 13, .int .u8 10, .int .u8 13, .int .u8 10] = some (v', H') ∧ ∃ H2, snap 12 H' v' = some (byV (encT ps), H2) := fun H v ho => by
    obtain ⟨H', v', a1, o2, _, _, _⟩ := ho.appendL [48, 13, 10, 13, 10] (by simp) (by show _ + 5 < _; omega)
    exact ⟨H', v', a1, _, snap_own o2.d 10⟩
  rcases ha with ⟨rfl, rfl⟩ | ⟨cells, rfl, hc1, hc⟩
  · have hx : ∃ e', XL T [0, 3, 4] L18_0 [(0, nls), (3, nls), (4, .int .i64 0)] [] = some (.exit 0, e', []) ∧ e'.get 3 = nls := by
      rw [XL_eq]
      simp [L18_0]
    obtain ⟨e', h1, h2⟩ := hx
    obtain ⟨H', v', g1, H2, g2⟩ := fin [] nls (.inl ⟨rfl, rfl⟩)
    simp [d18, h1, h2, g1, g2]
  · obtain ⟨e', H1, h1, h2⟩ := renc_loop cells ps hc hp hn ps.length 0 [] nls (by omega) (.inl ⟨rfl, rfl⟩)
    obtain ⟨H', v', g1, H2, g2⟩ := fin H1 _ h2
    have hsn : ∀ k H, snap (k + 1) H (.sl false ps.length 1 cells) = some (.sl false ps.length 1 cells, H) := fun k H => by simp [snap, hc1]
    simp only [Int.natCast_zero] at h1
    simp [d18, hsn, h1, g1, g2]
theorem cenc_ok (a : AV) (ps : List (List UInt8)) (ha : Parts a ps) (hp : ∀ p ∈ ps, p.length ≤ 300) (hn : ps.length ≤ 10) (H : Heap) : C T 17 [a] H = some (byV (encT ps), H) := by
  refine anyH fd17 rfl (by simp [closedL, ha.closed]) ?_ H
  rw [q17]
  have hcl := chunks_len hp
  have fin : ∀ H v, Own H v (ps.flatMap chunk) → ∃ H' v', aappend H 1 1 v 5 (bcells [48, 13, 10, 13, 10]) = some (v', H') ∧ ∃ H2, snap 12 H' v' = some (byV (encT ps), H2) := fun H v ho => by
    obtain ⟨H', v', a1, o2, _, _, _⟩ := ho.appendL [48, 13, 10, 13, 10] (by simp) (by show _ + 5 < _; omega)
    exact ⟨H', v', a1, _, snap_own o2.d 10⟩
  rcases ha with ⟨rfl, rfl⟩ | ⟨cells, rfl, hc1, hc⟩
  · have hx : ∃ e', XL T [3, 6, 7, 8] L17_0 [(3, nls), (6, nls), (7, .int .i64 0), (8, .int .i64 0)] [] = some (.exit 0, e', []) ∧ e'.get 3 = nls := by
      rw [XL_eq]
      simp [L17_0]
    obtain ⟨e', h1, h2⟩ := hx
    obtain ⟨H', v', g1, H2, g2⟩ := fin [] nls (.inl ⟨rfl, rfl⟩)
    simp [d17, h1, h2, g1, g2]
  · obtain ⟨e', H1, h1, h2⟩ := cenc_loop cells ps hc hp hn ps.length 0 [] nls (by omega) (.inl ⟨rfl, rfl⟩)
    obtain ⟨H', v', g1, H2, g2⟩ := fin H1 _ h2
    have hsn : ∀ k H, snap (k + 1) H (.sl false ps.length 1 cells) = some (.sl false ps.length 1 cells, H) := fun k H => by simp [snap, hc1]
    simp only [Int.natCast_zero] at h1
    simp [d17, hsn, h1, g1, g2]
/-- A pure function of what is read out of live values. -/
theorem purK_heap {H' : Heap} {r : Option (AV × Heap)} {x : AV} (h : purK [] r = some (x, [])) : purK H' r = some (x, H') := by
  unfold purK at h ⊢
  split at h
  · split at h
    · cases h; rfl
    · cases h
  · cases h
theorem pure_any {f : FuncId} {d : FDef} (hf : T.fn f = some d) (hp : d.pure = true) {as as' : List AV} {H H' : Heap} {x : AV} (hs : mapS (snap 12) H as = some (as', H')) (hs' : mapS (snap 12) [] as' = some (as', [])) (hc : C T f as' [] = some (x, [])) : C T f as H = some (x, H') := by
  rw [Q_pure hf hp, hs'] at hc
  rw [Q_pure hf hp, hs]
  exact purK_heap hc
theorem snap_lims (k : Nat) (H : Heap) (l : Lims) : snap (k + 2) H l.av = some (l.av, H) := rfl
theorem dec_any {v v' : AV} {b : List UInt8} {H H' : Heap} (hs : snap 12 H v = some (v', H')) (hv : Bytes v' b) (hb : b.length < 10000) (l : Lims) (hl : l.body ≤ 1099511627776) : C T 10 [v, l.av] H = some (.tup (decV b.length (DS.run l.lm.lim ds0 b)), H') :=
  pure_any fd10 rfl (as' := [v', l.av]) (by rw [mapS_cons, hs]; rfl) (by rw [mapS_cons, snap_bytes hv]; rfl) (decode_ok v' b hv hb l hl [])
theorem read_any {v v' : AV} {b : List UInt8} {H H' : Heap} (hs : snap 12 H v = some (v', H')) (hv : Bytes v' b) (hb : b.length < 10000) (l : Lims) (hl : l.body ≤ 1099511627776) : C T 11 [v, .int .i64 0, l.av] H = some (resV (readR l.lm.lim (b.length + 1) 0 [] b), H') :=
  pure_any fd11 rfl (as' := [v', .int .i64 0, l.av]) (by rw [mapS_cons, hs]; rfl) (by rw [mapS_cons, snap_bytes hv]; rfl) (read_ok v' b hv hb l hl [])
theorem renc_one {a : AV} {p : List UInt8} (ha : Bytes a p) (hp : p.length ≤ 300) (H : Heap) : C T 18 [.sl true 1 1 [a]] H = some (byV (encT [p]), H) := by
  have hcl : closedL [a] = true := by simp [closedL, ha.closed]
  have hsn : ∀ k f H, snap (k + 1) H (.sl f 1 1 [a]) = some (.sl false 1 1 [a], H) := fun k f H => by
    show (bif closedL [a] then some (AV.sl false 1 1 [a], H) else _) = _
    rw [hcl]
    rfl
  refine pure_any fd18 rfl (as' := [.sl false 1 1 [a]]) (by rw [mapS_cons, hsn]; rfl) (by rw [mapS_cons, hsn]; rfl) (renc_ok _ [p] (.inr ⟨[a], rfl, hcl, fun i q hq => ?_⟩) (fun q hq => ?_) (by simp) [])
  · cases i with
    | zero => simp at hq; subst hq; exact ⟨a, [], rfl, ha⟩
    | succ i => simp at hq
  · simp at hq; subst hq; exact hp
def gr : Lims := ⟨10000, 10000, 1000, 100000⟩
theorem great_ok (H : Heap) : C T 19 [] H = some (gr.av, H) := anyH fd19 rfl rfl (C_of 9 (by kernel_rfl)) H
end Go.Eng.S
