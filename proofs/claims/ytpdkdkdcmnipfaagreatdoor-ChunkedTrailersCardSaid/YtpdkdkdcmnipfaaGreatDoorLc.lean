/- ChunkedInverse, the plain law. No condition. -/
import Derived.Test.YtpdkdkdcmnipfaaGreatDoorKy
import Derived.Test.YtpdkdkdcmnipfaaGreatDoorKv
namespace Go.Eng.S
open Go Go.Eng
/-- All parts one after the other, or one is too long. -/
def catP (ps : List (List UInt8)) (a m : AV) (x : XR) : Prop := if ∀ p ∈ ps, p.length ≤ 300 then ∃ e' H', x = some (.exit 0, e', H') ∧ e'.get 0 = a ∧ e'.get 1 = m ∧ Own H' (e'.get 5) ps.flatten else ∃ e' H', x = some (.ret, e', H') ∧ e'.get 4 = .bool true
theorem flat_len : ∀ {ps : List (List UInt8)}, (∀ p ∈ ps, p.length ≤ 300) → ps.flatten.length ≤ 300 * ps.length
  | [], _ => by simp
  | p :: ps, h => by
    have h1 := h p (by simp)
    have h2 := flat_len (ps := ps) fun q hq => h q (by simp [hq])
    rw [List.flatten_cons, List.length_append, List.length_cons]
    omega
theorem cat_loop (cells : List AV) (ps : List (List UInt8)) (hc : ∀ i p, ps[i]? = some p → ∃ v rest, cells.drop i = v :: rest ∧ Bytes v p) (hn : ps.length ≤ 10) (m : AV) : ∀ (k i : Nat) (H : Heap) (vo : AV), i + k = ps.length → (∀ p ∈ ps.take i, p.length ≤ 300) → Own H vo (ps.take i).flatten →
    catP ps (.sl false ps.length 1 cells) m (XL T [0, 1, 5, 6] L5_0 [(0, .sl false ps.length 1 cells), (1, m), (5, vo), (6, .int .i64 i)] H)
  | 0, i, H, vo, hk, hall, ho => by
    have he : ps.take i = ps := List.take_of_length_le (by omega)
    rw [he] at ho hall
    have hlt : ¬ ((i : Int) < ps.length) := by omega
    unfold catP
    rw [if_pos hall]
    have hx : ∃ e', XL T [0, 1, 5, 6] L5_0 [(0, .sl false ps.length 1 cells), (1, m), (5, vo), (6, .int .i64 i)] H = some (.exit 0, e', H) ∧ e'.get 0 = .sl false ps.length 1 cells ∧ e'.get 1 = m ∧ e'.get 5 = vo := by
      rw [XL_eq]
      simp (disch := omega) [L5_0, hlt]
    obtain ⟨e', h1, h2, h3, h4⟩ := hx
    exact ⟨e', H, h1, h2, h3, by rw [h4]; exact ho⟩
  | k + 1, i, H, vo, hk, hall, ho => by
    have hlt : i < ps.length := by omega
    have hlt' : (i : Int) < ps.length := by omega
    obtain ⟨v, rest, hd, hb⟩ := hc i ps[i] (List.getElem?_eq_getElem hlt)
    have hfl := flat_len hall
    have htl : (ps.take i).length ≤ ps.length := by simp; omega
    have hts : ps.take (i + 1) = ps.take i ++ [ps[i]] := List.take_succ_eq_append_getElem hlt
    have ih := cat_loop cells ps hc hn m k (i + 1)
    rw [hts, List.flatten_append, List.flatten_singleton] at ih
    push_cast at ih
    have hmem := List.getElem_mem hlt
    rw [XL_eq]
    generalize XL T [0, 1, 5, 6] L5_0 = lp at *
    by_cases hlong : 300 < ps[i].length
    · unfold catP
      rw [if_neg (fun h => by have := h _ hmem; omega)]
      generalize ps[i] = p at *
      have hlong' : (300 : Int) < p.length := by omega
      have hpn : p ≠ [] := by intro e; subst e; simp at hlong
      obtain rfl := bytes_sl hb hpn
      simp (disch := omega) [L5_0, hlt', hd, hlong']
    · have hall' : ∀ p ∈ ps.take i ++ [ps[i]], p.length ≤ 300 := fun p hp => by
        rw [List.mem_append, List.mem_singleton] at hp
        rcases hp with h | rfl
        · exact hall p h
        · omega
      have ih := fun H vo => ih H vo (by omega) hall'
      generalize (ps.take i).flatten = A at *
      generalize ps[i] = p at *
      have hlong' : ¬ (300 : Int) < p.length := by omega
      by_cases hpn : p = []
      · subst hpn
        have hvo : aappend H 1 1 vo 0 [] = some (vo, H) := by
          rcases ho with ⟨_, rfl⟩ | ⟨_, _, rfl, _, _⟩ <;> rfl
        have ih := ih H vo (by simpa using ho)
        rcases hb with ⟨rfl, _⟩ | rfl <;> simp (disch := omega) [L5_0, hlt', hd, hvo, bcells]
        · exact ih
        · exact ih
      · obtain rfl := bytes_sl hb hpn
        obtain ⟨H2, v2, a1, o2, _, _, _⟩ := ho.appendL p hpn (by omega)
        have ih := ih H2 v2 o2
        simp (disch := omega) [L5_0, hlt', hd, hlong', a1]
        exact ih
theorem run_readk (l : Lim) (s : List UInt8) (k : Nat) (hk : s.length < k) : DS.run l ds0 s = readR l k 0 [] s := by
  rw [run_read, ← read_run l k s 0 [] false 0 [] none hk, ← read_run l (s.length + 1) s 0 [] false 0 [] none (by omega)]
/-- A body with bytes behind it is decoded. -/
theorem inv_dec {ps : List (List UInt8)} (hp : ∀ p ∈ ps, p.length ≤ 300) (hn : ps.length ≤ 10) (more : List UInt8) : DS.run gr.lm.lim ds0 (encT ps ++ more) = .ok ps.flatten (encT ps).length := by
  have h := flat_len hp
  have hb : gr.lm.body = 100000 := rfl
  have hl : gr.lm.line = 10000 := rfl
  rw [run_readk _ _ ((encT ps ++ more).length + 1 + ps.length) (by omega), read_enc gr.lm (by omega) ps _ 0 [] more (by omega) hp (by rw [List.nil_append, hb]; omega), List.nil_append, Nat.zero_add]
theorem snap_parts {a : AV} {ps : List (List UInt8)} (ha : Parts a ps) (k : Nat) (H : Heap) : snap (k + 1) H a = some (a, H) := by
  rcases ha with ⟨rfl, _⟩ | ⟨cells, rfl, hc, _⟩
  · rfl
  · simp [snap, hc]
/-- What Decode returns for the bytes with more behind them, and where the text of all parts lies afterwards. -/
theorem inv_app {ps : List (List UInt8)} (hp : ∀ p ∈ ps, p.length ≤ 300) (hn : ps.length ≤ 10) {m : AV} {more : List UInt8} (hm : Bytes m more) (hml : more.length ≤ 100) {H : Heap} {v5 : AV} (ho : Own H v5 ps.flatten) :
    ∃ mm ys x H1 H2, viewOf H 1 m = some (mm, ys) ∧ aappend H 1 1 (.sl true (encT ps).length 1 (bcells (encT ps))) mm ys = some (x, H1) ∧ C T 10 [x, gr.av] H1 = some (.tup [byV ps.flatten, .int .i64 (encT ps).length, .cst .nilIface], H2) ∧ OwnD H2 v5 ps.flatten := by
  have hel := encT_len hp hn
  have hv : viewOf H 1 m = some (more.length, bcells more) := by rcases hm with ⟨rfl, rfl⟩ | rfl <;> rfl
  by_cases hmn : more = []
  · subst hmn
    have hd := dec_any (snap_sl 11 H true (encT ps)) (.inr rfl) (by omega) gr (by decide)
    have hr := inv_dec hp hn []
    rw [List.append_nil] at hr
    rw [hr] at hd
    exact ⟨_, _, _, H, H, hv, rfl, hd, ho.d⟩
  · have hn0 : more.length ≠ 0 := by simpa using hmn
    have hcs : (bcells more).all AV.isCell = true := by simp [bcells]
    have hlim : ((encT ps).length + more.length) * 2 ≤ LIM := by unfold LIM; omega
    have ha : aappend H 1 1 (.sl true (encT ps).length 1 (bcells (encT ps))) more.length (bcells more) = some (.ms H.length 0 (encT ps ++ more).length 1 0, H ++ [⟨bcells (encT ps ++ more), 0, true⟩]) := by
      unfold aappend
      rw [if_neg hn0]
      simp only [hcs, hlim, Bool.not_true, cond_false, and_self, if_true, hnew, bcells_app, List.length_append]
    have hne : encT ps ++ more ≠ [] := by simp [hmn]
    have hod : OwnD (H ++ [⟨bcells (encT ps ++ more), 0, true⟩]) (.ms H.length 0 (encT ps ++ more).length 1 0) (encT ps ++ more) := .inr ⟨_, 0, true, rfl, by rw [List.length_append]; omega, by simp⟩
    have hb : Bytes (byV (encT ps ++ more)) (encT ps ++ more) := by
      have : byV (encT ps ++ more) = slV (encT ps ++ more) := if_neg hne
      rw [this]; exact .inr rfl
    have hd := dec_any (snap_own hod 10) hb (by rw [List.length_append]; omega) gr (by decide)
    rw [inv_dec hp hn more] at hd
    refine ⟨_, _, _, _, _, hv, ha, hd, ?_⟩
    rcases ho with h | ⟨k, g, rfl, h0, hr⟩
    · exact .inl h
    · refine .inr ⟨k, g, true, rfl, h0, frz_get (app_get hr) (fun e => ?_)⟩
      have := (List.getElem?_eq_some_iff.1 hr).1
      injection e with e
      omega
set_option maxRecDepth 20000 in
set_option maxHeartbeats 2000000 in
theorem chunkedInverse (a : AV) (ps : List (List UInt8)) (ha : Parts a ps) (m : AV) (more : List UInt8) (hm : Bytes m more) : C T 5 [a, m] [] = some (.bool true, []) := by
  rw [q5]
  have hsa := snap_parts ha
  have hsm := snap_bytes hm
  have hla : ∀ H : Heap, (match a with
    | .sl _ n _ _ => some (AV.int .i64 n, H)
    | .ms _ _ n _ _ => some (.int .i64 n, H)
    | .cst (.slice none 0 0) => some (.int .i64 0, H)
    | _ => none) = some (AV.int .i64 ps.length, H) := fun _ => by
    rcases ha with ⟨rfl, rfl⟩ | ⟨cells, rfl, _, _⟩ <;> rfl
  by_cases hpn : 10 < ps.length
  · have hpn' : (10 : Int) < ps.length := by omega
    rcases ha with ⟨rfl, rfl⟩ | ⟨cells, rfl, _, _⟩
    · simp at hpn
    · simp [d5, hsa, hsm, awake14_ok, hpn']
  have hpn' : ¬ (10 : Int) < ps.length := by omega
  by_cases hmn : 100 < more.length
  · have hmn' : (100 : Int) < more.length := by omega
    rcases hm with ⟨rfl, rfl⟩ | rfl
    · simp at hmn
    · rcases ha with ⟨rfl, rfl⟩ | ⟨cells, rfl, _, _⟩ <;> simp at hpn' <;> simp [d5, hsa, hsm, awake14_ok, hpn', hmn']
  have hmn' : ¬ (100 : Int) < more.length := by omega
  have hlp : catP ps a m (XL T [0, 1, 5, 6] L5_0 [(0, a), (1, m), (5, nls), (6, .int .i64 0)] []) := by
    rcases ha with ⟨rfl, rfl⟩ | ⟨cells, rfl, _, hc⟩
    · unfold catP
      rw [if_pos (by simp)]
      have hx : ∃ e', XL T [0, 1, 5, 6] L5_0 [(0, nls), (1, m), (5, nls), (6, .int .i64 0)] [] = some (.exit 0, e', []) ∧ e'.get 0 = nls ∧ e'.get 1 = m ∧ e'.get 5 = nls := by
        rw [XL_eq]
        simp [L5_0]
      obtain ⟨e', h1, h2, h3, h4⟩ := hx
      exact ⟨e', [], h1, h2, h3, .inl ⟨rfl, h4⟩⟩
    · exact cat_loop cells ps hc (by omega) m ps.length 0 [] nls (by omega) (by simp) (.inl ⟨rfl, rfl⟩)
  unfold catP at hlp
  have hac := ha.closed
  by_cases hall : ∀ p ∈ ps, p.length ≤ 300
  · rw [if_pos hall] at hlp
    obtain ⟨e', H, g1, g2, g3, ho⟩ := hlp
    have hc1 := cenc_ok a ps ha hall (by omega)
    have hc2 := renc_ok a ps ha hall (by omega)
    have e1 : byV (encT ps) = slV (encT ps) := if_neg (encT_ne ps)
    rw [e1] at hc1 hc2
    obtain ⟨mm, ys, x, H1, H2, q1, q2, q3, q4⟩ := inv_app hall (by omega) hm (by omega) ho
    have ht : List.take (encT ps).length (bcells (encT ps)) = bcells (encT ps) := List.take_of_length_le (by simp [bcells])
    have hgr := great_ok
    obtain ⟨v5, g5⟩ : ∃ v, e'.get 5 = v := ⟨_, rfl⟩
    rw [g5] at q4
    have hq : (more.length, bcells more) = (mm, ys) := by
      rcases hm with ⟨rfl, rfl⟩ | rfl
      · exact Option.some.inj q1
      · exact Option.some.inj q1
    obtain ⟨rfl, rfl⟩ := Prod.mk.inj hq
    have bcn : bcells [] = [] := rfl
    generalize ps.flatten = F at *
    generalize encT ps = E at *
    unfold gr Lims.av at *
    rcases q4 with ⟨hF, rfl⟩ | ⟨k, g, l, rfl, hF, hr⟩
    · subst hF
      have e2 : byV [] = nls := rfl
      rw [e2] at q3
      rcases ha with ⟨rfl, rfl⟩ | ⟨cells, rfl, _, _⟩ <;> rcases hm with ⟨rfl, rfl⟩ | rfl <;> simp at hpn' hmn' g1 hac <;> (try simp only [List.length_nil, bcn] at q2 hsm) <;> simp [d5, hsa, hsm, awake14_ok, hpn', hmn', hac, g1, g2, g3, g5, hc1, hc2, ht, hgr, q2, q3, bytesOf, bytesOf_bcells]
      all_goals done
    · have hFn : F ≠ [] := by intro e; subst e; simp at hF
      have e2 : byV F = .sl false F.length 1 (bcells F) := if_neg hFn
      rw [e2] at q3
      have htF : List.take F.length (bcells F) = bcells F := List.take_of_length_le (by simp [bcells])
      rcases ha with ⟨rfl, rfl⟩ | ⟨cells, rfl, _, _⟩ <;> rcases hm with ⟨rfl, rfl⟩ | rfl <;> simp at hpn' hmn' g1 hac <;> (try simp only [List.length_nil, bcn] at q2 hsm) <;> simp [d5, hsa, hsm, awake14_ok, hpn', hmn', hac, g1, g2, g3, g5, hc1, hc2, ht, hgr, q2, q3, hget_at hr, htF, bcells_len, bytesOf_bcells]
      all_goals done
  · rw [if_neg hall] at hlp
    obtain ⟨e', H, g1, g2⟩ := hlp
    rcases ha with ⟨rfl, rfl⟩ | ⟨cells, rfl, _, _⟩
    · exact absurd (by simp) hall
    · rcases hm with ⟨rfl, rfl⟩ | rfl <;> simp at hmn' g1 <;> simp [d5, hsa, hsm, awake14_ok, hpn', hmn', g1, g2]
end Go.Eng.S
