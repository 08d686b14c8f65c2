/- Decimal texts: the code's. What is appended to; the values of fields with a name. The only field with a name; the length. Lengths, bytes and places of slices whose form is not known yet. No condition. -/
import Derived.Test.YtgjgcjhmaibblaaGreatDoorM3
import Derived.Test.YtgjgcjhmaibblaaGreatDoorM7
import Derived.Test.YtgjgcjhmaibblaaGreatDoorM8
import Derived.Test.YtgjgcjhmaibblaaGreatDoorM5
namespace Go.Eng.S
open Go Go.Eng
set_option linter.unusedSectionVars false
variable [Sit]
set_option maxRecDepth 20000
theorem dtext_loop : ∀ (k : Nat) (n : Nat) (A S : List UInt8), A.length = k → A.length + S.length = 20 → n < 10 ^ k → n < 9223372036854775808 → 0 < k →
    ∃ e' A', XL T [0, 3, 4] L45_0 [(0, .int .i64 n), (3, .ptr 0 0 0), (4, .int .i64 k)] [⟨bcells (A ++ S), 0, true, .no⟩] = some (.ret, e', [⟨bcells A', 0, true, .no⟩]) ∧ e'.get 2 = .str (decT k n ++ S)
  | 0, _, _, _, _, _, _, _, h0 => absurd h0 (Nat.lt_irrefl 0)
  | k + 1, n, A, S, hA, hS, hn, hn63, _ => by
    obtain ⟨B, c, rfl⟩ : ∃ B c, A = B ++ [c] := ⟨A.dropLast, A.getLast (by intro h; subst h; simp at hA), (List.dropLast_concat_getLast _).symm⟩
    have hB : B.length = k := by simpa using hA
    have hst : hset [⟨bcells (B ++ [c] ++ S), 0, true, .no⟩] 0 k 0 [.int .u8 (dgt n).toNat] = some [⟨bcells (B ++ dgt n :: S), 0, true, .no⟩] := by
      have hl : k < (B ++ [c] ++ S).length := by simp; omega
      have := hset_b (B ++ [c] ++ S) k 0 (dgt n) hl
      rw [this]
      congr 4
      rw [List.append_assoc, List.set_append_right _ _ (by omega)]
      simp [hB]
    have hm : (n : Int).tmod 10 = ((n % 10 : Nat) : Int) := rfl
    have hd : (n : Int).tdiv 10 = ((n / 10 : Nat) : Int) := rfl
    have hlt : n % 10 < 10 := Nat.mod_lt _ (by decide)
    have hdg : (dgt n).toNat = 48 + n % 10 := dgt_nat n
    rw [hdg] at hst
    rw [show B ++ [c] ++ S = B ++ c :: S by simp] at hst ⊢
    push_cast at hst
    rw [XL_eq]
    have hone : decT (k + 1) n = if n < 10 then [dgt n] else decT k (n / 10) ++ [dgt n] := rfl
    rw [hone]
    by_cases h10 : n < 10
    · have h0 : n / 10 = 0 := by omega
      have hgt : hget [⟨bcells (B ++ dgt n :: S), 0, true, .no⟩] 0 k (20 - k) 0 = some (bcells (dgt n :: S)) := by
        have e1 : (bcells (B ++ dgt n :: S)).drop k = bcells (dgt n :: S) := by rw [bcells_app, ← hB, ← bcells_len B]; exact List.drop_left
        have e2 : (bcells (dgt n :: S)).take (20 - k) = bcells (dgt n :: S) := List.take_of_length_le (by rw [bcells_len]; simp at hS ⊢; omega)
        simp [hget, e1, e2, bcells_len]
        simp at hS
        omega
      rw [if_pos h10]
      have hk20 : k < 20 := by simp at hS; omega
      have hfull : hget [⟨bcells (B ++ dgt n :: S), 0, true, .no⟩] 0 0 20 0 = some (bcells (B ++ dgt n :: S)) := by
        have e2 : (bcells (B ++ dgt n :: S)).take 20 = bcells (B ++ dgt n :: S) := List.take_of_length_le (by rw [bcells_len]; simp at hS ⊢; omega)
        have e3 : 20 ≤ B.length + (S.length + 1) := by simp at hS; omega
        simp [hget, e2, bcells_len, e3]
      simp (disch := omega) [L45_0, hm, hd, h0, hst, hgt, hfull, bytesOf_bcells]
      exact ⟨_, ⟨rfl, _, rfl⟩, rfl⟩
    · have h0 : n / 10 ≠ 0 := by omega
      have hk0 : 0 < k := by
        cases k with
        | zero => simp at hn; omega
        | succ k => omega
      obtain ⟨e', A', ih1, ih2⟩ := dtext_loop k (n / 10) B (dgt n :: S) hB (by simp at hS ⊢; omega) (by rw [Nat.pow_succ] at hn; omega) (by omega) hk0
      have hk20 : k < 20 := by simp at hS; omega
      generalize XL T [0, 3, 4] L45_0 = lp at *
      rw [if_neg h10]
      push_cast at ih1
      simp (disch := omega) [L45_0, hm, hd, hst]
      exact ⟨e', ⟨A', ih1⟩, by simpa using ih2⟩
theorem dtext_ok (n : Nat) (hn : n < 9223372036854775808) (H : Heap) : C T 45 [.int .i64 n] H = some (.str (decT 20 n), H) := by
  refine anyH fd45 rfl rfl ?_ H
  rw [q45]
  obtain ⟨e', A', g1, g2⟩ := dtext_loop 20 n [0, 0, 0, 0, 0, 0, 0, 0, 0, 0, 0, 0, 0, 0, 0, 0, 0, 0, 0, 0] [] rfl rfl (by omega) hn (by decide)
  simp [bcells] at g1
  simp [d45, g1, g2]

end Go.Eng.S
namespace Go.Eng.S
open Go Go.Eng
set_option linter.unusedSectionVars false
variable [Sit]
set_option maxRecDepth 20000
theorem aveqL_bc (k : Nat) : ∀ s : Seg, aveq.aveqL (k + 1) (bcells s) (bcells s) = true
  | [] => rfl
  | a :: s => by
    have := aveqL_bc k s
    simp only [bcells] at this
    simp [bcells, aveq.aveqL, aveq, this]
@[simp] theorem aveq_sl (k n : Nat) (s : Seg) : aveq (k + 2) (.sl false n 1 (bcells s)) (.sl false n 1 (bcells s)) = true := by
  simp [aveq, aveqL_bc]
@[simp] theorem aveq_int (k : Nat) (q : IntKind) (n : Int) : aveq (k + 1) (.int q n) (.int q n) = true := by simp [aveq]
@[simp] theorem aveq_str (k : Nat) (s : Seg) : aveq (k + 1) (.str s) (.str s) = true := by simp [aveq]
@[simp] theorem aveq_nls (k : Nat) : aveq (k + 1) nls nls = true := rfl
@[simp] theorem aveq_bool (k : Nat) (b : Bool) : aveq (k + 1) (.bool b) (.bool b) = true := by simp [aveq]
/-- A list that is appended to: nil, or all of its row. -/
def Acc (H : Heap) (v : AV) (e n : Nat) (cs : List AV) : Prop := (n = 0 ∧ cs = [] ∧ v = nls) ∨ ∃ k g, v = .ms k 0 n e g ∧ 0 < n ∧ cs.length = n * e ∧ H[k]? = some ⟨cs, g, true, .no⟩
def rowN : AV → Option Nat
  | .ms k _ _ _ _ => some k
  | _ => none
theorem Acc.mono {H H' : Heap} {v : AV} {e n : Nat} {cs : List AV} (h : Acc H v e n cs) (hf : ∀ k o, rowN v = some k → H[k]? = some o → H'[k]? = some o) : Acc H' v e n cs := by
  rcases h with h | ⟨k, g, rfl, h0, h1, hk⟩
  · exact .inl h
  · exact .inr ⟨k, g, rfl, h0, h1, hf k _ rfl hk⟩
theorem Acc.app {H : Heap} {v : AV} {e n : Nat} {cs : List AV} (h : Acc H v e n cs) (G : Heap) : Acc (H ++ G) v e n cs := h.mono fun _ _ _ h => app_get h
theorem Acc.lt {H : Heap} {v : AV} {e n : Nat} {cs : List AV} (h : Acc H v e n cs) {k : Nat} (hk : rowN v = some k) : k < H.length := by
  rcases h with ⟨_, _, rfl⟩ | ⟨k', g, rfl, h0, h1, hr⟩
  · cases hk
  · cases hk
    exact (List.getElem?_eq_some_iff.1 hr).1
theorem Acc.cell {H : Heap} {v : AV} {e n : Nat} {cs : List AV} (h : Acc H v e n cs) : v.isCell = true := by
  rcases h with ⟨_, _, rfl⟩ | ⟨k', g, rfl, _⟩ <;> rfl
theorem Acc.view {H : Heap} {v : AV} {e n : Nat} {cs : List AV} (h : Acc H v e n cs) : viewOf H e v = some (n, cs) := by
  rcases h with ⟨rfl, rfl, rfl⟩ | ⟨k, g, rfl, h0, h1, hr⟩
  · rfl
  · simp [viewOf, hget, hr, ← h1]
theorem Acc.len {H : Heap} {v : AV} {e n : Nat} {cs : List AV} (h : Acc H v e n cs) : cs.length = n * e := by
  rcases h with ⟨rfl, rfl, rfl⟩ | ⟨k, g, rfl, h0, h1, hr⟩
  · simp
  · exact h1
theorem Acc.append {H : Heap} {v : AV} {e n : Nat} {cs : List AV} (h : Acc H v e n cs) (b m : Nat) (ys : List AV) (hm : m ≠ 0) (hy : ys.all AV.isCell = true) (hl : ys.length = m * e) (hb : (n + m) * (b + 1) ≤ LIM) :
    ∃ H' v', aappend .no H e b v m ys = some (v', H') ∧ Acc H' v' e (n + m) (cs ++ ys) ∧ v'.isCell = true ∧ H.length ≤ H'.length ∧ (∀ j o, rowN v ≠ some j → H[j]? = some o → H'[j]? = some o) ∧ (∀ j, rowN v' = some j → rowN v = some j ∨ H.length ≤ j) := by
  rcases h with ⟨rfl, rfl, rfl⟩ | ⟨k, g, rfl, h0, h1, hr⟩
  · refine ⟨H ++ [⟨ys, 0, true, .no⟩], .ms H.length 0 m e 0, ?_, .inr ⟨H.length, 0, by simp, by omega, by simpa using hl, by simp⟩, rfl, by simp, fun k o _ hk => app_get hk, fun k hk => by cases hk; exact .inr (Nat.le_refl _)⟩
    have hb' : m * (b + 1) ≤ LIM := by simpa using hb
    unfold aappend
    simp [hm, hy, hb', hnewK]
  · have hkl := (List.getElem?_eq_some_iff.1 hr).1
    have ht : List.take (n * e) cs = cs := List.take_of_length_le (by omega)
    refine ⟨H.set k ⟨cs ++ ys, g + 1, true, .no⟩, .ms k 0 (n + m) e (g + 1), ?_, .inr ⟨k, g + 1, rfl, by omega, by simp [h1, hl, Nat.add_mul], by simp [hkl]⟩, rfl, by simp, fun k' o hk' hr' => ?_, fun k' hk' => .inl hk'⟩
    · unfold aappend
      simp [hm, hy, hb, hr, h1, ht]
    · have : k' ≠ k := fun e => hk' (by rw [e]; rfl)
      rw [set_ne this hr']
/-- The list as it is handed on. -/
def accV (e n : Nat) (cs : List AV) : AV := if n = 0 then nls else .sl false n e cs
theorem Acc.snap {H : Heap} {v : AV} {e n : Nat} {cs : List AV} (h : Acc H v e n cs) (k : Nat) (hs : ∀ H, mapS (snap k) H cs = some (cs, H)) : ∃ H', snap (k + 1) H v = some (accV e n cs, H') := by
  rcases h with ⟨rfl, rfl, rfl⟩ | ⟨j, g, rfl, h0, h1, hr⟩
  · exact ⟨H, rfl⟩
  · refine ⟨freeze H j, ?_⟩
    have hg : hget H j 0 (n * e) g = some cs := by rw [hget_at hr, if_pos (by omega), List.drop_zero, List.take_of_length_le (by omega)]
    have h0' : n ≠ 0 := by omega
    simp [Go.Eng.snap, hg, hs, accV, h0']
abbrev scells (l : List Seg) : List AV := l.map .str
theorem scells_snap (k : Nat) : ∀ (l : List Seg) (H : Heap), mapS (snap (k + 1)) H (scells l) = some (scells l, H)
  | [], H => rfl
  | a :: l, H => by
    have := scells_snap k l H
    simp only [scells] at this
    simp [scells, this]
/-- Fields, bytes as values. -/
def FV (a : AV) (l : List Fld) : Prop := (l = [] ∧ a = nls) ∨ a = .sl false l.length 2 (fcells l)
def BV (a : AV) (b : Seg) : Prop := (b = [] ∧ a = nls) ∨ a = .sl false b.length 1 (bcells b)
/-- The values of the fields with a name. -/
def valsL (l : List Fld) (n : Seg) : List Seg := (l.filter fun f => f.1.map low == n.map low).map (·.2)
theorem valsL_cons (f : Fld) (l : List Fld) (n : Seg) : valsL (f :: l) n = if f.1.map low = n.map low then f.2 :: valsL l n else valsL l n := by
  unfold valsL
  by_cases h : f.1.map low = n.map low <;> simp [h]
theorem valsL_len (l : List Fld) (n : Seg) : (valsL l n).length ≤ l.length := by
  unfold valsL
  rw [List.length_map]
  exact List.length_filter_le _ _
theorem vals1_ok (a v nm : Seg) (ha : a.length < 1000000000) (k : Nat) (H : Heap) (hk : H[k]? = some ⟨[.str nm], 0, true, .no⟩) :
    C T 80 [.agg [.str a, .str v], .ptr k 0 0] H = some (.tup [.str v, .bool (a.map low == nm)], H ++ [⟨[.str a, .str v], 0, true, .no⟩]) := by
  rw [q80]
  have hg0 : ∀ off, hget (H ++ [⟨[.str a, .str v], 0, true, .no⟩]) H.length off 1 0 = if off + 1 ≤ 2 then some ((([.str a, .str v] : List AV).drop off).take 1) else none := by
    intro off
    rw [hget_at (cs := [.str a, .str v]) (l := true) (kd := .no) (by simp)]
    rfl
  have hg1 : hget (H ++ [⟨[.str a, .str v], 0, true, .no⟩]) k 0 1 0 = some [.str nm] := by
    rw [hget_at (app_get hk)]; simp
  have hl := olower_ok a ha
  simp [d80, hnew, hg0, hg1, hl]
theorem kept_loop (nm : Seg) (l : List Fld) (hl : l.length < 100000000) (ha : ∀ f ∈ l, f.1.length < 1000000000) : ∀ (k i : Nat) (out : List Seg) (v : AV) (H : Heap), i + k = l.length → out.length ≤ i → H[0]? = some ⟨[.str (nm.map low)], 0, true, .no⟩ → Acc H v 1 out.length (scells out) → rowN v ≠ some 0 →
    ∃ e' H' v', XL T [1, 5, 10, 11, 12] L79_0 [(1, .fn (.func 80) [] [.ptr 0 0 0]), (5, v), (10, .sl false l.length 2 (fcells l)), (11, .int .i64 l.length), (12, .int .i64 i)] H = some (.exit 0, e', H') ∧ e'.get 5 = v' ∧ Acc H' v' 1 (out ++ valsL (l.drop i) nm).length (scells (out ++ valsL (l.drop i) nm))
  | 0, i, out, v, H, hk, ho, h0, hA, hr => by
    have hd : l.drop i = [] := List.drop_eq_nil_of_le (by omega)
    have hlt : ¬ (i : Int) < (l.length : Int) := by omega
    rw [hd, XL_eq]
    have hx : ∃ e', seqK (X T L79_0 (Env.keep [1, 5, 10, 11, 12] [(1, .fn (.func 80) [] [.ptr 0 0 0]), (5, v), (10, .sl false l.length 2 (fcells l)), (11, .int .i64 l.length), (12, .int .i64 i)]) H) (fun e' H' => XL T [1, 5, 10, 11, 12] L79_0 (Env.keep [1, 5, 10, 11, 12] e') H') = some (.exit 0, e', H) ∧ e'.get 5 = v := by
      simp [L79_0, hlt]
    obtain ⟨e', x1, x2⟩ := hx
    exact ⟨e', H, v, x1, x2, by simpa [valsL] using hA⟩
  | k + 1, i, out, v, H, hk, ho, h0, hA, hr => by
    have hlt : i < l.length := by omega
    have hltI : (i : Int) < (l.length : Int) := by omega
    have hfd := fc_drop l i hlt
    have hal := ha l[i] (List.getElem_mem hlt)
    have hd : l.drop i = l[i] :: l.drop (i + 1) := List.drop_eq_getElem_cons hlt
    rw [hd, valsL_cons, XL_eq]
    have hix : ix l.length (.int .i64 (i : Int)) = some i := by simp only [ix]; rw [if_pos ⟨by omega, hltI⟩]; simp
    have hw : IntKind.i64.wrap ((i : Int) + 1) = (i : Int) + 1 := wr64 (by omega) (by omega)
    have ih := kept_loop nm l hl ha k (i + 1)
    push_cast at ih
    generalize XL T [1, 5, 10, 11, 12] L79_0 = lp at *
    generalize l[i] = f at *
    obtain ⟨a, b⟩ := f
    simp only at hal hfd ⊢
    have hst : hset (H ++ [⟨[.str [], .str []], 0, true, .no⟩]) H.length 0 0 [.str a, .str b] = some (H ++ [⟨[.str a, .str b], 0, true, .no⟩]) := by
      rw [hset_at (cs := [.str [], .str []]) (kd := .no) (by simp)]
      simp [splice]
    have hgt : hget (H ++ [⟨[.str a, .str b], 0, true, .no⟩]) H.length 0 2 0 = some [.str a, .str b] := by
      rw [hget_at (cs := [.str a, .str b]) (l := true) (kd := .no) (by simp)]
      simp
    have hcl := vals1_ok a b (nm.map low) hal 0 (H ++ [⟨[.str a, .str b], 0, true, .no⟩]) (app_get h0)
    rw [List.append_assoc] at hcl
    simp only [List.cons_append, List.nil_append] at hcl
    have hA2 := hA.app [⟨[.str a, .str b], 0, true, .no⟩, ⟨[.str a, .str b], 0, true, .no⟩]
    by_cases hc : a.map low = nm.map low
    · have hcb : (a.map low == nm.map low) = true := by simpa using hc
      rw [hcb] at hcl
      obtain ⟨H', v', p1, p2, p3, p4, p5, p6⟩ := hA2.append 16 1 [.str b] (by omega) rfl rfl (by unfold LIM; omega)
      have e1 : scells out ++ [.str b] = scells (out ++ [b]) := by simp [scells]
      rw [e1] at p2
      have h00 := p5 0 _ hr (app_get h0)
      obtain ⟨e', H2, v2, x1, x2, x3⟩ := ih (out ++ [b]) v' H' (by omega) (by simp; omega) h00 (by simpa using p2) (fun e => (p6 0 e).elim hr (fun h => by
        have := (List.getElem?_eq_some_iff.1 h0).1
        simp at h))
      refine ⟨e', H2, v2, ?_, x2, by rw [if_pos hc]; simpa using x3⟩
      simp [L79_0, hltI, hix, hfd, hst, hgt, hcl, p1, hw, hnew, viewOf, fillP, splice]
      exact x1
    · have hcb : (a.map low == nm.map low) = false := by simpa using hc
      rw [hcb] at hcl
      obtain ⟨e', H2, v2, x1, x2, x3⟩ := ih out v _ (by omega) (by omega) (app_get h0) hA2 hr
      refine ⟨e', H2, v2, ?_, x2, by rw [if_neg hc]; exact x3⟩
      simp [L79_0, hltI, hix, hfd, hst, hgt, hcl, hw, hnew]
      exact x1
theorem kept_ok (nm : Seg) (a : AV) (l : List Fld) (hf : FV a l) (hl : l.length < 100000000) (ha : ∀ f ∈ l, f.1.length < 1000000000) :
    ∃ H' v', C T 79 [a, .fn (.func 80) [] [.ptr 0 0 0]] [⟨[.str (nm.map low)], 0, true, .no⟩] = some (v', H') ∧ Acc H' v' 1 (valsL l nm).length (scells (valsL l nm)) := by
  rw [q79]
  rcases hf with ⟨rfl, rfl⟩ | rfl
  · have hx : ∃ e', XL T [1, 5, 10, 11, 12] L79_0 [(1, .fn (.func 80) [] [.ptr 0 0 0]), (5, nls), (10, nls), (11, .int .i64 0), (12, .int .i64 0)] [⟨[.str (nm.map low)], 0, true, .no⟩] = some (.exit 0, e', [⟨[.str (nm.map low)], 0, true, .no⟩]) ∧ e'.get 5 = nls := by
      rw [XL_eq]
      simp [L79_0]
    obtain ⟨e', x1, x2⟩ := hx
    refine ⟨[⟨[.str (nm.map low)], 0, true, .no⟩], nls, ?_, .inl ⟨rfl, rfl, rfl⟩⟩
    simp [d79, x1, x2]
  · obtain ⟨e', H', v', x1, x2, x3⟩ := kept_loop nm l hl ha l.length 0 [] nls [⟨[.str (nm.map low)], 0, true, .no⟩] (by omega) (by simp) rfl (.inl ⟨rfl, rfl, rfl⟩) (by simp [rowN])
    simp only [List.drop_zero, List.nil_append, Int.natCast_zero] at x1 x3
    refine ⟨H', v', ?_, x3⟩
    simp [d79, x1, x2]
def strsV (l : List Seg) : AV := accV 1 l.length (scells l)
theorem fcells_closed : ∀ l : List Fld, closedL (fcells l) = true
  | [] => rfl
  | f :: l => by rw [fcells_cons]; simp [closedL, AV.closed, fcells_closed l]
theorem FV.closed {a : AV} {l : List Fld} (h : FV a l) : a.closed = true := by
  rcases h with ⟨_, rfl⟩ | rfl
  · rfl
  · simpa [AV.closed] using fcells_closed l
theorem BV.closed {a : AV} {l : Seg} (h : BV a l) : a.closed = true := by
  rcases h with ⟨_, rfl⟩ | rfl
  · rfl
  · simpa [AV.closed] using bcells_closed l
theorem FV.snap {a : AV} {l : List Fld} (h : FV a l) (k : Nat) (H : Heap) : snap (k + 1) H a = some (a, H) := by
  rcases h with ⟨_, rfl⟩ | rfl
  · rfl
  · simp [Go.Eng.snap, fcells_closed]
theorem BV.snap {a : AV} {l : Seg} (h : BV a l) (k : Nat) (H : Heap) : snap (k + 1) H a = some (a, H) := by
  rcases h with ⟨_, rfl⟩ | rfl
  · rfl
  · simp [Go.Eng.snap, bcells_closed]
theorem FV.cell {a : AV} {l : List Fld} (h : FV a l) : a.isCell = true := by rcases h with ⟨_, rfl⟩ | rfl <;> rfl
theorem BV.cell {a : AV} {l : Seg} (h : BV a l) : a.isCell = true := by rcases h with ⟨_, rfl⟩ | rfl <;> rfl
theorem values_ok (nm : Seg) (hn : nm.length < 1000000000) (a : AV) (l : List Fld) (hf : FV a l) (hl : l.length < 100000000) (ha : ∀ f ∈ l, f.1.length < 1000000000) (H : Heap) :
    C T 61 [a, .str nm] H = some (strsV (valsL l nm), H) := by
  refine anyH fd61 rfl (by simp [closedL, hf.closed, AV.closed]) ?_ H
  rw [q61]
  obtain ⟨H', v', x1, x2⟩ := kept_ok nm a l hf hl ha
  obtain ⟨H2, x3⟩ := x2.snap 63 (scells_snap 62 _)
  have hlo := olower_ok nm hn
  have hs := hf.snap 63 []
  simp [d61, hs, hget, hset, splice, hlo, x1, x3, strsV]
end Go.Eng.S
namespace Go.Eng.S
open Go Go.Eng
set_option linter.unusedSectionVars false
variable [Sit]
set_option maxRecDepth 20000
def oneV (l : List Seg) : List AV := match l with
  | [] => [.str [], .bool false, .cst .nilIface]
  | [v] => [.str v, .bool true, .cst .nilIface]
  | _ => [.str [], .bool false, sts 400]
theorem one_ok (nm : Seg) (hn : nm.length < 1000000000) (a : AV) (l : List Fld) (hf : FV a l) (hl : l.length < 100000000) (ha : ∀ f ∈ l, f.1.length < 1000000000) (H : Heap) :
    C T 43 [a, .str nm] H = some (.tup (oneV (valsL l nm)), H) := by
  refine anyH fd43 rfl (by simp [closedL, hf.closed, AV.closed]) ?_ H
  rw [q43]
  have hs := hf.snap 63 []
  have hv := values_ok nm hn a l hf hl ha []
  have hle := valsL_len l nm
  match hm : valsL l nm with
  | [] =>
    rw [hm] at hv
    simp [d43, hs, hv, strsV, accV, oneV]
  | [v] =>
    rw [hm] at hv
    simp [d43, hs, hv, strsV, accV, oneV]
  | v :: w :: r =>
    rw [hm] at hv
    rw [hm] at hle
    simp only [List.length_cons] at hle
    simp (disch := omega) [d43, hs, hv, strsV, accV, oneV]
abbrev cl14 : Seg := [99, 111, 110, 116, 101, 110, 116, 45, 108, 101, 110, 103, 116, 104]
abbrev most30 : Int := 1073741824
/-- The only length field's value. -/
def lenS (l : List Fld) : Option Seg := match valsL l cl14 with
  | [v] => some v
  | _ => none
def lenN (l : List Fld) : Int := match lenS l with
  | some v => (decO most30 v).getD 0
  | none => 0
def lenB (l : List Fld) : Bool := match lenS l with
  | some v => match decO most30 v with
    | some n => decT 20 n.toNat == v
    | none => false
  | none => false
theorem decO_rng {m : Int} (hm : 0 ≤ m) {s : Seg} {n : Int} (h : decO m s = some n) : 0 ≤ n ∧ n ≤ m := by
  unfold decO at h
  split at h
  · cases h
  · split at h
    · cases h
    · exact ⟨dv_ge (by decide) dgI_ge (Int.le_refl 0) h, dv_le hm h⟩
theorem lenN_rng (l : List Fld) : 0 ≤ lenN l ∧ lenN l ≤ 1073741824 := by
  unfold lenN
  cases lenS l with
  | none => exact ⟨by decide, by decide⟩
  | some v =>
    show 0 ≤ (decO most30 v).getD 0 ∧ (decO most30 v).getD 0 ≤ 1073741824
    cases h : decO most30 v with
    | none => exact ⟨by decide, by decide⟩
    | some n => exact decO_rng (by decide) h
theorem dec0 : decO most30 [] = none := rfl
theorem length_ok (a : AV) (l : List Fld) (hf : FV a l) (hl : l.length < 100000000) (ha : ∀ f ∈ l, f.1.length < 1000000000 ∧ f.2.length < 1000000000) (H : Heap) :
    C T 27 [a] H = some (.tup [.int .i64 (lenN l), .bool (lenB l)], H) := by
  refine anyH fd27 rfl (by simp [closedL, hf.closed]) ?_ H
  rw [q27]
  have hs := hf.snap 63 []
  have ho := one_ok cl14 (by decide) a l hf hl (fun f h => (ha f h).1) []
  have hvl : ∀ v ∈ valsL l cl14, v.length < 1000000000 := by
    intro v hv
    unfold valsL at hv
    obtain ⟨f, hf1, rfl⟩ := List.mem_map.1 hv
    exact (ha f (List.mem_filter.1 hf1).1).2
  have hno : ∀ (e : AV), C T 44 [.str [], .int .i64 1073741824] [] = some (.tup (decR most30 []), []) := fun _ => dparse_ok [] (by decide) most30 (by decide) (by decide) []
  have hno := hno nls
  obtain ⟨a0, c0, hd0⟩ := decR_none dec0
  rw [hd0] at hno
  unfold lenN lenB lenS
  match hm : valsL l cl14 with
  | [] =>
    rw [hm] at ho
    simp only [oneV] at ho
    simp [d27, hs, ho, hno]
  | v :: w :: r =>
    rw [hm] at ho
    simp only [oneV] at ho
    simp [d27, hs, ho, hno]
  | [v] =>
    rw [hm] at ho
    simp only [oneV] at ho
    have hvv := hvl v (by rw [hm]; simp)
    have hp := dparse_ok v hvv most30 (by decide) (by decide) []
    simp only
    cases hd : decO most30 v with
    | none =>
      obtain ⟨a1, c1, hd1⟩ := decR_none hd
      rw [hd1] at hp
      simp [d27, hs, ho, hp]
    | some n =>
      rw [decR_some hd] at hp
      obtain ⟨n0, n1⟩ := decO_rng (by decide) hd
      have n1 : n ≤ 1073741824 := n1
      obtain ⟨k, rfl⟩ := Int.eq_ofNat_of_zero_le n0
      have ht := dtext_ok k (by omega) []
      cases hq : decT 20 k == v with
      | true =>
        have hq' := eq_of_beq hq
        simp [d27, hs, ho, hp, ht, hq']
      | false =>
        have hq' : ¬ decT 20 k = v := by simpa using hq
        simp [d27, hs, ho, hp, ht, hq]
end Go.Eng.S
namespace Go.Eng.S
open Go Go.Eng
set_option linter.unusedSectionVars false
variable [Sit]
set_option maxRecDepth 20000
def lenK (H : Heap) (v : AV) : Option (AV × Heap) := match v with
  | .sl _ n _ _ => some (.int .i64 n, H)
  | .ms _ _ n _ _ => some (.int .i64 n, H)
  | .cst (.slice none 0 0) => some (.int .i64 0, H)
  | _ => none
@[simp ↓ high] theorem aop_len {T : Tab} {cf : CF} {x : Opd} {e : Env} {H : Heap} : aop T cf (.len x) e H = lenK H (ev T e x) := rfl
@[simp] theorem lenK_sl {H : Heap} {f : Bool} {n e : Nat} {cs : List AV} : lenK H (.sl f n e cs) = some (.int .i64 n, H) := rfl
@[simp] theorem lenK_ms {H : Heap} {i o n e g : Nat} : lenK H (.ms i o n e g) = some (.int .i64 n, H) := rfl
@[simp] theorem lenK_nil {H : Heap} : lenK H nls = some (.int .i64 0, H) := rfl
def obK (H : Heap) (v : AV) : Option (AV × Heap) := match viewOf H 1 v with
  | some (_, cs) => match v with
    | .str _ => none
    | _ => (bytesOf cs).map fun s => (.str s, H)
  | none => none
@[simp ↓ high] theorem aop_ob {T : Tab} {cf : CF} {x : Opd} {e : Env} {H : Heap} : aop T cf (.conv .ofBytes x) e H = obK H (ev T e x) := rfl
theorem obK_sl {H : Heap} {f : Bool} {b : Seg} : obK H (.sl f b.length 1 (bcells b)) = some (.str b, H) := by simp [obK, viewOf, bytesOf_bcells]
@[simp] theorem obK_ms {H : Heap} {i o n e g : Nat} : obK H (.ms i o n e g) = match viewOf H 1 (.ms i o n e g) with
    | some (_, cs) => (bytesOf cs).map fun s => (.str s, H)
    | none => none := by
  unfold obK
  cases viewOf H 1 (.ms i o n e g) <;> rfl
@[simp] theorem obK_nil {H : Heap} : obK H nls = some (.str [], H) := rfl
theorem FV.len {a : AV} {l : List Fld} (h : FV a l) (H : Heap) : lenK H a = some (.int .i64 l.length, H) := by
  rcases h with ⟨rfl, rfl⟩ | rfl <;> simp
theorem BV.len {a : AV} {l : Seg} (h : BV a l) (H : Heap) : lenK H a = some (.int .i64 l.length, H) := by
  rcases h with ⟨rfl, rfl⟩ | rfl <;> simp
theorem BV.ob {a : AV} {l : Seg} (h : BV a l) (H : Heap) : obK H a = some (.str l, H) := by
  rcases h with ⟨rfl, rfl⟩ | rfl
  · simp
  · exact obK_sl
theorem Acc.lenK {H : Heap} {v : AV} {e n : Nat} {cs : List AV} (h : Acc H v e n cs) (H' : Heap) : lenK H' v = some (.int .i64 n, H') := by
  rcases h with ⟨rfl, rfl, rfl⟩ | ⟨k, g, rfl, _⟩ <;> simp
def iaK (s : Nat) (H : Heap) (v i : AV) : Option (AV × Heap) := match v with
  | .sl _ n s' cs => if s = s' then (ix n i).map fun i => (.ep (cs.drop (i * s)), H) else none
  | .ms j off n s' g => if s = s' then (ix n i).map fun i => (.ptr j (off + i * s) g, H) else none
  | _ => none
@[simp ↓ high] theorem aop_ia {T : Tab} {cf : CF} {s : Nat} {x i : Opd} {e : Env} {H : Heap} : aop T cf (.iaddr none s x i) e H = iaK s H (ev T e x) (ev T e i) := rfl
@[simp] theorem iaK_sl {H : Heap} {f : Bool} {s n : Nat} {cs : List AV} {i : AV} : iaK s H (.sl f n s cs) i = (ix n i).map fun i => (.ep (cs.drop (i * s)), H) := by simp [iaK]
@[simp] theorem iaK_ms {H : Heap} {s j o n g : Nat} {i : AV} : iaK s H (.ms j o n s g) i = (ix n i).map fun i => (.ptr j (o + i * s) g, H) := by simp [iaK]
theorem FV.ia {a : AV} {l : List Fld} (h : FV a l) (H : Heap) {i : Nat} (hi : i < l.length) : iaK 2 H a (.int .i64 i) = some (.ep (.str l[i].1 :: .str l[i].2 :: fcells (l.drop (i + 1))), H) := by
  rcases h with ⟨rfl, rfl⟩ | rfl
  · simp at hi
  · have hix : ix l.length (.int .i64 (i : Int)) = some i := by simp only [ix]; rw [if_pos ⟨by omega, by omega⟩]; simp
    simp [hix, fc_drop l i hi]
end Go.Eng.S
