/- A range over a function: regions in a round and under a caller's yield. No condition. -/
import Derived.Test.YtgjgcjhmaibblaaGreatDoorEg
import Derived.RangeFuncLeaves
import Derived.RangeFuncRecord
import Derived.RangeFuncOwn
namespace Go.Eng
open Go

/-- The wide fence, in a round or in none. -/
abbrev WF (ro : Option Nat) : Fence := { Fence.wide with round := ro }

theorem callsIn_WF {ro : Option Nat} {n : Nat} {P : Program} {f : FuncId} {args : Array Value} {w : World} {R : Ending → World → Prop} (h : Calls P f args w R) : CallsIn (WF ro) n P f args w R :=
  (callsIn_wide (n := n)).2 h

theorem upon_uponIn {ro : Option Nat} {n : Nat} {P : Program} {o : Oper} {a : Act} {next : Act → World → Prop} {Q : Exit → Act → World → Prop} {r : Result Next} (h : o.upon P a next Q r) : o.uponIn (WF ro) n P a next Q r := by
  cases r with
  | ok x w =>
    cases x with
    | value v => exact h
    | skip => exact h
    | defer d => exact h
    | enter f args => exact ⟨fun hd => (by cases hd), callsIn_WF h⟩
    | row row args => exact ⟨fun hd => (by cases hd), fun c cs _ => let ⟨v, w', r, s⟩ := h c cs; ⟨v, w', r, stepsIn_wide.2 s⟩⟩
    | round l f tmps assign body => exact h.elim
    | _ => exact h.elim
  | halt x w =>
    cases x with
    | panic v => exact h
    | _ => exact h.elim

/-- What held of values still holds. -/
def Tr (c c' : Cx) : Prop := ∀ a v, VR c a v → VR c' a v
theorem Tr.refl (c : Cx) : Tr c c := fun _ _ h => h
theorem Tr.trans {a b c : Cx} (h : Tr a b) (k : Tr b c) : Tr a c := fun x v hx => k x v (h x v hx)
theorem Tr.of {c c' : Cx} (h : Ext c c') : Tr c c' := fun _ _ hv => hv.ext h
theorem Tr.env {c c' : Cx} (h : Tr c c') {e : Env} {tmps : Array Value} (he : EnvR c e tmps) : EnvR c' e tmps := fun t => h _ _ (he t)
theorem Tr.list {c c' : Cx} (h : Tr c c') {x : List AV} {y : List Value} (hx : VRs c x y) : VRs c' x y := ⟨hx.len, fun k a v h1 h2 => h _ _ (hx.rel k a v h1 h2)⟩

/-- New blocks that nobody tracks. -/
theorem grown_ok {c : Cx} (hW : WR c) {w' : World} (hsz : c.w.heap.size ≤ w'.heap.size) (hold : ∀ b, b < c.w.heap.size → w'.heap[b]? = c.w.heap[b]?) (hos : w'.os = c.w.os) (hout : w'.output = c.w.output) : Ext c (c.setW w') ∧ WR (c.setW w') := by
  have hE : Ext c (c.setW w') :=
    { F := rfl
      row := fun i o h => ⟨o, h, Nat.le_refl _, fun _ => ⟨rfl, rfl⟩⟩
      own := fun b h => .inl h
      size := hsz
      frame := fun b hb _ => hold b hb
      room := fun a ha => by
        have hlt := cell_lt ha
        have : (c.setW w').w.cell? a = c.w.cell? a := by simp only [World.cell?, Cx.setW, hold _ hlt]
        rw [this]; exact ha
      os := hos
      out := hout }
  refine ⟨hE, ?_⟩
  exact
    { lt := fun i o h => Nat.lt_of_lt_of_le (hW.lt i o h) hsz
      nf := hW.nf
      inj := hW.inj
      cell := fun i o h k a hk => by
        obtain ⟨v, q1, q2⟩ := hW.cell i o h k a hk
        exact ⟨v, by rw [← q1]; exact cell_of_heap (hold _ (hW.lt i o h)), q2.ext hE⟩
      soft := fun i o h hl k hk => by
        have hb := hold _ (hW.lt i o h)
        have hk' : (c.w.cell? ⟨c.blk i, k, none⟩).isSome = true := by rw [← hk]; congr 1; exact (cell_of_heap hb).symm
        rw [← hW.soft i o h hl k hk']; exact frozen_of_heap hb
      flat := fun i o h hl => (hW.flat i o h hl).of (hold _ (hW.lt i o h))
      kind := fun i o h hl => (hW.kind i o h hl).of (hold _ (hW.lt i o h)) }

/-- A block that is no cells and no tracked row turns. -/
theorem cell_putObj {w : World} {l : Nat} {o o' : Obj} (hl : w.heap[l]? = some o) (ho : o.isCells = false) (ho' : o'.isCells = false) (a : Addr) : (w.putObj l o').cell? a = w.cell? a := by
  by_cases e : a.block = l
  · have h1 : (w.putObj l o').heap[a.block]? = some o' := by rw [e]; exact World.putObj_heap_same (Array.getElem?_eq_some_iff.1 hl).1
    have h2 : w.heap[a.block]? = some o := by rw [e]; exact hl
    simp only [World.cell?, h1, h2]
    cases o <;> cases o' <;> first | rfl | (cases ho; done) | (cases ho'; done)
  · simp only [World.cell?, World.putObj_heap_other e]

theorem VR.same {c c' : Cx} (hF : c'.F = c.F) (hblk : c'.blk = c.blk) (hbase : c'.base = c.base) (hA : c'.A = c.A) (hsz : c'.w.heap.size = c.w.heap.size) (hcell : ∀ a, c'.w.cell? a = c.w.cell? a) {a : AV} {v : Value} (hv : VR c a v) : VR c' a v := by
  have hat : ∀ i k, c'.at i k = c.at i k := fun i k => by rw [Cx.at, Cx.at, hblk, hbase]
  have hown : ∀ b, Own c' b ↔ Own c b := fun b => by unfold Own LOwn; rw [hF, hA, hblk]
  have hperm : ∀ b, Perm c b → Perm c' b := fun b hb => ⟨by rw [hsz]; exact hb.1, fun h => hb.2 ((hown b).1 h)⟩
  induction hv with
  | unk y => exact .unk y
  | bool b => exact .bool b
  | int k n => exact .int k n
  | str s => exact .str s
  | cst v => exact .cst v
  | ptr i off g o a h1 hg ha => exact .ptr i off g o a (by rw [hA]; exact h1) hg fun e => by rw [hat]; exact ha e
  | ep cells vs b o hl hr hp hc ih => exact .ep cells vs b o hl (fun k a v h1 h2 => ih k a v h1 h2) (hperm b hp) (fun k v hk => by rw [hcell]; exact hc k v hk)
  | sl full n e cells vs b o cap sp hsp hn hf he hl hr hp hc ih =>
    exact .sl full n e cells vs b o cap sp hsp hn hf he hl (fun k a v h1 h2 => ih k a v h1 h2) (fun hne => hperm b (hp hne)) (fun k v hk => by rw [hcell]; exact hc k v hk)
  | ms i off n e g o a cap h1 hg hn hs ha hroom =>
    refine .ms i off n e g o a cap (by rw [hA]; exact h1) hg hn hs (fun e1 hc => by rw [hat]; exact ha e1 hc) (fun e1 hc k hk => ?_)
    rw [hcell, hat]; exact hroom e1 hc k hk
  | fn f x y x' y' hx hx' hy hy' ih1 ih2 => exact .fn f x y x' y' hx ih1 hy ih2
  | iface t x y h ih => exact .iface t x y ih
  | agg x x' hx hx' ih => exact .agg x x' hx ih
  | tup x x' hx hx' ih => exact .tup x x' hx ih

theorem toggle_ok {T : Tab} {c : Cx} (hc : OK T c) {l : Nat} {o o' : Obj} (hl : c.w.heap[l]? = some o) (ho : o.isCells = false) (ho' : o'.isCells = false) (hno : ¬ LOwn c l) :
    Tr c (c.setW (c.w.putObj l o')) ∧ OK T (c.setW (c.w.putObj l o')) := by
  have hT : Tr c (c.setW (c.w.putObj l o')) := fun a v h => VR.same (c := c) (c' := c.setW (c.w.putObj l o')) rfl rfl rfl rfl World.putObj_size (cell_putObj hl ho ho') h
  have hne : ∀ (i : Nat) (p : AObj), c.A[i]? = some p → p.live = true → c.blk i ≠ l := fun i p h hl e => hno ⟨i, p, h, hl, e⟩
  refine ⟨hT, ?_, fun n cs hn => hT _ _ (hc.gl n cs hn), fun b hb => hc.fr b (by rw [← World.putObj_size (w := c.w) (r := l) (o := o')]; exact hb)⟩
  exact
    { lt := fun i p h => by show c.blk i < (c.w.putObj l o').heap.size; rw [World.putObj_size]; exact hc.wr.lt i p h
      nf := hc.wr.nf
      inj := hc.wr.inj
      cell := fun i p h k a hk => by
        obtain ⟨v, q1, q2⟩ := hc.wr.cell i p h k a hk
        exact ⟨v, by rw [← q1]; exact cell_putObj hl ho ho' _, hT _ _ q2⟩
      soft := fun i p h hlive k hk => by
        have hb := World.putObj_heap_other (w := c.w) (o := o') (hne i p h hlive)
        rw [← hc.wr.soft i p h hlive k (by rw [← hk]; congr 1; exact (cell_of_heap hb).symm)]; exact frozen_of_heap hb
      flat := fun i p h hlive => (hc.wr.flat i p h hlive).of (World.putObj_heap_other (hne i p h hlive))
      kind := fun i p h hlive => (hc.wr.kind i p h hlive).of (World.putObj_heap_other (hne i p h hlive)) }

/-! ### regions with calls of yield -/
def isYield : Value → Option Nat
  | .func (.yield l) a b => if a.size = 0 ∧ b.size = 0 then some l else none
  | _ => none
theorem isYield_some {v : Value} {l : Nat} (h : isYield v = some l) : v = .func (.yield l) #[] #[] := by
  unfold isYield at h
  split at h
  · split at h
    · rename_i hab
      cases h
      rw [Array.eq_empty_of_size_eq_zero hab.1, Array.eq_empty_of_size_eq_zero hab.2]
    · cases h
  · cases h
def yArgs (T : Tab) (e : Env) (l : Nat) : AOp → Option (List AV)
  | .call f xs => match ev T e f with
    | .cst v => if isYield v = some l then some (xs.map (ev T e)) else none
    | _ => none
  | _ => none
def runOpsB (T : Tab) (cf : CF) (l : Nat) (h : List AV → Heap → Option Heap) : List AOper → Env → Heap → Option (Env × Heap)
  | [], e, H => some (e, H)
  | o :: r, e, H => match wantedA e o.guard with
    | none => none
    | some false => runOpsB T cf l h r (putA e o.dst .und) H
    | some true => match yArgs T e l o.op with
      | some args => match h args H with
        | some H' => runOpsB T cf l h r (putA e o.dst (.bool true)) H'
        | none => none
      | none => match aop T cf o.op e H with
        | some (v, H') => runOpsB T cf l h r (putA e o.dst v) H'
        | none => none

/-- What a call of yield does. -/
def YOK (P : Program) (T : Tab) (l : Nat) (K : Cx → Prop) (h : List AV → Heap → Option Heap) : Prop := ∀ c, K c → OK T c → ∀ (args : List AV) (args' : Array Value) (H' : Heap), VRs c args args'.toList → h args c.A = some H' →
  ∃ fn tmps assign body, (Instr.yield l args').run P c.w = .ok (.round l fn tmps assign body) c.w ∧ RoundIn Fence.wide 0 P l fn tmps assign body c.w fun e w' => e = .returned (.bool true) ∧ ∃ c', w' = c'.w ∧ Tr c c' ∧ K c' ∧ OK T c' ∧ c'.A = H'

/-- The calls of a region are calls of values. -/
def callsV (P : Program) (ops : Array Oper) : Bool := ops.all fun o => match trOpX P ops o with
  | some (.call _ _) => (match o.op with
    | .call c => (match c.callee with
      | .value _ => !(feeds ops o) && !(inBld o.pos)
      | _ => false)
    | _ => false)
  | _ => true

theorem opsB_ok {P : Program} {T : Tab} (hT : TabOK P T) {cf : CF} (hcf : CFok P T cf) {nt : Nat} {ops : Array Oper} (hcv : callsV P ops = true) {Q : Exit → Act → World → Prop} {ro : Option Nat} {l : Nat} {K : Cx → Prop} (hK : ∀ c c', K c → Ext c c' → OK T c' → K c') {h : List AV → Heap → Option Heap} (hY : YOK P T l K h) :
    ∀ (ll : List Oper) (k : Nat), ops.toList.drop k = ll → ∀ (c : Cx), K c → OK T c → ∀ (e : Env) (a : Act), EnvR c e a.tmps → nt ≤ a.tmps.size →
    ∀ (e' : Env) (H' : Heap), runOpsB T cf l h (ll.map (trOper P nt ops)) e c.A = some (e', H') →
    (∀ (a' : Act) (c' : Cx), Tr c c' → K c' → OK T c' → c'.A = H' → EnvR c' e' a'.tmps → nt ≤ a'.tmps.size → a'.defers = a.defers → Q .normal a' c'.w) → wpOpsIn (WF ro) 0 P ops Q (List.range' k ll.length) a c.w
  | [], k, hl, c, hk0, hc, e, a, he, hsz, e', H', h, hQ => by
    cases h
    exact hQ a c (Tr.refl c) hk0 hc rfl he hsz rfl
  | o :: ll, k, hl, c, hk0, hc, e, a, he, hsz, e', H', h, hQ => by
    have hk : ops[k]? = some o := by
      have : (ops.toList.drop k)[0]? = some o := by rw [hl]; rfl
      rw [List.getElem?_drop] at this
      simpa using this
    have hl' : ops.toList.drop (k + 1) = ll := by
      have : (ops.toList.drop k).drop 1 = ll := by rw [hl]; rfl
      rwa [List.drop_drop] at this
    simp only [List.length_cons, List.range'_succ, wpOpsIn, hk]
    simp only [List.map_cons] at h
    unfold runOpsB at h
    split at h
    · cases h
    · rename_i hw
      have := wanted_ok he hw
      rw [this]
      simp only [Bool.false_eq_true, if_false]
      exact ⟨fun _ _ => trivial, opsB_ok hT hcf hcv hK hY ll (k + 1) hl' c hk0 hc _ _ (envR_und he o.dst) (by rw [put_size]; exact hsz) e' H' h (fun a' c' h1 h2 h3 h4 h5 h6 h7 => hQ a' c' h1 h2 h3 h4 h5 h6 (by rw [h7, put_defers]))⟩
    · rename_i hw
      have := wanted_ok he hw
      rw [this]
      simp only [if_true]
      refine ⟨fun _ _ => trivial, ?_⟩
      have hdst : ∀ {r : AOp}, (trOper P nt ops o).op = r → r ≠ .fail → (∀ x, o.dst = some x → x < nt) ∧ (trOpX P ops o).getD .fail = r := by
        intro r hr hne
        unfold trOper at hr
        simp only at hr
        cases hod : o.dst with
        | none => rw [hod] at hr; simp only [if_true] at hr; exact ⟨fun x hx => (by cases hx), hr⟩
        | some d =>
          rw [hod] at hr
          by_cases hd : d < nt
          · simp only [hd, decide_true, if_true] at hr
            exact ⟨fun x hx => (by cases hx; exact hd), hr⟩
          · simp only [hd, decide_false, Bool.false_eq_true, if_false] at hr
            exact absurd hr.symm hne
      split at h
      · -- yield
        rename_i args hy
        split at h
        · rename_i H1 hh
          obtain ⟨f', xs, hop⟩ : ∃ f' xs, (trOper P nt ops o).op = .call f' xs := by
            generalize (trOper P nt ops o).op = ao at hy
            cases ao <;> first | (cases hy; done) | exact ⟨_, _, rfl⟩
          rw [hop] at hy
          obtain ⟨hd1, hd2⟩ := hdst hop (by simp)
          have htx : trOpX P ops o = some (.call f' xs) := by
            cases hx : trOpX P ops o with
            | none => rw [hx] at hd2; cases hd2
            | some r => rw [hx] at hd2; simp only [Option.getD_some] at hd2; rw [hd2]
          have hv := Array.all_eq_true_iff_forall_mem.1 hcv o (Array.mem_of_getElem? hk)
          simp only [htx] at hv
          obtain ⟨dst, op, ty, pos, after, guard⟩ := o
          cases op <;> first | (cases hv; done) | skip
          rename_i cl
          obtain ⟨callee, cargs, argTypes⟩ := cl
          cases callee <;> first | (cases hv; done) | skip
          rename_i fo
          simp only [Bool.and_eq_true, Bool.not_eq_true'] at hv
          unfold trOpX at htx
          rw [if_neg (by rw [hv.1]; simp), if_neg (by simp only; rw [hv.2]; simp)] at htx
          simp only [trOp] at htx
          split at htx
          · cases htx
          · rename_i xs' hxs
            obtain ⟨f2, hf2, hf3⟩ := mapO_some htx
            cases hf3
            simp only [yArgs] at hy
            have hfv := opd_ok hc he hf2
            split at hy
            · rename_i v hev
              rw [hev] at hfv
              split at hy
              · rename_i hiy
                cases hy
                have hval : a.eval fo = .func (.yield l) #[] #[] := by
                  rw [← isYield_some hiy]
                  generalize a.eval fo = z at hfv
                  cases hfv
                  rfl
                have hl2 := opds_ok hc he hxs
                obtain ⟨fn, tmps, assign, body, hrun, hround⟩ := hY c hk0 hc _ (cargs.map a.eval) H1 hl2 hh
                have hsem : (Oper.semAt (WF ro).round a.eval ⟨dst, .call ⟨.value fo, cargs, argTypes⟩, ty, pos, after, guard⟩).run P c.w = .ok (.round l fn tmps assign body) c.w := by
                  rw [Oper.semAt_eq _ _ _ (fun c hh => by cases hh)]
                  rw [← hrun]
                  simp [execOp, resolve, hval, Deferred.ofValue, invoke]
                rw [hsem]
                refine ⟨fun hd => (by cases hd), RoundIn.mono (F := Fence.wide) hround ?_⟩
                rintro e2 w2 ⟨rfl, c2, rfl, g1, g2, g3, g4⟩
                rw [← g4] at h
                exact opsB_ok hT hcf hcv hK hY ll (k + 1) hl' c2 g2 g3 _ _ (envR_put (g1.env he) (fun x hx => Nat.lt_of_lt_of_le (hd1 x hx) hsz) (.bool true)) (by rw [put_size]; exact hsz) e' H' h
                  (fun a' c' h1 h2 h3 h4 h5 h6 h7 => hQ a' c' (g1.trans h1) h2 h3 h4 h5 h6 (by rw [h7, put_defers]))
              · cases hy
            · cases hy
        · cases h
      · split at h
        · rename_i v H1 ha
          have hnf : (trOper P nt ops o).op ≠ .fail := by
            intro hf
            rw [hf] at ha
            cases ha
          obtain ⟨hd1, hd2⟩ := hdst rfl hnf
          rw [← hd2] at ha
          have hnd : ∀ c, o.op ≠ .defer c := by
            intro d hd
            have : trOpX P ops o = none := by
              unfold trOpX trOpT
              have h1 : feeds ops o = false := by
                unfold feeds
                rw [hd]
                cases o.dst <;> rfl
              rw [if_neg (by rw [h1]; simp), hd]
              simp [trOp, elOf]
            rw [this] at ha
            cases ha
          rw [Oper.semAt_eq _ _ _ hnd]
          refine upon_uponIn (op_okX hT hc he hcf ha a o _ Q fun y c' hE hW hA hv => ?_)
          have hc' := hc.ext hE hW
          rw [← hA] at h
          exact opsB_ok hT hcf hcv hK hY ll (k + 1) hl' c' (hK c c' hk0 hE hc') hc' _ _ (envR_put (he.ext hE) (fun x hx => Nat.lt_of_lt_of_le (hd1 x hx) hsz) hv) (by rw [put_size]; exact hsz) e' H' h
            (fun a' c'' h1 h2 h3 h4 h5 h6 h7 => hQ a' c'' ((Tr.of hE).trans h1) h2 h3 h4 h5 h6 (by rw [h7, put_defers]))
        · cases h

theorem regB {P : Program} {T : Tab} (hT : TabOK P T) {cf : CF} (hcf : CFok P T cf) {nt id : Nat} {ops : Array Oper} (hcv : callsV P ops = true) {Q : Exit → Act → World → Prop} {ro : Option Nat} {l : Nat} {K : Cx → Prop} (hK : ∀ c c', K c → Ext c c' → OK T c' → K c') {h : List AV → Heap → Option Heap} (hY : YOK P T l K h)
    {al : List AOper} (has : ops.toList.map (trOper P nt ops) = al) {c : Cx} (hk : K c) (hc : OK T c) {e : Env} {a : Act} (he : EnvR c e a.tmps) (hsz : nt ≤ a.tmps.size) {e' : Env} {H' : Heap} (hr : runOpsB T cf l h al e c.A = some (e', H'))
    (hQ : ∀ (a' : Act) (c' : Cx), Tr c c' → K c' → OK T c' → c'.A = H' → EnvR c' e' a'.tmps → nt ≤ a'.tmps.size → a'.defers = a.defers → Q .normal a' c'.w) : (Code.region id ops false).wpIn (WF ro) 0 P Q a c.w := by
  refine wpIn_region ?_
  rw [List.range_eq_range']
  exact opsB_ok hT hcf hcv hK hY ops.toList 0 rfl c hk hc e a he hsz e' H' (by rw [has]; exact hr) hQ
end Go.Eng
