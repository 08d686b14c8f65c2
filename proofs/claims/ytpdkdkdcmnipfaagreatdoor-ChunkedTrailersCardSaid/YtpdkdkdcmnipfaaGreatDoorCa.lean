/- Chunked bodies: the decoder byte by byte, and the reading at once, are the same (no program in sight). No condition. -/
namespace Go.Eng.S
structure Rd where
  buf : List UInt8
  line : List UInt8
  cr : Bool
  op : Bool
  st : Nat
def Rd.put (most : Nat) (r : Rd) (c : UInt8) : Rd := if r.st = 2 ∨ r.st = 3 then r else
  if r.cr = true ∧ c = 10 then ⟨[], r.buf, false, false, 1⟩
  else if r.cr = true ∨ c = 10 then { r with op := true, st := 2 }
  else if c = 13 then { r with op := true, cr := true, st := 0 }
  else if r.buf.length = most then { r with op := true, st := 3 }
  else { r with op := true, buf := r.buf ++ [c], st := 0 }
structure Lim where
  line : Nat
  head : Nat
  fields : Nat
  size : List UInt8 → Nat → Nat ⊕ Nat
  field : List UInt8 → Bool
structure DS where
  stage : Nat
  state : Nat
  taken : Nat
  rd : Rd
  left : Int
  out : List UInt8
  fields : Nat
  bytes : Nat
  err : Option (Nat × Nat)
/-- A byte in its stage: the new state, and the status of an error. -/
def DS.stp (l : Lim) (d : DS) (c : UInt8) : DS × Option Nat := match d.stage with
  | 0 =>
    let r := d.rd.put l.line c
    if r.st = 2 then ({ d with rd := r }, some 400) else if r.st = 3 then ({ d with rd := r }, some 400) else if r.st = 0 then ({ d with rd := r }, none) else
    match l.size r.line d.out.length with
    | .inl st => ({ d with rd := r }, some st)
    | .inr n => ({ d with rd := r, left := n, stage := if n = 0 then 3 else 1 }, none)
  | 1 => ({ d with out := d.out ++ [c], left := d.left - 1, stage := if d.left - 1 = 0 then 2 else 1 }, none)
  | 2 => if c = (if d.left = 0 then 13 else 10) then ({ d with left := d.left - 1, stage := if d.left - 1 = -2 then 0 else 2 }, none) else (d, some 400)
  | _ =>
    let r := d.rd.put l.line c
    if r.st = 2 then ({ d with rd := r }, some 400) else if r.st = 3 then ({ d with rd := r }, some 431) else if r.st = 0 then ({ d with rd := r }, none) else
    if r.line = [] then ({ d with rd := r, state := 1 }, none) else
    if d.fields + 1 > l.fields ∨ d.bytes + (r.line.length + 2) > l.head then ({ d with rd := r, fields := d.fields + 1, bytes := d.bytes + (r.line.length + 2) }, some 431) else
    ({ d with rd := r, fields := d.fields + 1, bytes := d.bytes + (r.line.length + 2) }, if l.field r.line = true then none else some 400)
def DS.put (l : Lim) (d : DS) (c : UInt8) : DS := if d.state ≠ 0 then d else match d.stp l c with
  | (d', none) => { d' with taken := d.taken + 1 }
  | (d', some st) => { d' with state := 2, err := some (st, d.taken), taken := d.taken + 1 }

/-- What reading leads to. -/
inductive Res where
  | opn
  | bad (st at_ : Nat)
  | ok (data : List UInt8) (n : Nat)
/-- The decoder over all bytes. -/
def DS.run (l : Lim) : DS → List UInt8 → Res
  | _, [] => .opn
  | d, c :: r => match (d.put l c).state with
    | 0 => DS.run l (d.put l c) r
    | 1 => .ok (d.put l c).out (d.put l c).taken
    | _ => match (d.put l c).err with
      | some (st, a) => .bad st a
      | none => .opn

/-! ### the reading at once -/
inductive Ln where
  | ok (s : List UInt8) (rest : List UInt8)
  | bad (j : Nat)
  | long (j : Nat)
  | opn
/-- A line, its first bytes being there already. -/
def lineR (most : Nat) : List UInt8 → List UInt8 → Ln
  | _, [] => .opn
  | b, c :: r => if c = 10 then .bad b.length else if c = 13 then (match r with
      | [] => .opn
      | e :: r => if e = 10 then .ok b r else .bad (b.length + 1))
    else if b.length = most then .long b.length else lineR most (b ++ [c]) r
theorem lineR_len {most : Nat} : ∀ {s : List UInt8} {b : List UInt8} {l rest : List UInt8}, lineR most b s = .ok l rest → l.length + 2 + rest.length = b.length + s.length
  | [], b, l, rest, h => by cases h
  | c :: r, b, l, rest, h => by
    unfold lineR at h
    split at h
    · cases h
    · split at h
      · split at h
        · cases h
        · split at h
          · cases h
            simp; omega
          · cases h
      · split at h
        · cases h
        · have := lineR_len h
          simp at this ⊢
          omega
/-- The trailer, from the byte with number 'at_' on. -/
def trailR (l : Lim) (data : List UInt8) : Nat → Nat → Nat → Nat → List UInt8 → Res
  | 0, _, _, _, _ => .opn
  | k + 1, at_, f, b, s => match lineR l.line [] s with
    | .opn => .opn
    | .long j => .bad 431 (at_ + j)
    | .bad j => .bad 400 (at_ + j)
    | .ok x rest => if x = [] then .ok data (at_ + x.length + 2) else
      if f + 1 > l.fields ∨ b + (x.length + 2) > l.head then .bad 431 (at_ + x.length + 1) else
      if l.field x = true then trailR l data k (at_ + x.length + 2) (f + 1) (b + (x.length + 2)) rest else .bad 400 (at_ + x.length + 1)
/-- The chunks. -/
def readR (l : Lim) : Nat → Nat → List UInt8 → List UInt8 → Res
  | 0, _, _, _ => .opn
  | k + 1, at_, out, s => match lineR l.line [] s with
    | .opn => .opn
    | .long j => .bad 400 (at_ + j)
    | .bad j => .bad 400 (at_ + j)
    | .ok x rest => match l.size x out.length with
      | .inl st => .bad st (at_ + x.length + 1)
      | .inr n => if n = 0 then trailR l out (k + 1) (at_ + x.length + 2) 0 0 rest else
        if rest.length < n then .opn else
        match rest.drop n with
        | [] => .opn
        | c :: r1 => if c ≠ 13 then .bad 400 (at_ + x.length + 2 + n) else match r1 with
          | [] => .opn
          | e :: r2 => if e ≠ 10 then .bad 400 (at_ + x.length + 2 + n + 1) else readR l k (at_ + x.length + 2 + n + 2) (out ++ rest.take n) r2

/-! ### they are the same -/
/-- What the decoder does from a complete line on; 'n' bytes were taken with it. -/
def DS.cont (l : Lim) (d : DS) (x : List UInt8) (n : Nat) (rest : List UInt8) : Res :=
  if d.stage = 0 then (match l.size x d.out.length with
    | .inl st => .bad st (n - 1)
    | .inr m => DS.run l { d with rd := ⟨[], x, false, false, 1⟩, taken := n, left := m, stage := if m = 0 then 3 else 1 } rest)
  else if x = [] then .ok d.out n
  else if d.fields + 1 > l.fields ∨ d.bytes + (x.length + 2) > l.head then .bad 431 (n - 1)
  else if l.field x = true then DS.run l { d with rd := ⟨[], x, false, false, 1⟩, taken := n, fields := d.fields + 1, bytes := d.bytes + (x.length + 2) } rest
  else .bad 400 (n - 1)
def DS.lnRes (l : Lim) (d : DS) (at_ : Nat) : Ln → Res
  | .opn => .opn
  | .bad j => .bad 400 (at_ + j)
  | .long j => .bad (if d.stage = 0 then 400 else 431) (at_ + j)
  | .ok x rest => d.cont l x (at_ + x.length + 2) rest
theorem line_run (l : Lim) : ∀ (s : List UInt8) (d : DS) (b ln : List UInt8) (o : Bool) (st at_ : Nat), d.state = 0 → (d.stage = 0 ∨ d.stage = 3) → d.rd = ⟨b, ln, false, o, st⟩ → (st = 0 ∨ st = 1) → d.taken = at_ + b.length →
    d.run l s = d.lnRes l at_ (lineR l.line b s)
  | [], d, b, ln, o, st, at_, _, _, _, _, _ => rfl
  | c :: r, d, b, ln, o, st, at_, h0, hs, hr, hst, ht => by
    have hn : ¬ (st = 2 ∨ st = 3) := by omega
    obtain ⟨stage, state, taken, rd, left, out, fields, bytes, err⟩ := d
    simp only at h0 hs hr ht
    subst h0 hr ht
    unfold lineR
    by_cases hc : c = 10
    · subst hc
      rcases hs with rfl | rfl <;> simp [DS.run, DS.put, DS.stp, Rd.put, hn, DS.lnRes]
    rw [if_neg hc]
    by_cases hc2 : c = 13
    · subst hc2
      rw [if_pos rfl]
      cases r with
      | nil => rcases hs with rfl | rfl <;> simp [DS.run, DS.put, DS.stp, Rd.put, hn, DS.lnRes]
      | cons e r =>
        by_cases he : e = 10
        · subst he
          rcases hs with rfl | rfl
          · simp only [if_pos, DS.lnRes, DS.cont]
            cases hsz : l.size b out.length with
            | inl x => simp [DS.run, DS.put, DS.stp, Rd.put, hn, hsz]
            | inr m => simp [DS.run, DS.put, DS.stp, Rd.put, hn, hsz]
          · simp only [if_pos, DS.lnRes, DS.cont]
            by_cases hb : b = []
            · subst hb
              simp [DS.run, DS.put, DS.stp, Rd.put, hn]
            · by_cases hov : fields + 1 > l.fields ∨ bytes + (b.length + 2) > l.head
              · simp [DS.run, DS.put, DS.stp, Rd.put, hn, hb, hov]
              · cases hf : l.field b with
                | true => simp [DS.run, DS.put, DS.stp, Rd.put, hn, hb, hov, hf]
                | false => simp [DS.run, DS.put, DS.stp, Rd.put, hn, hb, hov, hf]
        · rcases hs with rfl | rfl <;> simp [DS.run, DS.put, DS.stp, Rd.put, hn, DS.lnRes, he] <;> omega
    · rw [if_neg hc2]
      by_cases hl : b.length = l.line
      · rw [if_pos hl]
        rcases hs with rfl | rfl <;> simp [DS.run, DS.put, DS.stp, Rd.put, hn, hc, hc2, hl, DS.lnRes]
      · rw [if_neg hl]
        have ih := line_run l r ⟨stage, 0, at_ + b.length + 1, ⟨b ++ [c], ln, false, true, 0⟩, left, out, fields, bytes, err⟩ (b ++ [c]) ln true 0 at_ rfl hs rfl (.inl rfl) (by simp; omega)
        rcases hs with rfl | rfl <;> simp [DS.run, DS.put, DS.stp, Rd.put, hn, hc, hc2, hl] <;> exact ih
theorem data_run (l : Lim) : ∀ (n : Nat) (s : List UInt8) (taken : Nat) (rd : Rd) (out : List UInt8) (fields bytes : Nat) (err : Option (Nat × Nat)),
    DS.run l ⟨1, 0, taken, rd, ((n + 1 : Nat) : Int), out, fields, bytes, err⟩ s = if s.length < n + 1 then .opn else DS.run l ⟨2, 0, taken + n + 1, rd, 0, out ++ s.take (n + 1), fields, bytes, err⟩ (s.drop (n + 1))
  | n, [], taken, rd, out, fields, bytes, err => by simp [DS.run]
  | 0, c :: r, taken, rd, out, fields, bytes, err => by
    rw [if_neg (by simp)]
    simp [DS.run, DS.put, DS.stp]
  | n + 1, c :: r, taken, rd, out, fields, bytes, err => by
    have ih := data_run l n r (taken + 1) rd (out ++ [c]) fields bytes err
    have e : ((n + 1 + 1 : Nat) : Int) - 1 = ((n + 1 : Nat) : Int) := by omega
    have e2 : ¬ (((n + 1 : Nat) : Int) = 0) := by omega
    have hstep : DS.run l ⟨1, 0, taken, rd, ((n + 1 + 1 : Nat) : Int), out, fields, bytes, err⟩ (c :: r) = DS.run l ⟨1, 0, taken + 1, rd, ((n + 1 : Nat) : Int), out ++ [c], fields, bytes, err⟩ r := by
      simp only [DS.run, DS.put, DS.stp, e, if_neg e2]
      simp
    rw [hstep, ih]
    simp only [List.length_cons, List.take_succ_cons, List.drop_succ_cons, List.append_assoc, List.singleton_append]
    by_cases h : r.length < n + 1
    · rw [if_pos h, if_pos (by omega)]
    · rw [if_neg h, if_neg (by omega), show taken + 1 + n + 1 = taken + (n + 1) + 1 by omega]
theorem end_run (l : Lim) (s : List UInt8) (taken : Nat) (rd : Rd) (out : List UInt8) (fields bytes : Nat) (err : Option (Nat × Nat)) :
    DS.run l ⟨2, 0, taken, rd, 0, out, fields, bytes, err⟩ s = match s with
      | [] => .opn
      | c :: r1 => if c ≠ 13 then .bad 400 taken else match r1 with
        | [] => .opn
        | e :: r2 => if e ≠ 10 then .bad 400 (taken + 1) else DS.run l ⟨0, 0, taken + 2, rd, -2, out, fields, bytes, err⟩ r2 := by
  cases s with
  | nil => rfl
  | cons c r1 =>
    by_cases hc : c = 13
    · subst hc
      cases r1 with
      | nil => simp [DS.run, DS.put, DS.stp]
      | cons e r2 =>
        by_cases he : e = 10 <;> simp [DS.run, DS.put, DS.stp, he]
    · simp [DS.run, DS.put, DS.stp, hc]
theorem trail_run (l : Lim) : ∀ (k : Nat) (s : List UInt8) (at_ : Nat) (ln : List UInt8) (o : Bool) (left : Int) (out : List UInt8) (fields bytes : Nat) (err : Option (Nat × Nat)), s.length < k →
    DS.run l ⟨3, 0, at_, ⟨[], ln, false, o, 1⟩, left, out, fields, bytes, err⟩ s = trailR l out k at_ fields bytes s
  | 0, s, _, _, _, _, _, _, _, _, h => absurd h (Nat.not_lt_zero _)
  | k + 1, s, at_, ln, o, left, out, fields, bytes, err, hk => by
    rw [line_run l s _ [] ln o 1 at_ rfl (.inr rfl) rfl (.inr rfl) rfl, trailR]
    cases hl : lineR l.line [] s with
    | opn => rfl
    | bad j => rfl
    | long j => rfl
    | ok x rest =>
      have hlen := lineR_len hl
      simp only [DS.lnRes, DS.cont]
      rw [if_neg (by decide)]
      have ih := trail_run l k rest (at_ + x.length + 2) x false left out (fields + 1) (bytes + (x.length + 2)) err (by simp at hlen; omega)
      rw [ih]
      rfl
theorem read_run (l : Lim) : ∀ (k : Nat) (s : List UInt8) (at_ : Nat) (ln : List UInt8) (o : Bool) (left : Int) (out : List UInt8) (err : Option (Nat × Nat)), s.length < k →
    DS.run l ⟨0, 0, at_, ⟨[], ln, false, o, 1⟩, left, out, 0, 0, err⟩ s = readR l k at_ out s
  | 0, s, _, _, _, _, _, _, h => absurd h (Nat.not_lt_zero _)
  | k + 1, s, at_, ln, o, left, out, err, hk => by
    rw [line_run l s _ [] ln o 1 at_ rfl (.inl rfl) rfl (.inr rfl) rfl, readR]
    cases hl : lineR l.line [] s with
    | opn => rfl
    | bad j => rfl
    | long j => rfl
    | ok x rest =>
      have hlen := lineR_len hl
      simp only [DS.lnRes, DS.cont]
      rw [if_pos trivial]
      cases hsz : l.size x out.length with
      | inl st => rfl
      | inr n =>
        simp only
        by_cases hn : n = 0
        · subst hn
          rw [if_pos rfl, if_pos rfl]
          exact trail_run l (k + 1) rest _ x false _ out 0 0 err (by simp at hlen; omega)
        · rw [if_neg hn, if_neg hn]
          obtain ⟨m, rfl⟩ : ∃ m, n = m + 1 := ⟨n - 1, by omega⟩
          rw [data_run]
          by_cases hr : rest.length < m + 1
          · rw [if_pos hr, if_pos hr]
          · rw [if_neg hr, if_neg hr, end_run]
            have hdl : (rest.drop (m + 1)).length ≤ rest.length := by simp
            cases hd : rest.drop (m + 1) with
            | nil => rfl
            | cons c r1 =>
              rw [hd] at hdl
              simp only
              by_cases hc : c ≠ 13
              · rw [if_pos hc, if_pos hc]; rfl
              · rw [if_neg hc, if_neg hc]
                cases r1 with
                | nil => rfl
                | cons e r2 =>
                  simp only
                  by_cases he : e ≠ 10
                  · rw [if_pos he, if_pos he]; rfl
                  · rw [if_neg he, if_neg he]
                    exact read_run l k r2 _ x false _ _ err (by simp at hlen hdl; omega)

/-! ### after each byte -/
def DS.all (l : Lim) : DS → List UInt8 → DS
  | d, [] => d
  | d, c :: r => DS.all l (d.put l c) r
theorem all_stuck (l : Lim) {d : DS} (h : d.state ≠ 0) : ∀ s, d.all l s = d
  | [] => rfl
  | c :: r => by
    have : d.put l c = d := by unfold DS.put; rw [if_pos h]
    rw [DS.all, this, all_stuck l h r]
theorem put_taken (l : Lim) (d : DS) (c : UInt8) (h : d.state = 0) : (d.put l c).taken = d.taken + 1 := by
  unfold DS.put
  rw [if_neg (by omega)]
  split <;> rfl
theorem stp_state (l : Lim) (d : DS) (c : UInt8) (h : d.state = 0) : ((d.stp l c).1.state = 0 ∨ (d.stp l c).1.state = 1 ∧ (d.stp l c).2 = none) ∧ (d.stp l c).1.err = d.err := by
  unfold DS.stp
  simp only
  split
  · repeat' split
    all_goals exact ⟨.inl h, rfl⟩
  · exact ⟨.inl h, rfl⟩
  · repeat' split
    all_goals exact ⟨.inl h, rfl⟩
  · repeat' split
    all_goals first
      | exact ⟨.inl h, rfl⟩
      | exact ⟨.inr ⟨rfl, rfl⟩, rfl⟩
theorem put_cases (l : Lim) (d : DS) (c : UInt8) (h : d.state = 0) : ((d.put l c).state = 0 ∧ (d.put l c).err = d.err) ∨ ((d.put l c).state = 1 ∧ (d.put l c).err = d.err) ∨ ((d.put l c).state = 2 ∧ ∃ st, (d.put l c).err = some (st, d.taken)) := by
  have hs := stp_state l d c h
  unfold DS.put
  rw [if_neg (by omega)]
  cases hq : d.stp l c with
  | mk d' e =>
    rw [hq] at hs
    cases e with
    | none =>
      rcases hs with ⟨h1 | ⟨h1, _⟩, h2⟩
      · exact .inl ⟨h1, h2⟩
      · exact .inr (.inl ⟨h1, h2⟩)
    | some st => exact .inr (.inr ⟨rfl, st, rfl⟩)
/-- What holds after some bytes, by what reading leads to. -/
def okAt (x : Res) (t n : Nat) (d : DS) : Prop := match x with
  | .opn => d.state = 0 ∧ d.err = none
  | .bad st a => (t + n ≤ a → d.state = 0 ∧ d.err = none) ∧ (a < t + n → d.state = 2 ∧ d.err = some (st, a))
  | .ok data m => (t + n < m → d.state = 0 ∧ d.err = none) ∧ (m ≤ t + n → d.state = 1 ∧ d.out = data ∧ d.err = none)
theorem run_low (l : Lim) : ∀ (s : List UInt8) (d : DS), d.state = 0 → (∀ st a, d.run l s = .bad st a → d.taken ≤ a) ∧ (∀ x n, d.run l s = .ok x n → d.taken < n)
  | [], d, _ => ⟨fun _ _ h => (nomatch h), fun _ _ h => (nomatch h)⟩
  | c :: r, d, h => by
    have ht := put_taken l d c h
    unfold DS.run
    rcases put_cases l d c h with ⟨h1, _⟩ | ⟨h1, _⟩ | ⟨h1, st, h2⟩
    · rw [h1]
      have ih := run_low l r (d.put l c) h1
      exact ⟨fun st a e => (by have := ih.1 st a e; omega), fun x n e => (by have := ih.2 x n e; omega)⟩
    · rw [h1]
      exact ⟨fun st a e => (by cases e), fun x n e => (by cases e; omega)⟩
    · rw [h1, h2]
      exact ⟨fun st a e => (by cases e; exact Nat.le_refl _), fun x n e => (by cases e)⟩
theorem steps_ok (l : Lim) : ∀ (s : List UInt8) (d : DS), d.state = 0 → d.err = none → ∀ i, i ≤ s.length → okAt (d.run l s) d.taken i (d.all l (s.take i))
  | s, d, h, he, 0, _ => by
    have hl := run_low l s d h
    rw [List.take_zero]
    unfold okAt DS.all
    cases hr : d.run l s with
    | opn => exact ⟨h, he⟩
    | bad st a => have := hl.1 st a hr; exact ⟨fun _ => ⟨h, he⟩, fun h2 => by omega⟩
    | ok x n => have := hl.2 x n hr; exact ⟨fun _ => ⟨h, he⟩, fun h2 => by omega⟩
  | [], d, h, he, i + 1, hi => by simp at hi
  | c :: r, d, h, he, i + 1, hi => by
    have ht := put_taken l d c h
    rw [List.take_succ_cons, DS.all, DS.run]
    rcases put_cases l d c h with ⟨h1, h2⟩ | ⟨h1, h2⟩ | ⟨h1, st, h2⟩
    · have ih := steps_ok l r (d.put l c) h1 (by rw [h2, he]) i (by simpa using hi)
      rw [h1]
      rw [ht] at ih
      have e : d.taken + 1 + i = d.taken + (i + 1) := by omega
      unfold okAt at ih ⊢
      simp only [e] at ih
      exact ih
    · rw [h1, all_stuck l (by omega)]
      unfold okAt
      simp only
      exact ⟨fun h3 => by omega, fun _ => ⟨h1, trivial, by rw [h2, he]⟩⟩
    · rw [h1, h2, all_stuck l (by omega)]
      unfold okAt
      simp only
      exact ⟨fun h3 => by omega, fun _ => ⟨h1, h2⟩⟩
end Go.Eng.S
