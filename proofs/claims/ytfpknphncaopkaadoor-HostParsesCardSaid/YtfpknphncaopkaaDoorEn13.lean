/- Every operation of the loaded code does what its translation says. No condition. -/
import Derived.Test.YtfpknphncaopkaaDoorEn12
namespace Go.Eng
open Go

theorem some_pair {α : Type} {o : Option α} {H H' : Heap} {f : α → AV} {v : AV} (h : o.map (fun x => (f x, H)) = some (v, H')) : ∃ x, o = some x ∧ f x = v ∧ H = H' := by
  cases o with
  | none => cases h
  | some x => simp at h; exact ⟨x, rfl, h.1, h.2⟩

theorem some_pair' {o : Option AV} {H H' : Heap} {v : AV} (h : o.map (·, H) = some (v, H')) : o = some v ∧ H = H' := by
  cases o with
  | none => cases h
  | some x => simp at h; exact ⟨by rw [h.1], h.2⟩

section
variable {P : Program} {T : Tab} (hT : TabOK P T) {c : Cx} (hc : OK T c) {a : Act} {e : Env} (he : EnvR c e a.tmps) {cf : CF} (hcf : CFok P T cf)

theorem parts_ok {fs : List (Nat × Operand)} {g : Nat × Operand → Option (Nat × Nat × Opd)} {ps : List (Nat × Nat × Opd)} {place : Nat → Option (Nat × Nat)} {T : Tab} {c : Cx} (hc : OK T c) {a : Act} {e : Env} (he : EnvR c e a.tmps)
    (hg : ∀ p q, g p = some q → place p.1 = some (q.1, q.2.1) ∧ trOpd p.2 = some q.2.2) (h : mapOpt g fs = some ps) :
    (ps.map fun p => (p.1, p.2.1, ev T e p.2.2)).length = (fs.map fun p => (p.1, a.eval p.2)).length ∧
    ∀ (k : Nat) (p : Nat × Nat × AV) (q : Nat × Value), (ps.map fun p => (p.1, p.2.1, ev T e p.2.2))[k]? = some p → (fs.map fun p => (p.1, a.eval p.2))[k]? = some q → place q.1 = some (p.1, p.2.1) ∧ VR c p.2.2 q.2 := by
  obtain ⟨h1, h2⟩ := mapOpt_len h
  refine ⟨by simp [h1], fun k p q hp hq => ?_⟩
  rw [List.getElem?_map] at hp hq
  cases hx : fs[k]? with
  | none => rw [hx] at hq; cases hq
  | some x =>
    obtain ⟨b, hb, hgb⟩ := h2 k x hx
    rw [hx] at hq; rw [hb] at hp
    cases hq; cases hp
    obtain ⟨g1, g2⟩ := hg _ _ hgb
    exact ⟨g1, opd_ok hc he g2⟩

include hc he in
theorem op_mem {o : Oper} {ao : AOp} (htr : trOp P o.op = some ao) (hop : match o.op with
    | .move _ | .assign _ | .pick .. | .alloc _ | .box .. | .load .. | .store .. | .nilCheck _ | .unOp .. | .makeInterface .. | .makeFunc .. | .extract .. | .fieldAddr .. | .field .. | .indexAddr .. | .index .. => True
    | _ => False) (hT : TabOK P T) {v : AV} {H' : Heap} (h : aop T cf ao e c.A = some (v, H')) : Does P ((execOp a.eval o).run P c.w) c v H' := by
  obtain ⟨dst, op, ty, pos, after, guard⟩ := o
  simp only at htr hop
  cases op <;> simp only at hop <;> simp only [trOp] at htr <;> simp only [execOp]
  case move x =>
    cases hx : trOpd x with
    | none => rw [hx] at htr; cases htr
    | some x' => rw [hx] at htr; cases htr; cases h; exact Does.same hc.wr rfl (opd_ok hc he hx)
  case assign x =>
    cases hx : trOpd x with
    | none => rw [hx] at htr; cases htr
    | some x' => rw [hx] at htr; cases htr; cases h; exact Does.same hc.wr rfl (opd_ok hc he hx)
  case pick k x y =>
    split at htr
    · rename_i k' x' y' hk hx hy
      cases htr
      simp only [aop] at h
      split at h
      · rename_i t ht
        cases h
        have hb := opd_ok hc he hk
        rw [ht] at hb
        generalize hz : a.eval k = z at hb
        cases hb
        cases t with
        | true => exact Does.same hc.wr (y := a.eval x) (by simp [asBool]) (opd_ok hc he hx)
        | false => exact Does.same hc.wr (y := a.eval y) (by simp [asBool]) (opd_ok hc he hy)
      · cases h
    · cases htr
  case alloc t =>
    cases hz : zeroO P t with
    | none => rw [hz] at htr; cases htr
    | some z => rw [hz] at htr; cases htr; cases h; exact (alloc_ok hc hz).does
  case box t x =>
    cases hx : trOpd x with
    | none => rw [hx] at htr; cases htr
    | some x' =>
      rw [hx] at htr; cases htr
      simp only [aop] at h
      cases hb : (ev T e x').cells.all AV.isCell with
      | false => rw [hb] at h; cases h
      | true => rw [hb] at h; cases h; exact (box_ok hc (opd_ok hc he hx) hb).does
  case load t x =>
    split at htr
    · rename_i n x' hn hx
      cases htr
      have hv := opd_ok hc he hx
      cases n with
      | none =>
        simp only [aop] at h
        split at h
        · rename_i i off g hev
          rw [hev] at hv
          split at h
          · rename_i u hu; cases h; exact (load_one_ok hc hn hv hu).does
          · cases h
        · rename_i u r hev
          rw [hev] at hv
          cases h
          exact (load_one_ok hc hn hv (by simp [behind])).does
        · cases h
      | some n =>
        simp only [aop] at h
        split at h
        · rename_i i off g hev
          rw [hev] at hv
          split at h
          · rename_i cs hcs; cases h; exact (load_agg_ok hc hn hv hcs).does
          · cases h
        · rename_i cs hev
          rw [hev] at hv
          split at h
          · rename_i hle; cases h; exact (load_agg_ok hc hn hv (by simp [behind, hle])).does
          · cases h
        · cases h
    · cases htr
  case store t x y =>
    split at htr
    · rename_i n x' y' hn hx hy
      cases htr
      simp only [aop] at h
      split at h
      · rename_i i off g hev
        have hv := opd_ok hc he hx
        rw [hev] at hv
        split at h
        · rename_i hcond
          split at h
          · rename_i H1 hH
            cases h
            exact (store_ok hc hn hv (opd_ok hc he hy) hcond.1 hcond.2 hH).does
          · cases h
        · cases h
      · cases h
    · cases htr
  case nilCheck x =>
    cases hx : trOpd x with
    | none => rw [hx] at htr; cases htr
    | some x' =>
      rw [hx] at htr; cases htr
      have hv := opd_ok hc he hx
      simp only [aop] at h
      split at h <;> first | (cases h; done) | skip
      all_goals (rename_i hev; rw [hev] at hv; generalize a.eval x = y at hv)
      · cases h
        cases hv with
        | ptr _ _ _ o ad h1 h2 h3 => exact Does.same hc.wr rfl (.ptr _ _ _ o ad h1 h2 h3)
      · cases h
        cases hv with
        | ep _ vs b o hl hr hp hcc => exact Does.same hc.wr rfl (.ep _ vs b o hl hr hp hcc)
      · cases h
        cases hv with
        | iface _ _ y hh => exact Does.same hc.wr rfl (.iface _ _ y hh)
      · split at h
        · rename_i f hf
          cases h
          cases hv with
          | fn f x y x' y' hx hx' hy hy' =>
            have hl : VRs c _ x'.toList := ⟨by simpa using hx, fun k a v h1 h2 => hx' k a v h1 (by simpa using h2)⟩
            obtain ⟨u, us, e1, hu, hus⟩ := hl.uncons
            have hxa : x' = (u :: us).toArray := by apply Array.ext'; simpa using e1
            cases hu with
            | iface t x y hh =>
              have hm := (hT.meth _ _ _ hf y c.w).2
              refine Does.same hc.wr (y := .func (.method _) x' y') ?_ (.fn _ _ _ _ _ hx hx' hy hy')
              subst hxa
              simp [hm]
        · cases h
      · cases h
        cases hv with
        | fn f x y x' y' hx hx' hy hy' => exact Does.same hc.wr rfl (.fn _ _ _ _ _ hx hx' hy hy')
  case unOp op t x =>
    cases hx : trOpd x with
    | none => rw [hx] at htr; cases htr
    | some x' =>
      rw [hx] at htr; cases htr
      have hv := opd_ok hc he hx
      simp only [aop] at h
      obtain ⟨h1, rfl⟩ := some_pair' h
      generalize ev T e x' = z at hv h1
      generalize a.eval x = y at hv
      unfold aun at h1
      split at h1
      · cases hv
        split at h1 <;> first
          | (cases h1; done)
          | (cases h1; exact Does.same hc.wr (by simp [Op.unary, Op.intArith, Op.intBits] <;> rfl) (.int _ _))
      · cases hv
        split at h1 <;> first
          | (cases h1; done)
          | (cases h1; exact Does.same hc.wr (by simp [Op.unary] <;> rfl) (.bool _))
      · cases h1
  case makeInterface t x =>
    split at htr
    · cases htr
    · rename_i d x' hni hd hx
      cases htr
      cases h
      have hr : (Instr.makeInterface t (a.eval x)).run P c.w = .ok (.iface t (a.eval x)) c.w := by
        simp only [Instr.makeInterface, Sem.run_bind, run_underlying hd, Result.andThen_ok]
        rfl
      exact (DoesV.same hc.wr hr (.iface _ _ _ (opd_ok hc he hx))).does
    · cases htr
  case makeFunc f x y =>
    split at htr
    · rename_i x' y' hx hy
      cases htr
      cases h
      have h1 := opds_ok hc he hx
      have h2 := opds_ok hc he hy
      exact (DoesV.same hc.wr (y := .func f (x.map a.eval) (y.map a.eval)) (by simp [Instr.makeFunc]) (.fn _ _ _ _ _ (by simpa using h1.len) (fun k b v hk hv => h1.rel k b v hk (by simpa using hv)) (by simpa using h2.len) (fun k b v hk hv => h2.rel k b v hk (by simpa using hv)))).does
    · cases htr
  case extract x k =>
    cases hx : trOpd x with
    | none => rw [hx] at htr; cases htr
    | some x' =>
      rw [hx] at htr; cases htr
      have hv := opd_ok hc he hx
      simp only [aop] at h
      split at h
      · rename_i xs hev
        rw [hev] at hv
        obtain ⟨ys, hy, hl⟩ := hv.tup_inv
        split at h
        · rename_i u hu
          cases h
          obtain ⟨z, h1, h2⟩ := VRs.find hl _ _ hu
          exact (DoesV.same hc.wr (y := z) (by simp [Instr.extract, hy, h1]) h2).does
        · cases h
      · cases h
  case fieldAddr s x k =>
    split at htr
    · rename_i fs x' hu hx
      split at htr
      · rename_i f hf
        split at htr
        · rename_i n hn
          cases htr
          have hv := opd_ok hc he hx
          have hfp : ∀ ad : Addr, (fieldPlace ad f).run P c.w = .ok (ad.add f.offset) c.w := fun ad => by simp [fieldPlace, run_size hn]
          simp only [aop] at h
          split at h
          · rename_i i off g hev
            cases h
            rw [hev] at hv
            generalize hz : a.eval x = z at hv
            cases hv with
            | ptr i off g o ad h1 h2 h3 =>
              refine (DoesV.same hc.wr (y := .pointer (some (ad.add f.offset))) (by simp [Instr.fieldAt, run_underlying hu, hf, Instr.sureAddr, hfp]) (.ptr _ _ _ o _ h1 h2 fun e1 => ?_)).does
              rw [h3 e1]; simp only [Cx.at]; rw [add_none]; simp
          · rename_i cs hev
            cases h
            rw [hev] at hv
            generalize hz : a.eval x = z at hv
            cases hv with
            | ep cells vs b o hl hr hp hcc =>
              have hd := VRs.drop ⟨hl, hr⟩ f.offset
              refine (DoesV.same hc.wr (y := .pointer (some ⟨b, o + f.offset, none⟩)) (by simp [Instr.fieldAt, run_underlying hu, hf, Instr.sureAddr, hfp, add_none]) (.ep _ (vs.drop f.offset) b _ hd.len hd.rel hp fun k v hk => ?_)).does
              rw [List.getElem?_drop] at hk
              rw [Nat.add_assoc]; exact hcc _ v hk
          · cases h
        · cases htr
      · cases htr
    · cases htr
  case field s x k =>
    split at htr
    · rename_i fs x' hu hx
      split at htr
      · rename_i f hf
        cases hag : aggO P f.type with
        | none => rw [hag] at htr; cases htr
        | some n =>
          rw [hag] at htr; cases htr
          have hv := opd_ok hc he hx
          simp only [aop] at h
          split at h
          · rename_i cs hev
            rw [hev] at hv
            obtain ⟨ys, hy, hl⟩ := hv.agg_inv
            obtain ⟨h1, rfl⟩ := some_pair' h
            obtain ⟨z, hz1, hz2⟩ := partA_ok (P := P) hag hl h1
            exact (DoesV.same hc.wr (y := z) (by simp [Instr.field, run_underlying hu, hf, hy, asAgg, hz1]) hz2).does
          · cases h
      · cases htr
    · cases htr
  case indexAddr t x i =>
    split at htr
    · rename_i x' i' hx hi
      have hvx := opd_ok hc he hx
      have hvi := opd_ok hc he hi
      split at htr
      · rename_i n el hu
        cases hs : sizeO P el with
        | none => rw [hs] at htr; cases htr
        | some s =>
          rw [hs] at htr; cases htr
          simp only [aop] at h
          split at h
          · rename_i j off g hev
            rw [hev] at hvx
            obtain ⟨k, hk, rfl, rfl⟩ := some_pair h
            obtain ⟨ik, z, hz, h0, h1, rfl⟩ := ix_ok hvi hk
            generalize hy : a.eval x = y at hvx
            cases hvx with
            | ptr _ _ _ o ad q1 q2 q3 =>
              refine (DoesV.same hc.wr (y := .pointer (some (ad.add (z.toNat * s)))) (by simp [Instr.indexAt, hz, asIntOf, run_underlying hu, Instr.sureAddr, h0, h1, run_size hs]) (.ptr _ _ _ o _ q1 q2 fun e1 => ?_)).does
              rw [q3 e1]; simp only [Cx.at]; rw [add_none]; simp
          · rename_i cs hev
            rw [hev] at hvx
            obtain ⟨k, hk, rfl, rfl⟩ := some_pair h
            obtain ⟨ik, z, hz, h0, h1, rfl⟩ := ix_ok hvi hk
            generalize hy : a.eval x = y at hvx
            cases hvx with
            | ep cells vs b o hl hr hp hcc =>
              have hd := VRs.drop ⟨hl, hr⟩ (z.toNat * s)
              refine (DoesV.same hc.wr (y := .pointer (some ⟨b, o + z.toNat * s, none⟩)) (by simp [Instr.indexAt, hz, asIntOf, run_underlying hu, Instr.sureAddr, h0, h1, run_size hs, add_none]) (.ep _ (vs.drop (z.toNat * s)) b _ hd.len hd.rel hp fun k v hk => ?_)).does
              rw [List.getElem?_drop] at hk
              rw [Nat.add_assoc]; exact hcc _ v hk
          · cases h
      · rename_i el hu
        split at htr
        · rename_i s0 hs
          cases htr
          obtain ⟨s, hs1⟩ : ∃ s, s = s0 + 1 := ⟨_, rfl⟩
          change sizeO P el = some (s0 + 1) at hs
          rw [← hs1] at h hs
          simp only [aop] at h
          split at h
          · rename_i full n s' cs hev
            rw [hev] at hvx
            split at h
            · rename_i hss
              subst hss
              obtain ⟨k, hk, rfl, rfl⟩ := some_pair h
              obtain ⟨ik, z, hz, h0, h1, rfl⟩ := ix_ok hvi hk
              generalize hy : a.eval x = y at hvx
              cases hvx with
              | sl full n e cells vs b o cap sp hsp hn hf0 hee hlen hr hp hcc =>
                have hd := VRs.drop ⟨hlen, hr⟩ (z.toNat * s)
                have hne : cs ≠ [] := by
                  rintro rfl
                  simp only [List.length_nil] at hee
                  rcases Nat.mul_eq_zero.1 hee.symm with h2 | h2 <;> omega
                obtain rfl := hsp hne
                · refine (DoesV.same hc.wr (y := .pointer (some ⟨b, o + z.toNat * s, none⟩)) (by simp [Instr.indexAt, hz, asIntOf, run_underlying hu, h0, h1, run_size hs, add_none]) (.ep _ (vs.drop (z.toNat * s)) b _ hd.len hd.rel (hp hne) fun k v hk => ?_)).does
                  rw [List.getElem?_drop] at hk
                  rw [Nat.add_assoc]; exact hcc _ v hk
            · cases h
          · rename_i j off n s' g hev
            rw [hev] at hvx
            split at h
            · rename_i hss
              subst hss
              obtain ⟨k, hk, rfl, rfl⟩ := some_pair h
              obtain ⟨ik, z, hz, h0, h1, rfl⟩ := ix_ok hvi hk
              generalize hy : a.eval x = y at hvx
              cases hvx with
              | ms i off n e g o ad cap q1 q2 hn hsp ha hroom =>
                refine (DoesV.same hc.wr (y := .pointer (some (ad.add (z.toNat * s)))) (by simp [Instr.indexAt, hz, asIntOf, run_underlying hu, h0, h1, run_size hs]) (.ptr _ _ _ o _ q1 q2 fun e1 => ?_)).does
                rw [ha e1 (by omega)]; simp only [Cx.at]; rw [add_none]; simp
            · cases h
          · cases h
        · cases htr
      · cases htr
    · cases htr
  case index t x i =>
    split at htr
    · rename_i x' i' hx hi
      have hvx := opd_ok hc he hx
      have hvi := opd_ok hc he hi
      split at htr
      · rename_i hu
        cases htr
        simp only [aop] at h
        split at h
        · rename_i s hev
          rw [hev] at hvx
          split at h
          · rename_i k hk
            split at h
            · rename_i b hb
              cases h
              obtain ⟨ik, z, hz, h0, h1, rfl⟩ := ix_ok hvi hk
              generalize hy : a.eval x = y at hvx
              cases hvx
              have hget : (ByteArray.mk s.toArray)[z.toNat]? = some b := by
                have hlt := (List.getElem?_eq_some_iff.1 hb).1
                have e1 : s[z.toNat] = b := (List.getElem?_eq_some_iff.1 hb).2
                rw [getElem?_pos _ _ (by rw [bytes_size]; exact hlt)]
                rw [← e1]; rfl
              exact (DoesV.same hc.wr (y := .int .u8 b.toNat) (by simp [Instr.index, hz, asIntOf, run_underlying hu, h0, hget]) (.int _ _)).does
            · cases h
          · cases h
        · cases h
      · rename_i n el hu
        split at htr
        · rename_i s ag hs hag
          cases htr
          simp only [aop] at h
          split at h
          · rename_i cs hev
            rw [hev] at hvx
            split at h
            · rename_i k hk
              obtain ⟨h1', rfl⟩ := some_pair' h
              obtain ⟨ik, z, hz, h0, h1, rfl⟩ := ix_ok hvi hk
              obtain ⟨ys, hy, hl⟩ := hvx.agg_inv
              obtain ⟨u, hu1, hu2⟩ := partA_ok (P := P) hag hl h1'
              exact (DoesV.same hc.wr (y := u) (by simp [Instr.index, hz, asIntOf, run_underlying hu, h0, h1, hy, run_size hs, hu1]) hu2).does
            · cases h
          · cases h
        · cases htr
      · cases htr
    · cases htr
end
end Go.Eng
