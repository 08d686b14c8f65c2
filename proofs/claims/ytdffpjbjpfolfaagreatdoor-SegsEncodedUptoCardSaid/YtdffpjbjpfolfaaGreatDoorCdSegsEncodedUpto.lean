/- The second form's card of SegsEncoded out of its abstract answer. No condition. -/
import Derived.Test.YtdffpjbjpfolfaaGreatDoorTd
import Derived.Test.YtdffpjbjpfolfaaGreatDoorEg
import Derived.Test.YtdffpjbjpfolfaaGreatDoorTie
import Derived.Test.YtdffpjbjpfolfaaGreatDoorCards
import Derived.Test.YtdffpjbjpfolfaaGreatDoorIc
import Derived.Deep.DeepWitnessRowRef
namespace Go.Proofs.YtdffpjbjpfolfaaGreatDoor
open Go Go.Eng Go.Eng.S Go.ChangeShapes Go.WideShapes Go.ChangeAt Go.RowKit Go.ChangeMaps

section
variable {H : Type} {enc : TypeId × Value → H} {P : Program}
/-- A law's call, its answer known for what was read. -/
theorem law_callsU {T : Tab} (hT : TabOK P T) (hF : FnOK P T) (hl : laidOutB P = true) {f : FuncId} {fn : Func} {s : ChangeSpec} {tb : TypeId} (hcall : ∀ (args : Array Value) (w : World), (callFunc f args).run P w = .ok (.enter f args) w)
    (hpar : fn.params.toList.all (argT P) = true) (hres : fn.resultTypes = #[tb]) (htb : P.underlying tb = some .bool) (hvars : s.vars = [])
    (hfn : ∀ (ds : List (DataW H)), ds.length = fn.params.size → s.fn H ds = { results := [.lit (.bool true)], args := ds, vars := [] })
    {W : World} {base : Nat} {args : Array Value} {ds gs : List (DataW H)} {before : List MemPlace}
    (hlaw : ∀ xs, Shs P fn.params.toList xs → VRs (Cx.start W) xs args.toList → C T f xs [] = some (.bool true, []))
    (hval : ∀ (j : Nat) t v, fn.params[j]? = some t → args[j]? = some v → Value.okWide P W .any base t v) (hW : DataW.Whole enc P fn.params.toList s.vars false W args.toList ds gs before)
    (hg : ∀ n cs, T.glob n = some cs → VR (Cx.start W) (.ep cs) (.pointer (some ⟨n, 0, none⟩))) :
    Calls P f args W fun e W' => ∃ v, e = .returned v ∧ s.post enc P fn false true false false W args v W' := by
  have hWk := hW
  obtain ⟨p, q, hA, hV, rfl, _, _⟩ := hW
  rw [hvars] at hV
  have hgs : gs = [] ∧ q = [] := by
    cases gs with
    | nil => exact ⟨rfl, hV⟩
    | cons g gs => exact hV.elim
  obtain ⟨rfl, rfl⟩ := hgs
  obtain ⟨xs, hs, hv⟩ := args_sh hl hpar (fun j t v hj hv => hval j t v (by simpa using hj) (by simpa using hv)) hA
  have hrun := run_law hT hF hcall hg hv (hlaw xs hs hv)
  refine hrun.mono ?_
  rintro e W' ⟨y, c', rfl, rfl, hE, hy⟩
  cases hy
  have hfn' := hfn ds (by rw [trodAll_len hA]; simp)
  have hbl : ∀ b, b < W.heap.size → c'.w.heap[b]? = W.heap[b]? := fun b hb => start_same hE hb
  refine ⟨_, rfl, ds, [], p ++ [], [], p, [], hWk, ?_, ?_, ?_, start_kept hE _, fun h => by cases h⟩
  · rw [List.append_nil, hfn', hres]
    exact ⟨[], [], ⟨1, by simp [DataW.trod, htb, Value.cells]⟩, rfl, rfl⟩
  · rw [List.append_nil, hfn']
    exact trodAll_keep hl hbl hpar (fun x hx => hWk.lt x (by simpa using hx)) hA
  · rw [List.append_nil, hfn', hvars]
    rfl
end

theorem segsEncoded_laidOut : laidOutB Tryz.prog = true := by kernel_rfl
theorem arg9 {cells : List AV} (h : Sh Tryz.prog 9 cells) : ∃ s, argOf Tryz.prog 9 cells = .str s := by
  obtain ⟨s, rfl, _⟩ := h.str_inv Tryz.underlying9
  exact ⟨s, by unfold argOf; rw [Tryz.underlying9]; rfl⟩
theorem arg42 {cells : List AV} (h : Sh Tryz.prog 42 cells) : ∃ m : Nat, argOf Tryz.prog 42 cells = .int .u16 m ∧ m < 65536 := by
  obtain ⟨n, rfl, h1, h2⟩ := h.int_inv Tryz.underlying42
  have e1 : IntKind.u16.min = 0 := rfl
  have e2 : IntKind.u16.max = 65535 := rfl
  rw [e1] at h1
  rw [e2] at h2
  refine ⟨n.toNat, ?_, by omega⟩
  have e3 : ((n.toNat : Nat) : Int) = n := by omega
  unfold argOf
  rw [Tryz.underlying42, e3]
  rfl
theorem reads (os : Os) {H : Type} (enc : TypeId × Value → H) : ∃ places, DataW.whole enc Tryz.prog ((wit os).forCall (fun _ _ => 0) ⟨#[], #[.string ⟨#[]⟩, .int .u16 0], []⟩).memory Tryz.f5.params.toList Rows.segsEncodedSpec.vars false #[Value.string ⟨#[]⟩, .int .u16 0].toList 8 = some ([.lit (.string []), .lit (.int .u16 0)], [], places) :=
  ⟨[], by kernel_rfl⟩
set_option maxRecDepth 100000 in
theorem segsEncoded_liftedUpto (os : Os) (started : os.Started) (H : Type) (enc : TypeId × Value → H) (F : Stop.Interp) :
    ReturnsInHanded {} Tryz.checked os 5 .any ((Rows.OpenSpec.upto Rows.segsEncodedSpec).preRow enc Tryz.prog Tryz.f5 Rows.segsEncodedUptoRow.domain false Rows.segsEncodedUptoRow.laid) (((Rows.OpenSpec.upto Rows.segsEncodedSpec).at F).post enc Tryz.prog Tryz.f5 false true false false) := by
  obtain ⟨places, hx⟩ := reads os enc
  refine returnsInHanded_of_row (C := Tryz.checked) (s := Rows.OpenSpec.upto Rows.segsEncodedSpec) own started (by kernel_rfl) Tryz.func5
    (witness_row_atRef (enc := enc) (C := Tryz.checked) false (wit os) #[.string ⟨#[]⟩, .int .u16 0] (wit_os _) (by kernel_rfl) (by kernel_rfl) (by kernel_rfl)
      (OpenSpec.preRow_of_cond 8 hx (by kernel_rfl) (fun k hk => by cases hk; kernel_rfl) (by kernel_rfl) (door_met os _))) ?_
  intro W base args ds gs before hval hW _ hcond _ hL _ _
  refine law_callsU (fn := Tryz.f5) (s := Rows.segsEncodedSpec) tab_ok2 fn_ok segsEncoded_laidOut Tryz.call5 (by kernel_rfl) (by kernel_rfl) Tryz.underlying4 rfl
    (fun ds h => by
      match ds, h with
      | [d0, d1], _ => rfl) ?_ hval hW (laid_glob hL)
  intro xs hs hv
  have hb := of_decide_eq_true (hcond _ rfl)
  obtain ⟨p, q, hA, _, _, _, _⟩ := hW
  rw [Tryz.params5] at hA hval hs
  obtain ⟨v0, vs0, d0, ds0, p0, q0, ha0, rfl, rfl, h0, r0⟩ := trodAll_cons hA
  obtain ⟨str, rfl, rfl, rfl, _⟩ := open_string Tryz.underlying9 (hval 0 9 v0 rfl (by rw [← Array.getElem?_toList, ha0]; rfl)) h0
  obtain ⟨c0, r0', rfl, k0, hs⟩ := hs.cons_inv
  obtain ⟨c1, r1', rfl, k1, hs⟩ := hs.cons_inv
  obtain rfl := hs.nil_inv
  obtain ⟨l, e0⟩ := arg9 k0
  obtain ⟨m, e1, hm⟩ := arg42 k1
  rw [e0, e1] at hv ⊢
  have hvr := hv.rel 0 _ _ rfl (by rw [ha0]; rfl)
  simp only [List.cons_append, Rows.uptoBulkAll, Rows.uptoBulk] at hb
  have hll : l.length < 2000000 := by
    cases hvr
    simp at hb
    omega
  exact segsEncoded l hll m hm
theorem segsEncoded_upto : Rows.SegsEncodedUptoSaid :=
  OpenClaim.holds_of_cond 5 Tryz.f5 rfl rfl rfl rfl rfl rfl rfl ⟨rfl, rfl, rfl, rfl, rfl⟩ rfl rfl rfl rfl rfl (by kernel_rfl) Tryz.func5 (by kernel_rfl)
    (of_decide_eq_true (by kernel_rfl)) (by unfold Func.isWrapper; first | (rw [if_pos (by decide +kernel)]; kernel_rfl) | (rw [if_neg (by decide +kernel)]; exact ⟨rfl, rfl⟩))
    (fun os started H enc _ F => by rw [OpenClaim.pre_eq_preRow]; exact segsEncoded_liftedUpto os started H enc F)
theorem segsEncodedUpto_holds : Rows.SegsEncodedUptoCardSaid :=
  Claim7.holds_tied_plain_at .later [] [.data, .handle, .pinned] true (true, "ecd3885366b20ee93421940d730b4c6232161caf179f367eadfe531829851863") true
    segsEncoded_upto (fun _ h => by cases h) (by kernel_rfl) (fun _ h => by cases h) segsEncodedUpto_row_tie rfl ⟨rfl, rfl⟩ (by kernel_rfl) rfl
    (fun f fn hf hfn => by
      obtain rfl : f = 5 := Option.some.inj ((show Tryz.prog.funcNamed "doorkeeper/doorkeeperlaw16.SegsEncoded" = some 5 by kernel_rfl).symm.trans hf) |>.symm
      obtain rfl : fn = Tryz.f5 := (Option.some.inj (Tryz.func5.symm.trans hfn)).symm
      exact ⟨by kernel_rfl, fun j t ht => (List.forall_mem_cons.2 ⟨by kernel_rfl, List.forall_mem_cons.2 ⟨by kernel_rfl, fun _ h => nomatch h⟩⟩ : ∀ t ∈ [9, 42], Tryz.prog.wantsStandIn t = false) t (List.mem_of_getElem? (i := j) (by rw [Tryz.params5] at ht; simpa using ht))⟩)
    (by kernel_rfl)
#print axioms segsEncodedUpto_holds
end Go.Proofs.YtdffpjbjpfolfaaGreatDoor
