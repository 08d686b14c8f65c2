/- The tables of Ta are right for the loaded program. No condition. -/
import Derived.Test.YtdffpjbjpfolfaaGreatDoorTb
namespace Go.Eng.S
open Go Go.Eng Go.Extern Go.Proofs


theorem rok : ROK Tryz.prog R sizeT where
  mk0 t k h := by unfold R kindT at h; dsimp only at h; split at h <;> cases h <;> intro a w <;> kernel_rfl
  mkA t k h := by unfold R kindT at h; dsimp only at h; split at h <;> cases h <;> intro a w <;> kernel_rfl
  any0 t k h := by unfold R kindT at h; dsimp only at h; split at h <;> cases h <;> intro a w <;> kernel_rfl
  anyA t k h := by unfold R kindT at h; dsimp only at h; split at h <;> cases h <;> intro a w <;> kernel_rfl
  parts0 t k h := by unfold R kindT at h; dsimp only at h; split at h <;> cases h <;> intro a w <;> kernel_rfl
  partsA t k h := by unfold R kindT at h; dsimp only at h; split at h <;> cases h <;> intro a w <;> kernel_rfl
  toType t k h := by unfold R kindT at h; dsimp only at h; split at h <;> cases h <;> intro w <;> kernel_rfl
  kindM t k h := by unfold R kindT at h; dsimp only at h; split at h <;> cases h <;> intro w <;> kernel_rfl
  elemM t e h := by unfold R elemT at h; dsimp only at h; split at h <;> cases h <;> intro w <;> kernel_rfl
  elemQ t e h := by unfold R elemT at h; dsimp only at h; split at h <;> cases h <;> intro w <;> kernel_rfl
  aggP t h := by unfold R kindT at h; dsimp only at h; split at h <;> cases h <;> kernel_rfl
  implM t u b h := by unfold R rimplT at h; dsimp only at h; split at h <;> cases h <;> intro w <;> kernel_rfl
  asgM t u b h := by unfold R asgT at h; dsimp only at h; split at h <;> cases h <;> intro w <;> kernel_rfl
  lt t k h := by unfold R kindT at h; dsimp only at h; split at h <;> cases h <;> decide
  size t n h := by unfold sizeT at h; split at h <;> cases h <;> exact ⟨by kernel_rfl, by kernel_rfl⟩
theorem compM : ∀ t b, R.comp t = some b → ∀ w, (ReflectliteType.method (fun t => do Rtype.noPackHeld "Comparable" t; pure (.bool (← typeInfo t).comparable)) #[.agg #[R.hv t]]).run Tryz.prog w = .ok (.bool b) w := by
  intro t b h
  unfold R compT at h; dsimp only at h; split at h <;> cases h <;> intro w <;> kernel_rfl
theorem tab_ok2 : TabOK Tryz.prog T where
  meth t m f h v w := by
    unfold T methT at h
    dsimp only at h
    split at h <;> cases h <;> exact ⟨by kernel_rfl, by kernel_rfl⟩
  methAt t m f k h v w := by
    unfold T methT at h
    dsimp only at h
    split at h <;> cases h
    kernel_rfl
  via fv f h := by cases h
  eqt t q h := by
    unfold T eqtT at h
    dsimp only at h
    split at h <;> cases h <;> exact ⟨comp_of (by kernel_rfl), by kernel_rfl⟩
  impl t u b h := by
    unfold T implT at h
    dsimp only at h
    split at h <;> cases h <;> exact impl_of (by kernel_rfl)
theorem glob_ok : ∀ n cs, T.glob n = some cs → closedL cs = true := fun n cs h => by
  unfold T globT at h; dsimp only at h; split at h <;> cases h <;> rfl
theorem ent62 : Ent Tryz.prog 62 (fun args => ReflectliteValue.unpack (args.getD 0 (.tuple #[]))) := @run_callFunc_extern Tryz.prog 62 _ (fun args => ReflectliteValue.unpack (args.getD 0 (.tuple #[]))) Tryz.func62 (by kernel_rfl) (by kernel_rfl) (by kernel_rfl) (by kernel_rfl)
theorem pr62 : PrimOK Tryz.prog T 62 (pValueOf R) := @pValueOf_ok Tryz.prog T R sizeT 62 rok ent62
theorem ent63 : Ent Tryz.prog 63 (ReflectliteValue.methodAny (ReflectliteValue.valueError "reflectlite.Value.Type" 0) fun t _ _ _ => ReflectliteType.toType t) := @run_callFunc_extern Tryz.prog 63 _ (ReflectliteValue.methodAny (ReflectliteValue.valueError "reflectlite.Value.Type" 0) fun t _ _ _ => ReflectliteType.toType t) Tryz.func63 (by kernel_rfl) (by kernel_rfl) (by kernel_rfl) (by kernel_rfl)
theorem pr63 : PrimOK Tryz.prog T 63 (pType R) := @pType_ok Tryz.prog T R sizeT 63 rok ent63
theorem ent64 : Ent Tryz.prog 64 (ReflectliteValue.method (ReflectliteValue.valueError "reflectlite.Value.IsNil" 0) ReflectliteValue.isNil) := @run_callFunc_extern Tryz.prog 64 _ (ReflectliteValue.method (ReflectliteValue.valueError "reflectlite.Value.IsNil" 0) ReflectliteValue.isNil) Tryz.func64 (by kernel_rfl) (by kernel_rfl) (by kernel_rfl) (by kernel_rfl)
theorem pr64 : PrimOK Tryz.prog T 64 (pIsNil R) := @pIsNil_ok Tryz.prog T R sizeT 64 rok ent64
theorem ent72 : Ent Tryz.prog 72 (AbiNoEscape.same) := @run_callFunc_extern Tryz.prog 72 _ (AbiNoEscape.same) Tryz.func72 (by kernel_rfl) (by kernel_rfl) (by kernel_rfl) (by kernel_rfl)
theorem pr72 : PrimOK Tryz.prog T 72 (pSame) := @pSame_ok Tryz.prog T 72 ent72
theorem ent73 : Ent Tryz.prog 73 (BytealgMakeNoZero.makeNoZero #[3] #[73]) := @run_callFunc_extern Tryz.prog 73 _ (BytealgMakeNoZero.makeNoZero #[3] #[73]) Tryz.func73 (by kernel_rfl) (by kernel_rfl) (by kernel_rfl) (by kernel_rfl)
theorem pr73 : PrimOK Tryz.prog T 73 (pMkn 5) := @pMkn_ok Tryz.prog T 73 _ _ _ (by kernel_rfl) ent73
theorem ent76 : Ent Tryz.prog 76 (BytealgCount.count) := @run_callFunc_extern Tryz.prog 76 _ (BytealgCount.count) Tryz.func76 (by kernel_rfl) (by kernel_rfl) (by kernel_rfl) (by kernel_rfl)
theorem pr76 : PrimOK Tryz.prog T 76 (pCnt) := @pCnt_ok Tryz.prog T 76 ent76
theorem ent78 : Ent Tryz.prog 78 (ReflectliteType.typeOf) := @run_callFunc_extern Tryz.prog 78 _ (ReflectliteType.typeOf) Tryz.func78 (by kernel_rfl) (by kernel_rfl) (by kernel_rfl) (by kernel_rfl)
theorem pr78 : PrimOK Tryz.prog T 78 (pTypeOf R) := @pTypeOf_ok Tryz.prog T R sizeT 78 rok ent78
theorem ent79 : Ent Tryz.prog 79 (ReflectliteValue.method (ReflectliteValue.valueError "reflectlite.Value.Elem" 0) ReflectliteValue.elem) := @run_callFunc_extern Tryz.prog 79 _ (ReflectliteValue.method (ReflectliteValue.valueError "reflectlite.Value.Elem" 0) ReflectliteValue.elem) Tryz.func79 (by kernel_rfl) (by kernel_rfl) (by kernel_rfl) (by kernel_rfl)
theorem pr79 : PrimOK Tryz.prog T 79 (pElemV R) := @pElemV_ok Tryz.prog T R sizeT 79 rok ent79
theorem ent80 : Ent Tryz.prog 80 (ReflectliteValue.set) := @run_callFunc_extern Tryz.prog 80 _ (ReflectliteValue.set) Tryz.func80 (by kernel_rfl) (by kernel_rfl) (by kernel_rfl) (by kernel_rfl)
theorem pr80 : PrimOK Tryz.prog T 80 (pSet R sizeT) := @pSet_ok Tryz.prog T R sizeT 80 rok ent80
theorem ent91 : Ent Tryz.prog 91 (BytealgIndexByte.indexByte) := @run_callFunc_extern Tryz.prog 91 _ (BytealgIndexByte.indexByte) Tryz.func91 (by kernel_rfl) (by kernel_rfl) (by kernel_rfl) (by kernel_rfl)
theorem pr91 : PrimOK Tryz.prog T 91 (pIdx) := @pIdx_ok Tryz.prog T 91 ent91
theorem ent107 : Ent Tryz.prog 107 (ReflectliteType.abiMethod fun t => do pure (.int .u8 (← Rtype.kind t))) := @run_callFunc_extern Tryz.prog 107 _ (ReflectliteType.abiMethod fun t => do pure (.int .u8 (← Rtype.kind t))) Tryz.func107 (by kernel_rfl) (by kernel_rfl) (by kernel_rfl) (by kernel_rfl)
theorem pr107 : PrimOK Tryz.prog T 107 (pKind R) := @pKind_ok Tryz.prog T R sizeT 107 rok ent107
theorem ent118 : Ent Tryz.prog 118 (ReflectliteType.relation "AssignableTo" ReflectliteType.assignableTo) := @run_callFunc_extern Tryz.prog 118 _ (ReflectliteType.relation "AssignableTo" ReflectliteType.assignableTo) Tryz.func118 (by kernel_rfl) (by kernel_rfl) (by kernel_rfl) (by kernel_rfl)
theorem pr118 : PrimOK Tryz.prog T 118 (pAssignable R) := @pAssignable_ok Tryz.prog T R sizeT 118 rok ent118
theorem ent119 : Ent Tryz.prog 119 (ReflectliteType.method fun t => do Rtype.noPackHeld "Comparable" t; pure (.bool (← typeInfo t).comparable)) := @run_callFunc_extern Tryz.prog 119 _ (ReflectliteType.method fun t => do Rtype.noPackHeld "Comparable" t; pure (.bool (← typeInfo t).comparable)) Tryz.func119 (by kernel_rfl) (by kernel_rfl) (by kernel_rfl) (by kernel_rfl)
theorem pr119 : PrimOK Tryz.prog T 119 (pComparable R) := @pComp_ok Tryz.prog T 119 R compM ent119
theorem ent120 : Ent Tryz.prog 120 (ReflectliteType.method ReflectliteType.elem) := @run_callFunc_extern Tryz.prog 120 _ (ReflectliteType.method ReflectliteType.elem) Tryz.func120 (by kernel_rfl) (by kernel_rfl) (by kernel_rfl) (by kernel_rfl)
theorem pr120 : PrimOK Tryz.prog T 120 (pElem R) := @pElem_ok Tryz.prog T R sizeT 120 rok ent120
theorem ent121 : Ent Tryz.prog 121 (ReflectliteType.relation "Implements" ReflectliteType.implements_) := @run_callFunc_extern Tryz.prog 121 _ (ReflectliteType.relation "Implements" ReflectliteType.implements_) Tryz.func121 (by kernel_rfl) (by kernel_rfl) (by kernel_rfl) (by kernel_rfl)
theorem pr121 : PrimOK Tryz.prog T 121 (pImplements R) := @pImplements_ok Tryz.prog T R sizeT 121 rok ent121
set_option maxRecDepth 100000 in
theorem tab_ok : ∀ e ∈ tab, FOK Tryz.prog T e.1 e.2 :=
  List.forall_mem_cons.2 ⟨.code Tryz.func3 tr3 Tryz.call3,
  List.forall_mem_cons.2 ⟨.code Tryz.func4 tr4 Tryz.call4,
  List.forall_mem_cons.2 ⟨.code Tryz.func5 tr5 Tryz.call5,
  List.forall_mem_cons.2 ⟨.code Tryz.func6 tr6 Tryz.call6,
  List.forall_mem_cons.2 ⟨.code Tryz.func7 tr7 Tryz.call7,
  List.forall_mem_cons.2 ⟨.code Tryz.func8 tr8 Tryz.call8,
  List.forall_mem_cons.2 ⟨.code Tryz.func9 tr9 Tryz.call9,
  List.forall_mem_cons.2 ⟨.code Tryz.func10 tr10 Tryz.call10,
  List.forall_mem_cons.2 ⟨.code Tryz.func11 tr11 Tryz.call11,
  List.forall_mem_cons.2 ⟨.code Tryz.func12 tr12 Tryz.call12,
  List.forall_mem_cons.2 ⟨.code Tryz.func13 tr13 Tryz.call13,
  List.forall_mem_cons.2 ⟨.code Tryz.func14 tr14 Tryz.call14,
  List.forall_mem_cons.2 ⟨.code Tryz.func15 tr15 Tryz.call15,
  List.forall_mem_cons.2 ⟨.code Tryz.func16 tr16 Tryz.call16,
  List.forall_mem_cons.2 ⟨.code Tryz.func17 tr17 Tryz.call17,
  List.forall_mem_cons.2 ⟨.code Tryz.func18 tr18 Tryz.call18,
  List.forall_mem_cons.2 ⟨.code Tryz.func19 tr19 Tryz.call19,
  List.forall_mem_cons.2 ⟨.code Tryz.func20 tr20 Tryz.call20,
  List.forall_mem_cons.2 ⟨.code Tryz.func21 tr21 Tryz.call21,
  List.forall_mem_cons.2 ⟨.code Tryz.func22 tr22 Tryz.call22,
  List.forall_mem_cons.2 ⟨.code Tryz.func23 tr23 Tryz.call23,
  List.forall_mem_cons.2 ⟨.code Tryz.func24 tr24 Tryz.call24,
  List.forall_mem_cons.2 ⟨.code Tryz.func25 tr25 Tryz.call25,
  List.forall_mem_cons.2 ⟨.code Tryz.func26 tr26 Tryz.call26,
  List.forall_mem_cons.2 ⟨.code Tryz.func27 tr27 Tryz.call27,
  List.forall_mem_cons.2 ⟨.code Tryz.func28 tr28 Tryz.call28,
  List.forall_mem_cons.2 ⟨.code Tryz.func29 tr29 Tryz.call29,
  List.forall_mem_cons.2 ⟨.code Tryz.func30 tr30 Tryz.call30,
  List.forall_mem_cons.2 ⟨.code Tryz.func31 tr31 Tryz.call31,
  List.forall_mem_cons.2 ⟨.code Tryz.func32 tr32 Tryz.call32,
  List.forall_mem_cons.2 ⟨.code Tryz.func33 tr33 Tryz.call33,
  List.forall_mem_cons.2 ⟨.code Tryz.func34 tr34 Tryz.call34,
  List.forall_mem_cons.2 ⟨.code Tryz.func35 tr35 Tryz.call35,
  List.forall_mem_cons.2 ⟨.code Tryz.func36 tr36 Tryz.call36,
  List.forall_mem_cons.2 ⟨.code Tryz.func37 tr37 Tryz.call37,
  List.forall_mem_cons.2 ⟨.code Tryz.func38 tr38 Tryz.call38,
  List.forall_mem_cons.2 ⟨.code Tryz.func39 tr39 Tryz.call39,
  List.forall_mem_cons.2 ⟨.code Tryz.func40 tr40 Tryz.call40,
  List.forall_mem_cons.2 ⟨.code Tryz.func41 tr41 Tryz.call41,
  List.forall_mem_cons.2 ⟨.code Tryz.func42 tr42 Tryz.call42,
  List.forall_mem_cons.2 ⟨.code Tryz.func43 tr43 Tryz.call43,
  List.forall_mem_cons.2 ⟨.code Tryz.func44 tr44 Tryz.call44,
  List.forall_mem_cons.2 ⟨.code Tryz.func45 tr45 Tryz.call45,
  List.forall_mem_cons.2 ⟨.code Tryz.func46 tr46 Tryz.call46,
  List.forall_mem_cons.2 ⟨.code Tryz.func47 tr47 Tryz.call47,
  List.forall_mem_cons.2 ⟨.code Tryz.func48 tr48 Tryz.call48,
  List.forall_mem_cons.2 ⟨.code Tryz.func49 tr49 Tryz.call49,
  List.forall_mem_cons.2 ⟨.code Tryz.func50 tr50 Tryz.call50,
  List.forall_mem_cons.2 ⟨.code Tryz.func51 tr51 Tryz.call51,
  List.forall_mem_cons.2 ⟨.code Tryz.func52 tr52 Tryz.call52,
  List.forall_mem_cons.2 ⟨.code Tryz.func53 tr53 Tryz.call53,
  List.forall_mem_cons.2 ⟨.code Tryz.func54 tr54 Tryz.call54,
  List.forall_mem_cons.2 ⟨.code Tryz.func55 tr55 Tryz.call55,
  List.forall_mem_cons.2 ⟨.code Tryz.func56 tr56 Tryz.call56,
  List.forall_mem_cons.2 ⟨.code Tryz.func57 tr57 Tryz.call57,
  List.forall_mem_cons.2 ⟨.code Tryz.func58 tr58 Tryz.call58,
  List.forall_mem_cons.2 ⟨.code Tryz.func59 tr59 Tryz.call59,
  List.forall_mem_cons.2 ⟨.code Tryz.func60 tr60 Tryz.call60,
  List.forall_mem_cons.2 ⟨.code Tryz.func61 tr61 Tryz.call61,
  List.forall_mem_cons.2 ⟨.prim pr62,
  List.forall_mem_cons.2 ⟨.prim pr63,
  List.forall_mem_cons.2 ⟨.prim pr64,
  List.forall_mem_cons.2 ⟨.code Tryz.func65 tr65 Tryz.call65,
  List.forall_mem_cons.2 ⟨.code Tryz.func66 tr66 Tryz.call66,
  List.forall_mem_cons.2 ⟨.code Tryz.func67 tr67 Tryz.call67,
  List.forall_mem_cons.2 ⟨.code Tryz.func68 tr68 Tryz.call68,
  List.forall_mem_cons.2 ⟨.code Tryz.func69 tr69 Tryz.call69,
  List.forall_mem_cons.2 ⟨.code Tryz.func70 tr70 Tryz.call70,
  List.forall_mem_cons.2 ⟨.code Tryz.func71 tr71 Tryz.call71,
  List.forall_mem_cons.2 ⟨.prim pr72,
  List.forall_mem_cons.2 ⟨.prim pr73,
  List.forall_mem_cons.2 ⟨.code Tryz.func74 tr74 Tryz.call74,
  List.forall_mem_cons.2 ⟨.code Tryz.func75 tr75 Tryz.call75,
  List.forall_mem_cons.2 ⟨.prim pr76,
  List.forall_mem_cons.2 ⟨.code Tryz.func77 tr77 Tryz.call77,
  List.forall_mem_cons.2 ⟨.prim pr78,
  List.forall_mem_cons.2 ⟨.prim pr79,
  List.forall_mem_cons.2 ⟨.prim pr80,
  List.forall_mem_cons.2 ⟨.code Tryz.func81 tr81 Tryz.call81,
  List.forall_mem_cons.2 ⟨.code Tryz.func82 tr82 Tryz.call82,
  List.forall_mem_cons.2 ⟨.code Tryz.func83 tr83 Tryz.call83,
  List.forall_mem_cons.2 ⟨.code Tryz.func84 tr84 Tryz.call84,
  List.forall_mem_cons.2 ⟨.code Tryz.func85 tr85 Tryz.call85,
  List.forall_mem_cons.2 ⟨.code Tryz.func86 tr86 Tryz.call86,
  List.forall_mem_cons.2 ⟨.code Tryz.func88 tr88 Tryz.call88,
  List.forall_mem_cons.2 ⟨.code Tryz.func89 tr89 Tryz.call89,
  List.forall_mem_cons.2 ⟨.code Tryz.func90 tr90 Tryz.call90,
  List.forall_mem_cons.2 ⟨.prim pr91,
  List.forall_mem_cons.2 ⟨.code Tryz.func92 tr92 Tryz.call92,
  List.forall_mem_cons.2 ⟨.prim pr107,
  List.forall_mem_cons.2 ⟨.code Tryz.func113 tr113 Tryz.call113,
  List.forall_mem_cons.2 ⟨.prim pr118,
  List.forall_mem_cons.2 ⟨.prim pr119,
  List.forall_mem_cons.2 ⟨.prim pr120,
  List.forall_mem_cons.2 ⟨.prim pr121,
  fun _ h => nomatch h⟩⟩⟩⟩⟩⟩⟩⟩⟩⟩⟩⟩⟩⟩⟩⟩⟩⟩⟩⟩⟩⟩⟩⟩⟩⟩⟩⟩⟩⟩⟩⟩⟩⟩⟩⟩⟩⟩⟩⟩⟩⟩⟩⟩⟩⟩⟩⟩⟩⟩⟩⟩⟩⟩⟩⟩⟩⟩⟩⟩⟩⟩⟩⟩⟩⟩⟩⟩⟩⟩⟩⟩⟩⟩⟩⟩⟩⟩⟩⟩⟩⟩⟩⟩⟩⟩⟩⟩⟩⟩⟩⟩⟩⟩⟩
theorem fn_ok : FnOK Tryz.prog T := .of rfl tab_ok glob_ok
end Go.Eng.S
