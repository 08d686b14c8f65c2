/- The tables of Ta are right for the loaded program. No condition. -/
import Derived.Test.YtdffpjbjpfolfaaDoorTb
namespace Go.Eng.S
open Go Go.Eng Go.Extern Go.Proofs


theorem rok : ROK Tryd.prog R sizeT where
  mk0 t k h := by unfold R kindT at h; dsimp only at h; split at h <;> cases h <;> intro a w <;> kernel_rfl
  mkA t k h := by unfold R kindT at h; dsimp only at h; split at h <;> cases h <;> intro a w <;> kernel_rfl
  any0 t k h := by unfold R kindT at h; dsimp only at h; split at h <;> cases h <;> intro a w <;> kernel_rfl
  anyA t k h := by unfold R kindT at h; dsimp only at h; split at h <;> cases h <;> intro a w <;> kernel_rfl
  parts0 t k h := by unfold R kindT at h; dsimp only at h; split at h <;> cases h <;> intro a w <;> kernel_rfl
  partsA t k h := by unfold R kindT at h; dsimp only at h; split at h <;> cases h <;> intro a w <;> kernel_rfl
  toType t k h := by unfold R kindT at h; dsimp only at h; split at h <;> cases h <;> intro w <;> kernel_rfl
  kindM t k h := by unfold R kindT at h; dsimp only at h; split at h <;> cases h <;> intro w <;> kernel_rfl
  elemM t e h := by unfold R elemT at h; dsimp only at h; split at h <;> cases h <;> intro w <;> kernel_rfl
  elemQ t e h := by unfold R elemT at h; dsimp only at h; split at h <;> cases h <;> intro w <;> kernel_rfl
  aggP t h := by unfold R kindT at h; dsimp only at h; split at h <;> cases h <;> kernel_rfl
  implM t u b h := by unfold R rimplT at h; dsimp only at h; split at h <;> cases h <;> intro w <;> kernel_rfl
  asgM t u b h := by unfold R asgT at h; dsimp only at h; split at h <;> cases h <;> intro w <;> kernel_rfl
  lt t k h := by unfold R kindT at h; dsimp only at h; split at h <;> cases h <;> decide
  size t n h := by unfold sizeT at h; split at h <;> cases h <;> exact ⟨by kernel_rfl, by kernel_rfl⟩
theorem compM : ∀ t b, R.comp t = some b → ∀ w, (ReflectliteType.method (fun t => do Rtype.noPackHeld "Comparable" t; pure (.bool (← typeInfo t).comparable)) #[.agg #[R.hv t]]).run Tryd.prog w = .ok (.bool b) w := by
  intro t b h
  unfold R compT at h; dsimp only at h; split at h <;> cases h <;> intro w <;> kernel_rfl
theorem tab_ok2 : TabOK Tryd.prog T where
  meth t m f h v w := by
    unfold T methT at h
    dsimp only at h
    split at h <;> cases h <;> exact ⟨by kernel_rfl, by kernel_rfl⟩
  methAt t m f k h v w := by
    unfold T methT at h
    dsimp only at h
    split at h <;> cases h
    kernel_rfl
  via fv f h := by cases h
  eqt t q h := by
    unfold T eqtT at h
    dsimp only at h
    split at h <;> cases h <;> exact ⟨comp_of (by kernel_rfl), by kernel_rfl⟩
  impl t u b h := by
    unfold T implT at h
    dsimp only at h
    split at h <;> cases h <;> exact impl_of (by kernel_rfl)
theorem glob_ok : ∀ n cs, T.glob n = some cs → closedL cs = true := fun n cs h => by
  unfold T globT at h; dsimp only at h; split at h <;> cases h <;> rfl
theorem ent50 : Ent Tryd.prog 50 (fun args => ReflectliteValue.unpack (args.getD 0 (.tuple #[]))) := @run_callFunc_extern Tryd.prog 50 _ (fun args => ReflectliteValue.unpack (args.getD 0 (.tuple #[]))) Tryd.func50 (by kernel_rfl) (by kernel_rfl) (by kernel_rfl) (by kernel_rfl)
theorem pr50 : PrimOK Tryd.prog T 50 (pValueOf R) := @pValueOf_ok Tryd.prog T R sizeT 50 rok ent50
theorem ent51 : Ent Tryd.prog 51 (ReflectliteValue.methodAny (ReflectliteValue.valueError "reflectlite.Value.Type" 0) fun t _ _ _ => ReflectliteType.toType t) := @run_callFunc_extern Tryd.prog 51 _ (ReflectliteValue.methodAny (ReflectliteValue.valueError "reflectlite.Value.Type" 0) fun t _ _ _ => ReflectliteType.toType t) Tryd.func51 (by kernel_rfl) (by kernel_rfl) (by kernel_rfl) (by kernel_rfl)
theorem pr51 : PrimOK Tryd.prog T 51 (pType R) := @pType_ok Tryd.prog T R sizeT 51 rok ent51
theorem ent52 : Ent Tryd.prog 52 (ReflectliteValue.method (ReflectliteValue.valueError "reflectlite.Value.IsNil" 0) ReflectliteValue.isNil) := @run_callFunc_extern Tryd.prog 52 _ (ReflectliteValue.method (ReflectliteValue.valueError "reflectlite.Value.IsNil" 0) ReflectliteValue.isNil) Tryd.func52 (by kernel_rfl) (by kernel_rfl) (by kernel_rfl) (by kernel_rfl)
theorem pr52 : PrimOK Tryd.prog T 52 (pIsNil R) := @pIsNil_ok Tryd.prog T R sizeT 52 rok ent52
theorem ent63 : Ent Tryd.prog 63 (AbiNoEscape.same) := @run_callFunc_extern Tryd.prog 63 _ (AbiNoEscape.same) Tryd.func63 (by kernel_rfl) (by kernel_rfl) (by kernel_rfl) (by kernel_rfl)
theorem pr63 : PrimOK Tryd.prog T 63 (pSame) := @pSame_ok Tryd.prog T 63 ent63
theorem ent64 : Ent Tryd.prog 64 (BytealgMakeNoZero.makeNoZero #[3] #[62]) := @run_callFunc_extern Tryd.prog 64 _ (BytealgMakeNoZero.makeNoZero #[3] #[62]) Tryd.func64 (by kernel_rfl) (by kernel_rfl) (by kernel_rfl) (by kernel_rfl)
theorem pr64 : PrimOK Tryd.prog T 64 (pMkn 5) := @pMkn_ok Tryd.prog T 64 _ _ _ (by kernel_rfl) ent64
theorem ent65 : Ent Tryd.prog 65 (ReflectliteType.typeOf) := @run_callFunc_extern Tryd.prog 65 _ (ReflectliteType.typeOf) Tryd.func65 (by kernel_rfl) (by kernel_rfl) (by kernel_rfl) (by kernel_rfl)
theorem pr65 : PrimOK Tryd.prog T 65 (pTypeOf R) := @pTypeOf_ok Tryd.prog T R sizeT 65 rok ent65
theorem ent66 : Ent Tryd.prog 66 (ReflectliteValue.method (ReflectliteValue.valueError "reflectlite.Value.Elem" 0) ReflectliteValue.elem) := @run_callFunc_extern Tryd.prog 66 _ (ReflectliteValue.method (ReflectliteValue.valueError "reflectlite.Value.Elem" 0) ReflectliteValue.elem) Tryd.func66 (by kernel_rfl) (by kernel_rfl) (by kernel_rfl) (by kernel_rfl)
theorem pr66 : PrimOK Tryd.prog T 66 (pElemV R) := @pElemV_ok Tryd.prog T R sizeT 66 rok ent66
theorem ent67 : Ent Tryd.prog 67 (ReflectliteValue.set) := @run_callFunc_extern Tryd.prog 67 _ (ReflectliteValue.set) Tryd.func67 (by kernel_rfl) (by kernel_rfl) (by kernel_rfl) (by kernel_rfl)
theorem pr67 : PrimOK Tryd.prog T 67 (pSet R sizeT) := @pSet_ok Tryd.prog T R sizeT 67 rok ent67
theorem ent72 : Ent Tryd.prog 72 (BytealgCount.count) := @run_callFunc_extern Tryd.prog 72 _ (BytealgCount.count) Tryd.func72 (by kernel_rfl) (by kernel_rfl) (by kernel_rfl) (by kernel_rfl)
theorem pr72 : PrimOK Tryd.prog T 72 (pCnt) := @pCnt_ok Tryd.prog T 72 ent72
theorem ent82 : Ent Tryd.prog 82 (BytealgIndexByte.indexByte) := @run_callFunc_extern Tryd.prog 82 _ (BytealgIndexByte.indexByte) Tryd.func82 (by kernel_rfl) (by kernel_rfl) (by kernel_rfl) (by kernel_rfl)
theorem pr82 : PrimOK Tryd.prog T 82 (pIdx) := @pIdx_ok Tryd.prog T 82 ent82
theorem ent98 : Ent Tryd.prog 98 (ReflectliteType.abiMethod fun t => do pure (.int .u8 (← Rtype.kind t))) := @run_callFunc_extern Tryd.prog 98 _ (ReflectliteType.abiMethod fun t => do pure (.int .u8 (← Rtype.kind t))) Tryd.func98 (by kernel_rfl) (by kernel_rfl) (by kernel_rfl) (by kernel_rfl)
theorem pr98 : PrimOK Tryd.prog T 98 (pKind R) := @pKind_ok Tryd.prog T R sizeT 98 rok ent98
theorem ent109 : Ent Tryd.prog 109 (ReflectliteType.relation "AssignableTo" ReflectliteType.assignableTo) := @run_callFunc_extern Tryd.prog 109 _ (ReflectliteType.relation "AssignableTo" ReflectliteType.assignableTo) Tryd.func109 (by kernel_rfl) (by kernel_rfl) (by kernel_rfl) (by kernel_rfl)
theorem pr109 : PrimOK Tryd.prog T 109 (pAssignable R) := @pAssignable_ok Tryd.prog T R sizeT 109 rok ent109
theorem ent110 : Ent Tryd.prog 110 (ReflectliteType.method fun t => do Rtype.noPackHeld "Comparable" t; pure (.bool (← typeInfo t).comparable)) := @run_callFunc_extern Tryd.prog 110 _ (ReflectliteType.method fun t => do Rtype.noPackHeld "Comparable" t; pure (.bool (← typeInfo t).comparable)) Tryd.func110 (by kernel_rfl) (by kernel_rfl) (by kernel_rfl) (by kernel_rfl)
theorem pr110 : PrimOK Tryd.prog T 110 (pComparable R) := @pComp_ok Tryd.prog T 110 R compM ent110
theorem ent111 : Ent Tryd.prog 111 (ReflectliteType.method ReflectliteType.elem) := @run_callFunc_extern Tryd.prog 111 _ (ReflectliteType.method ReflectliteType.elem) Tryd.func111 (by kernel_rfl) (by kernel_rfl) (by kernel_rfl) (by kernel_rfl)
theorem pr111 : PrimOK Tryd.prog T 111 (pElem R) := @pElem_ok Tryd.prog T R sizeT 111 rok ent111
theorem ent112 : Ent Tryd.prog 112 (ReflectliteType.relation "Implements" ReflectliteType.implements_) := @run_callFunc_extern Tryd.prog 112 _ (ReflectliteType.relation "Implements" ReflectliteType.implements_) Tryd.func112 (by kernel_rfl) (by kernel_rfl) (by kernel_rfl) (by kernel_rfl)
theorem pr112 : PrimOK Tryd.prog T 112 (pImplements R) := @pImplements_ok Tryd.prog T R sizeT 112 rok ent112
set_option maxRecDepth 100000 in
theorem tab_ok : ∀ e ∈ tab, FOK Tryd.prog T e.1 e.2 :=
  List.forall_mem_cons.2 ⟨.code Tryd.func3 tr3 Tryd.call3,
  List.forall_mem_cons.2 ⟨.code Tryd.func4 tr4 Tryd.call4,
  List.forall_mem_cons.2 ⟨.code Tryd.func5 tr5 Tryd.call5,
  List.forall_mem_cons.2 ⟨.code Tryd.func6 tr6 Tryd.call6,
  List.forall_mem_cons.2 ⟨.code Tryd.func7 tr7 Tryd.call7,
  List.forall_mem_cons.2 ⟨.code Tryd.func8 tr8 Tryd.call8,
  List.forall_mem_cons.2 ⟨.code Tryd.func9 tr9 Tryd.call9,
  List.forall_mem_cons.2 ⟨.code Tryd.func10 tr10 Tryd.call10,
  List.forall_mem_cons.2 ⟨.code Tryd.func11 tr11 Tryd.call11,
  List.forall_mem_cons.2 ⟨.code Tryd.func12 tr12 Tryd.call12,
  List.forall_mem_cons.2 ⟨.code Tryd.func13 tr13 Tryd.call13,
  List.forall_mem_cons.2 ⟨.code Tryd.func14 tr14 Tryd.call14,
  List.forall_mem_cons.2 ⟨.code Tryd.func15 tr15 Tryd.call15,
  List.forall_mem_cons.2 ⟨.code Tryd.func16 tr16 Tryd.call16,
  List.forall_mem_cons.2 ⟨.code Tryd.func17 tr17 Tryd.call17,
  List.forall_mem_cons.2 ⟨.code Tryd.func18 tr18 Tryd.call18,
  List.forall_mem_cons.2 ⟨.code Tryd.func19 tr19 Tryd.call19,
  List.forall_mem_cons.2 ⟨.code Tryd.func20 tr20 Tryd.call20,
  List.forall_mem_cons.2 ⟨.code Tryd.func21 tr21 Tryd.call21,
  List.forall_mem_cons.2 ⟨.code Tryd.func22 tr22 Tryd.call22,
  List.forall_mem_cons.2 ⟨.code Tryd.func23 tr23 Tryd.call23,
  List.forall_mem_cons.2 ⟨.code Tryd.func24 tr24 Tryd.call24,
  List.forall_mem_cons.2 ⟨.code Tryd.func25 tr25 Tryd.call25,
  List.forall_mem_cons.2 ⟨.code Tryd.func26 tr26 Tryd.call26,
  List.forall_mem_cons.2 ⟨.code Tryd.func27 tr27 Tryd.call27,
  List.forall_mem_cons.2 ⟨.code Tryd.func28 tr28 Tryd.call28,
  List.forall_mem_cons.2 ⟨.code Tryd.func29 tr29 Tryd.call29,
  List.forall_mem_cons.2 ⟨.code Tryd.func30 tr30 Tryd.call30,
  List.forall_mem_cons.2 ⟨.code Tryd.func31 tr31 Tryd.call31,
  List.forall_mem_cons.2 ⟨.code Tryd.func32 tr32 Tryd.call32,
  List.forall_mem_cons.2 ⟨.code Tryd.func33 tr33 Tryd.call33,
  List.forall_mem_cons.2 ⟨.code Tryd.func34 tr34 Tryd.call34,
  List.forall_mem_cons.2 ⟨.code Tryd.func35 tr35 Tryd.call35,
  List.forall_mem_cons.2 ⟨.code Tryd.func36 tr36 Tryd.call36,
  List.forall_mem_cons.2 ⟨.code Tryd.func37 tr37 Tryd.call37,
  List.forall_mem_cons.2 ⟨.code Tryd.func38 tr38 Tryd.call38,
  List.forall_mem_cons.2 ⟨.code Tryd.func39 tr39 Tryd.call39,
  List.forall_mem_cons.2 ⟨.code Tryd.func40 tr40 Tryd.call40,
  List.forall_mem_cons.2 ⟨.code Tryd.func41 tr41 Tryd.call41,
  List.forall_mem_cons.2 ⟨.code Tryd.func42 tr42 Tryd.call42,
  List.forall_mem_cons.2 ⟨.code Tryd.func43 tr43 Tryd.call43,
  List.forall_mem_cons.2 ⟨.code Tryd.func44 tr44 Tryd.call44,
  List.forall_mem_cons.2 ⟨.code Tryd.func45 tr45 Tryd.call45,
  List.forall_mem_cons.2 ⟨.code Tryd.func46 tr46 Tryd.call46,
  List.forall_mem_cons.2 ⟨.code Tryd.func47 tr47 Tryd.call47,
  List.forall_mem_cons.2 ⟨.code Tryd.func48 tr48 Tryd.call48,
  List.forall_mem_cons.2 ⟨.code Tryd.func49 tr49 Tryd.call49,
  List.forall_mem_cons.2 ⟨.prim pr50,
  List.forall_mem_cons.2 ⟨.prim pr51,
  List.forall_mem_cons.2 ⟨.prim pr52,
  List.forall_mem_cons.2 ⟨.code Tryd.func53 tr53 Tryd.call53,
  List.forall_mem_cons.2 ⟨.code Tryd.func54 tr54 Tryd.call54,
  List.forall_mem_cons.2 ⟨.code Tryd.func55 tr55 Tryd.call55,
  List.forall_mem_cons.2 ⟨.code Tryd.func56 tr56 Tryd.call56,
  List.forall_mem_cons.2 ⟨.code Tryd.func57 tr57 Tryd.call57,
  List.forall_mem_cons.2 ⟨.code Tryd.func58 tr58 Tryd.call58,
  List.forall_mem_cons.2 ⟨.code Tryd.func59 tr59 Tryd.call59,
  List.forall_mem_cons.2 ⟨.code Tryd.func60 tr60 Tryd.call60,
  List.forall_mem_cons.2 ⟨.code Tryd.func61 tr61 Tryd.call61,
  List.forall_mem_cons.2 ⟨.code Tryd.func62 tr62 Tryd.call62,
  List.forall_mem_cons.2 ⟨.prim pr63,
  List.forall_mem_cons.2 ⟨.prim pr64,
  List.forall_mem_cons.2 ⟨.prim pr65,
  List.forall_mem_cons.2 ⟨.prim pr66,
  List.forall_mem_cons.2 ⟨.prim pr67,
  List.forall_mem_cons.2 ⟨.code Tryd.func68 tr68 Tryd.call68,
  List.forall_mem_cons.2 ⟨.code Tryd.func69 tr69 Tryd.call69,
  List.forall_mem_cons.2 ⟨.code Tryd.func70 tr70 Tryd.call70,
  List.forall_mem_cons.2 ⟨.code Tryd.func71 tr71 Tryd.call71,
  List.forall_mem_cons.2 ⟨.prim pr72,
  List.forall_mem_cons.2 ⟨.code Tryd.func73 tr73 Tryd.call73,
  List.forall_mem_cons.2 ⟨.code Tryd.func74 tr74 Tryd.call74,
  List.forall_mem_cons.2 ⟨.code Tryd.func75 tr75 Tryd.call75,
  List.forall_mem_cons.2 ⟨.code Tryd.func76 tr76 Tryd.call76,
  List.forall_mem_cons.2 ⟨.code Tryd.func77 tr77 Tryd.call77,
  List.forall_mem_cons.2 ⟨.code Tryd.func79 tr79 Tryd.call79,
  List.forall_mem_cons.2 ⟨.code Tryd.func80 tr80 Tryd.call80,
  List.forall_mem_cons.2 ⟨.code Tryd.func81 tr81 Tryd.call81,
  List.forall_mem_cons.2 ⟨.prim pr82,
  List.forall_mem_cons.2 ⟨.code Tryd.func83 tr83 Tryd.call83,
  List.forall_mem_cons.2 ⟨.prim pr98,
  List.forall_mem_cons.2 ⟨.code Tryd.func104 tr104 Tryd.call104,
  List.forall_mem_cons.2 ⟨.prim pr109,
  List.forall_mem_cons.2 ⟨.prim pr110,
  List.forall_mem_cons.2 ⟨.prim pr111,
  List.forall_mem_cons.2 ⟨.prim pr112,
  fun _ h => nomatch h⟩⟩⟩⟩⟩⟩⟩⟩⟩⟩⟩⟩⟩⟩⟩⟩⟩⟩⟩⟩⟩⟩⟩⟩⟩⟩⟩⟩⟩⟩⟩⟩⟩⟩⟩⟩⟩⟩⟩⟩⟩⟩⟩⟩⟩⟩⟩⟩⟩⟩⟩⟩⟩⟩⟩⟩⟩⟩⟩⟩⟩⟩⟩⟩⟩⟩⟩⟩⟩⟩⟩⟩⟩⟩⟩⟩⟩⟩⟩⟩⟩⟩⟩⟩⟩⟩
theorem fn_ok : FnOK Tryd.prog T := .of rfl tab_ok glob_ok
end Go.Eng.S
