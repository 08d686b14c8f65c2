/- The tables of Ta are right for the loaded program. No condition. -/
import Derived.Test.YtfpknphncaopkaaDoorTb
namespace Go.Eng.S
open Go Go.Eng Go.Extern Go.Proofs


theorem rok : ROK Tryd.prog R sizeT where
  mk0 t k h := by unfold R kindT at h; dsimp only at h; split at h <;> cases h <;> intro a w <;> kernel_rfl
  mkA t k h := by unfold R kindT at h; dsimp only at h; split at h <;> cases h <;> intro a w <;> kernel_rfl
  any0 t k h := by unfold R kindT at h; dsimp only at h; split at h <;> cases h <;> intro a w <;> kernel_rfl
  anyA t k h := by unfold R kindT at h; dsimp only at h; split at h <;> cases h <;> intro a w <;> kernel_rfl
  parts0 t k h := by unfold R kindT at h; dsimp only at h; split at h <;> cases h <;> intro a w <;> kernel_rfl
  partsA t k h := by unfold R kindT at h; dsimp only at h; split at h <;> cases h <;> intro a w <;> kernel_rfl
  toType t k h := by unfold R kindT at h; dsimp only at h; split at h <;> cases h <;> intro w <;> kernel_rfl
  kindM t k h := by unfold R kindT at h; dsimp only at h; split at h <;> cases h <;> intro w <;> kernel_rfl
  elemM t e h := by unfold R elemT at h; dsimp only at h; split at h <;> cases h <;> intro w <;> kernel_rfl
  elemQ t e h := by unfold R elemT at h; dsimp only at h; split at h <;> cases h <;> intro w <;> kernel_rfl
  aggP t h := by unfold R kindT at h; dsimp only at h; split at h <;> cases h <;> kernel_rfl
  implM t u b h := by unfold R rimplT at h; dsimp only at h; split at h <;> cases h <;> intro w <;> kernel_rfl
  asgM t u b h := by unfold R asgT at h; dsimp only at h; split at h <;> cases h <;> intro w <;> kernel_rfl
  lt t k h := by unfold R kindT at h; dsimp only at h; split at h <;> cases h <;> decide
  size t n h := by unfold sizeT at h; split at h <;> cases h <;> exact ⟨by kernel_rfl, by kernel_rfl⟩
theorem tab_ok2 : TabOK Tryd.prog T where
  meth t m f h v w := by
    unfold T methT at h
    dsimp only at h
    split at h <;> cases h <;> exact ⟨by kernel_rfl, by kernel_rfl⟩
  methAt t m f k h v w := by
    unfold T methT at h
    dsimp only at h
    split at h <;> cases h
    kernel_rfl
  via fv f h := by cases h
  eqt t q h := by
    unfold T eqtT at h
    dsimp only at h
    split at h <;> cases h <;> exact ⟨comp_of (by kernel_rfl), by kernel_rfl⟩
  impl t u b h := by
    unfold T implT at h
    dsimp only at h
    split at h <;> cases h <;> exact impl_of (by kernel_rfl)
theorem glob_ok : ∀ n cs, T.glob n = some cs → closedL cs = true := fun n cs h => by
  unfold T globT at h; dsimp only at h; split at h <;> cases h <;> rfl
theorem ent53 : Ent Tryd.prog 53 (fun args => ReflectliteValue.unpack (args.getD 0 (.tuple #[]))) := @run_callFunc_extern Tryd.prog 53 _ (fun args => ReflectliteValue.unpack (args.getD 0 (.tuple #[]))) Tryd.func53 (by kernel_rfl) (by kernel_rfl) (by kernel_rfl) (by kernel_rfl)
theorem pr53 : PrimOK Tryd.prog T 53 (pValueOf R) := @pValueOf_ok Tryd.prog T R sizeT 53 rok ent53
theorem ent54 : Ent Tryd.prog 54 (ReflectliteValue.methodAny (ReflectliteValue.valueError "reflectlite.Value.Type" 0) fun t _ _ _ => ReflectliteType.toType t) := @run_callFunc_extern Tryd.prog 54 _ (ReflectliteValue.methodAny (ReflectliteValue.valueError "reflectlite.Value.Type" 0) fun t _ _ _ => ReflectliteType.toType t) Tryd.func54 (by kernel_rfl) (by kernel_rfl) (by kernel_rfl) (by kernel_rfl)
theorem pr54 : PrimOK Tryd.prog T 54 (pType R) := @pType_ok Tryd.prog T R sizeT 54 rok ent54
theorem ent55 : Ent Tryd.prog 55 (ReflectliteValue.method (ReflectliteValue.valueError "reflectlite.Value.IsNil" 0) ReflectliteValue.isNil) := @run_callFunc_extern Tryd.prog 55 _ (ReflectliteValue.method (ReflectliteValue.valueError "reflectlite.Value.IsNil" 0) ReflectliteValue.isNil) Tryd.func55 (by kernel_rfl) (by kernel_rfl) (by kernel_rfl) (by kernel_rfl)
theorem pr55 : PrimOK Tryd.prog T 55 (pIsNil R) := @pIsNil_ok Tryd.prog T R sizeT 55 rok ent55
theorem ent57 : Ent Tryd.prog 57 (ReflectliteType.typeOf) := @run_callFunc_extern Tryd.prog 57 _ (ReflectliteType.typeOf) Tryd.func57 (by kernel_rfl) (by kernel_rfl) (by kernel_rfl) (by kernel_rfl)
theorem pr57 : PrimOK Tryd.prog T 57 (pTypeOf R) := @pTypeOf_ok Tryd.prog T R sizeT 57 rok ent57
theorem ent58 : Ent Tryd.prog 58 (ReflectliteValue.method (ReflectliteValue.valueError "reflectlite.Value.Elem" 0) ReflectliteValue.elem) := @run_callFunc_extern Tryd.prog 58 _ (ReflectliteValue.method (ReflectliteValue.valueError "reflectlite.Value.Elem" 0) ReflectliteValue.elem) Tryd.func58 (by kernel_rfl) (by kernel_rfl) (by kernel_rfl) (by kernel_rfl)
theorem pr58 : PrimOK Tryd.prog T 58 (pElemV R) := @pElemV_ok Tryd.prog T R sizeT 58 rok ent58
theorem ent59 : Ent Tryd.prog 59 (ReflectliteValue.set) := @run_callFunc_extern Tryd.prog 59 _ (ReflectliteValue.set) Tryd.func59 (by kernel_rfl) (by kernel_rfl) (by kernel_rfl) (by kernel_rfl)
theorem pr59 : PrimOK Tryd.prog T 59 (pSet R sizeT) := @pSet_ok Tryd.prog T R sizeT 59 rok ent59
theorem ent74 : Ent Tryd.prog 74 (ReflectliteType.abiMethod fun t => do pure (.int .u8 (← Rtype.kind t))) := @run_callFunc_extern Tryd.prog 74 _ (ReflectliteType.abiMethod fun t => do pure (.int .u8 (← Rtype.kind t))) Tryd.func74 (by kernel_rfl) (by kernel_rfl) (by kernel_rfl) (by kernel_rfl)
theorem pr74 : PrimOK Tryd.prog T 74 (pKind R) := @pKind_ok Tryd.prog T R sizeT 74 rok ent74
theorem ent100 : Ent Tryd.prog 100 (ReflectliteType.relation "AssignableTo" ReflectliteType.assignableTo) := @run_callFunc_extern Tryd.prog 100 _ (ReflectliteType.relation "AssignableTo" ReflectliteType.assignableTo) Tryd.func100 (by kernel_rfl) (by kernel_rfl) (by kernel_rfl) (by kernel_rfl)
theorem pr100 : PrimOK Tryd.prog T 100 (pAssignable R) := @pAssignable_ok Tryd.prog T R sizeT 100 rok ent100
theorem ent102 : Ent Tryd.prog 102 (ReflectliteType.method ReflectliteType.elem) := @run_callFunc_extern Tryd.prog 102 _ (ReflectliteType.method ReflectliteType.elem) Tryd.func102 (by kernel_rfl) (by kernel_rfl) (by kernel_rfl) (by kernel_rfl)
theorem pr102 : PrimOK Tryd.prog T 102 (pElem R) := @pElem_ok Tryd.prog T R sizeT 102 rok ent102
theorem ent103 : Ent Tryd.prog 103 (ReflectliteType.relation "Implements" ReflectliteType.implements_) := @run_callFunc_extern Tryd.prog 103 _ (ReflectliteType.relation "Implements" ReflectliteType.implements_) Tryd.func103 (by kernel_rfl) (by kernel_rfl) (by kernel_rfl) (by kernel_rfl)
theorem pr103 : PrimOK Tryd.prog T 103 (pImplements R) := @pImplements_ok Tryd.prog T R sizeT 103 rok ent103
set_option maxRecDepth 100000 in
theorem tab_ok : ∀ e ∈ tab, FOK Tryd.prog T e.1 e.2 :=
  List.forall_mem_cons.2 ⟨.code Tryd.func3 tr3 Tryd.call3,
  List.forall_mem_cons.2 ⟨.code Tryd.func4 tr4 Tryd.call4,
  List.forall_mem_cons.2 ⟨.code Tryd.func5 tr5 Tryd.call5,
  List.forall_mem_cons.2 ⟨.code Tryd.func6 tr6 Tryd.call6,
  List.forall_mem_cons.2 ⟨.code Tryd.func8 tr8 Tryd.call8,
  List.forall_mem_cons.2 ⟨.code Tryd.func9 tr9 Tryd.call9,
  List.forall_mem_cons.2 ⟨.code Tryd.func10 tr10 Tryd.call10,
  List.forall_mem_cons.2 ⟨.code Tryd.func11 tr11 Tryd.call11,
  List.forall_mem_cons.2 ⟨.code Tryd.func12 tr12 Tryd.call12,
  List.forall_mem_cons.2 ⟨.code Tryd.func13 tr13 Tryd.call13,
  List.forall_mem_cons.2 ⟨.code Tryd.func14 tr14 Tryd.call14,
  List.forall_mem_cons.2 ⟨.code Tryd.func15 tr15 Tryd.call15,
  List.forall_mem_cons.2 ⟨.code Tryd.func16 tr16 Tryd.call16,
  List.forall_mem_cons.2 ⟨.code Tryd.func17 tr17 Tryd.call17,
  List.forall_mem_cons.2 ⟨.code Tryd.func18 tr18 Tryd.call18,
  List.forall_mem_cons.2 ⟨.code Tryd.func19 tr19 Tryd.call19,
  List.forall_mem_cons.2 ⟨.code Tryd.func23 tr23 Tryd.call23,
  List.forall_mem_cons.2 ⟨.code Tryd.func24 tr24 Tryd.call24,
  List.forall_mem_cons.2 ⟨.code Tryd.func25 tr25 Tryd.call25,
  List.forall_mem_cons.2 ⟨.code Tryd.func26 tr26 Tryd.call26,
  List.forall_mem_cons.2 ⟨.code Tryd.func27 tr27 Tryd.call27,
  List.forall_mem_cons.2 ⟨.code Tryd.func28 tr28 Tryd.call28,
  List.forall_mem_cons.2 ⟨.code Tryd.func29 tr29 Tryd.call29,
  List.forall_mem_cons.2 ⟨.code Tryd.func30 tr30 Tryd.call30,
  List.forall_mem_cons.2 ⟨.code Tryd.func31 tr31 Tryd.call31,
  List.forall_mem_cons.2 ⟨.code Tryd.func32 tr32 Tryd.call32,
  List.forall_mem_cons.2 ⟨.code Tryd.func33 tr33 Tryd.call33,
  List.forall_mem_cons.2 ⟨.code Tryd.func34 tr34 Tryd.call34,
  List.forall_mem_cons.2 ⟨.code Tryd.func35 tr35 Tryd.call35,
  List.forall_mem_cons.2 ⟨.code Tryd.func36 tr36 Tryd.call36,
  List.forall_mem_cons.2 ⟨.code Tryd.func37 tr37 Tryd.call37,
  List.forall_mem_cons.2 ⟨.code Tryd.func38 tr38 Tryd.call38,
  List.forall_mem_cons.2 ⟨.code Tryd.func39 tr39 Tryd.call39,
  List.forall_mem_cons.2 ⟨.code Tryd.func41 tr41 Tryd.call41,
  List.forall_mem_cons.2 ⟨.code Tryd.func42 tr42 Tryd.call42,
  List.forall_mem_cons.2 ⟨.code Tryd.func43 tr43 Tryd.call43,
  List.forall_mem_cons.2 ⟨.code Tryd.func44 tr44 Tryd.call44,
  List.forall_mem_cons.2 ⟨.code Tryd.func45 tr45 Tryd.call45,
  List.forall_mem_cons.2 ⟨.code Tryd.func46 tr46 Tryd.call46,
  List.forall_mem_cons.2 ⟨.code Tryd.func47 tr47 Tryd.call47,
  List.forall_mem_cons.2 ⟨.code Tryd.func48 tr48 Tryd.call48,
  List.forall_mem_cons.2 ⟨.code Tryd.func49 tr49 Tryd.call49,
  List.forall_mem_cons.2 ⟨.code Tryd.func50 tr50 Tryd.call50,
  List.forall_mem_cons.2 ⟨.code Tryd.func51 tr51 Tryd.call51,
  List.forall_mem_cons.2 ⟨.code Tryd.func52 tr52 Tryd.call52,
  List.forall_mem_cons.2 ⟨.prim pr53,
  List.forall_mem_cons.2 ⟨.prim pr54,
  List.forall_mem_cons.2 ⟨.prim pr55,
  List.forall_mem_cons.2 ⟨.code Tryd.func56 tr56 Tryd.call56,
  List.forall_mem_cons.2 ⟨.prim pr57,
  List.forall_mem_cons.2 ⟨.prim pr58,
  List.forall_mem_cons.2 ⟨.prim pr59,
  List.forall_mem_cons.2 ⟨.prim pr74,
  List.forall_mem_cons.2 ⟨.code Tryd.func93 tr93 Tryd.call93,
  List.forall_mem_cons.2 ⟨.code Tryd.func95 tr95 Tryd.call95,
  List.forall_mem_cons.2 ⟨.prim pr100,
  List.forall_mem_cons.2 ⟨.prim pr102,
  List.forall_mem_cons.2 ⟨.prim pr103,
  List.forall_mem_cons.2 ⟨.code Tryd.func111 tr111 Tryd.call111,
  List.forall_mem_cons.2 ⟨.code Tryd.func112 tr112 Tryd.call112,
  List.forall_mem_cons.2 ⟨.code Tryd.func113 tr113 Tryd.call113,
  List.forall_mem_cons.2 ⟨.code Tryd.func114 tr114 Tryd.call114,
  fun _ h => nomatch h⟩⟩⟩⟩⟩⟩⟩⟩⟩⟩⟩⟩⟩⟩⟩⟩⟩⟩⟩⟩⟩⟩⟩⟩⟩⟩⟩⟩⟩⟩⟩⟩⟩⟩⟩⟩⟩⟩⟩⟩⟩⟩⟩⟩⟩⟩⟩⟩⟩⟩⟩⟩⟩⟩⟩⟩⟩⟩⟩⟩⟩⟩
theorem fn_ok : FnOK Tryd.prog T := .of rfl tab_ok glob_ok
end Go.Eng.S
