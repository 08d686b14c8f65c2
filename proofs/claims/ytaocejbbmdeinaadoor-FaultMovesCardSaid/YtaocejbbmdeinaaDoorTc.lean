/- The tables of Ta are right for the loaded program. No condition. -/
import Derived.Test.YtaocejbbmdeinaaDoorTb
namespace Go.Eng.S
open Go Go.Eng Go.Extern Go.Proofs


theorem rok : ROK Tryd.prog R sizeT where
  mk0 t k h := by unfold R kindT at h; dsimp only at h; split at h <;> cases h <;> intro a w <;> kernel_rfl
  mkA t k h := by unfold R kindT at h; dsimp only at h; split at h <;> cases h <;> intro a w <;> kernel_rfl
  any0 t k h := by unfold R kindT at h; dsimp only at h; split at h <;> cases h <;> intro a w <;> kernel_rfl
  anyA t k h := by unfold R kindT at h; dsimp only at h; split at h <;> cases h <;> intro a w <;> kernel_rfl
  parts0 t k h := by unfold R kindT at h; dsimp only at h; split at h <;> cases h <;> intro a w <;> kernel_rfl
  partsA t k h := by unfold R kindT at h; dsimp only at h; split at h <;> cases h <;> intro a w <;> kernel_rfl
  toType t k h := by unfold R kindT at h; dsimp only at h; split at h <;> cases h <;> intro w <;> kernel_rfl
  kindM t k h := by unfold R kindT at h; dsimp only at h; split at h <;> cases h <;> intro w <;> kernel_rfl
  elemM t e h := by unfold R elemT at h; dsimp only at h; split at h <;> cases h <;> intro w <;> kernel_rfl
  elemQ t e h := by unfold R elemT at h; dsimp only at h; split at h <;> cases h <;> intro w <;> kernel_rfl
  aggP t h := by unfold R kindT at h; dsimp only at h; split at h <;> cases h <;> kernel_rfl
  implM t u b h := by unfold R rimplT at h; dsimp only at h; split at h <;> cases h <;> intro w <;> kernel_rfl
  asgM t u b h := by unfold R asgT at h; dsimp only at h; split at h <;> cases h <;> intro w <;> kernel_rfl
  lt t k h := by unfold R kindT at h; dsimp only at h; split at h <;> cases h <;> decide
  size t n h := by unfold sizeT at h; split at h <;> cases h <;> exact ⟨by kernel_rfl, by kernel_rfl⟩
theorem compM : ∀ t b, R.comp t = some b → ∀ w, (ReflectliteType.method (fun t => do Rtype.noPackHeld "Comparable" t; pure (.bool (← typeInfo t).comparable)) #[.agg #[R.hv t]]).run Tryd.prog w = .ok (.bool b) w := by
  intro t b h
  unfold R compT at h; dsimp only at h; split at h <;> cases h <;> intro w <;> kernel_rfl
theorem tab_ok2 : TabOK Tryd.prog T where
  meth t m f h v w := by
    unfold T methT at h
    dsimp only at h
    split at h <;> cases h <;> exact ⟨by kernel_rfl, by kernel_rfl⟩
  methAt t m f k h v w := by
    unfold T methT at h
    dsimp only at h
    split at h <;> cases h
    kernel_rfl
  via fv f h := by cases h
  eqt t q h := by
    unfold T eqtT at h
    dsimp only at h
    split at h <;> cases h <;> exact ⟨comp_of (by kernel_rfl), by kernel_rfl⟩
  impl t u b h := by
    unfold T implT at h
    dsimp only at h
    split at h <;> cases h <;> exact impl_of (by kernel_rfl)
theorem glob_ok : ∀ n cs, T.glob n = some cs → closedL cs = true := fun n cs h => by
  unfold T globT at h; dsimp only at h; split at h <;> cases h <;> rfl
theorem ent27 : Ent Tryd.prog 27 (ReflectliteType.typeOf) := @run_callFunc_extern Tryd.prog 27 _ (ReflectliteType.typeOf) Tryd.func27 (by kernel_rfl) (by kernel_rfl) (by kernel_rfl) (by kernel_rfl)
theorem pr27 : PrimOK Tryd.prog T 27 (pTypeOf R) := @pTypeOf_ok Tryd.prog T R sizeT 27 rok ent27
theorem ent32 : Ent Tryd.prog 32 (fun args => ReflectliteValue.unpack (args.getD 0 (.tuple #[]))) := @run_callFunc_extern Tryd.prog 32 _ (fun args => ReflectliteValue.unpack (args.getD 0 (.tuple #[]))) Tryd.func32 (by kernel_rfl) (by kernel_rfl) (by kernel_rfl) (by kernel_rfl)
theorem pr32 : PrimOK Tryd.prog T 32 (pValueOf R) := @pValueOf_ok Tryd.prog T R sizeT 32 rok ent32
theorem ent33 : Ent Tryd.prog 33 (ReflectliteValue.methodAny (ReflectliteValue.valueError "reflectlite.Value.Type" 0) fun t _ _ _ => ReflectliteType.toType t) := @run_callFunc_extern Tryd.prog 33 _ (ReflectliteValue.methodAny (ReflectliteValue.valueError "reflectlite.Value.Type" 0) fun t _ _ _ => ReflectliteType.toType t) Tryd.func33 (by kernel_rfl) (by kernel_rfl) (by kernel_rfl) (by kernel_rfl)
theorem pr33 : PrimOK Tryd.prog T 33 (pType R) := @pType_ok Tryd.prog T R sizeT 33 rok ent33
theorem ent34 : Ent Tryd.prog 34 (ReflectliteValue.method (ReflectliteValue.valueError "reflectlite.Value.IsNil" 0) ReflectliteValue.isNil) := @run_callFunc_extern Tryd.prog 34 _ (ReflectliteValue.method (ReflectliteValue.valueError "reflectlite.Value.IsNil" 0) ReflectliteValue.isNil) Tryd.func34 (by kernel_rfl) (by kernel_rfl) (by kernel_rfl) (by kernel_rfl)
theorem pr34 : PrimOK Tryd.prog T 34 (pIsNil R) := @pIsNil_ok Tryd.prog T R sizeT 34 rok ent34
theorem ent37 : Ent Tryd.prog 37 (ReflectliteValue.method (ReflectliteValue.valueError "reflectlite.Value.Elem" 0) ReflectliteValue.elem) := @run_callFunc_extern Tryd.prog 37 _ (ReflectliteValue.method (ReflectliteValue.valueError "reflectlite.Value.Elem" 0) ReflectliteValue.elem) Tryd.func37 (by kernel_rfl) (by kernel_rfl) (by kernel_rfl) (by kernel_rfl)
theorem pr37 : PrimOK Tryd.prog T 37 (pElemV R) := @pElemV_ok Tryd.prog T R sizeT 37 rok ent37
theorem ent38 : Ent Tryd.prog 38 (ReflectliteValue.set) := @run_callFunc_extern Tryd.prog 38 _ (ReflectliteValue.set) Tryd.func38 (by kernel_rfl) (by kernel_rfl) (by kernel_rfl) (by kernel_rfl)
theorem pr38 : PrimOK Tryd.prog T 38 (pSet R sizeT) := @pSet_ok Tryd.prog T R sizeT 38 rok ent38
theorem ent65 : Ent Tryd.prog 65 (ReflectliteType.abiMethod fun t => do pure (.int .u8 (← Rtype.kind t))) := @run_callFunc_extern Tryd.prog 65 _ (ReflectliteType.abiMethod fun t => do pure (.int .u8 (← Rtype.kind t))) Tryd.func65 (by kernel_rfl) (by kernel_rfl) (by kernel_rfl) (by kernel_rfl)
theorem pr65 : PrimOK Tryd.prog T 65 (pKind R) := @pKind_ok Tryd.prog T R sizeT 65 rok ent65
theorem ent77 : Ent Tryd.prog 77 (ReflectliteType.relation "AssignableTo" ReflectliteType.assignableTo) := @run_callFunc_extern Tryd.prog 77 _ (ReflectliteType.relation "AssignableTo" ReflectliteType.assignableTo) Tryd.func77 (by kernel_rfl) (by kernel_rfl) (by kernel_rfl) (by kernel_rfl)
theorem pr77 : PrimOK Tryd.prog T 77 (pAssignable R) := @pAssignable_ok Tryd.prog T R sizeT 77 rok ent77
theorem ent78 : Ent Tryd.prog 78 (ReflectliteType.method fun t => do Rtype.noPackHeld "Comparable" t; pure (.bool (← typeInfo t).comparable)) := @run_callFunc_extern Tryd.prog 78 _ (ReflectliteType.method fun t => do Rtype.noPackHeld "Comparable" t; pure (.bool (← typeInfo t).comparable)) Tryd.func78 (by kernel_rfl) (by kernel_rfl) (by kernel_rfl) (by kernel_rfl)
theorem pr78 : PrimOK Tryd.prog T 78 (pComparable R) := @pComp_ok Tryd.prog T 78 R compM ent78
theorem ent79 : Ent Tryd.prog 79 (ReflectliteType.method ReflectliteType.elem) := @run_callFunc_extern Tryd.prog 79 _ (ReflectliteType.method ReflectliteType.elem) Tryd.func79 (by kernel_rfl) (by kernel_rfl) (by kernel_rfl) (by kernel_rfl)
theorem pr79 : PrimOK Tryd.prog T 79 (pElem R) := @pElem_ok Tryd.prog T R sizeT 79 rok ent79
theorem ent80 : Ent Tryd.prog 80 (ReflectliteType.relation "Implements" ReflectliteType.implements_) := @run_callFunc_extern Tryd.prog 80 _ (ReflectliteType.relation "Implements" ReflectliteType.implements_) Tryd.func80 (by kernel_rfl) (by kernel_rfl) (by kernel_rfl) (by kernel_rfl)
theorem pr80 : PrimOK Tryd.prog T 80 (pImplements R) := @pImplements_ok Tryd.prog T R sizeT 80 rok ent80
set_option maxRecDepth 100000 in
theorem tab_ok : ∀ e ∈ tab, FOK Tryd.prog T e.1 e.2 :=
  List.forall_mem_cons.2 ⟨.code Tryd.func4 tr4 Tryd.call4,
  List.forall_mem_cons.2 ⟨.code Tryd.func8 tr8 Tryd.call8,
  List.forall_mem_cons.2 ⟨.code Tryd.func9 tr9 Tryd.call9,
  List.forall_mem_cons.2 ⟨.code Tryd.func10 tr10 Tryd.call10,
  List.forall_mem_cons.2 ⟨.code Tryd.func11 tr11 Tryd.call11,
  List.forall_mem_cons.2 ⟨.code Tryd.func12 tr12 Tryd.call12,
  List.forall_mem_cons.2 ⟨.code Tryd.func13 tr13 Tryd.call13,
  List.forall_mem_cons.2 ⟨.code Tryd.func14 tr14 Tryd.call14,
  List.forall_mem_cons.2 ⟨.code Tryd.func15 tr15 Tryd.call15,
  List.forall_mem_cons.2 ⟨.code Tryd.func16 tr16 Tryd.call16,
  List.forall_mem_cons.2 ⟨.code Tryd.func17 tr17 Tryd.call17,
  List.forall_mem_cons.2 ⟨.code Tryd.func18 tr18 Tryd.call18,
  List.forall_mem_cons.2 ⟨.code Tryd.func20 tr20 Tryd.call20,
  List.forall_mem_cons.2 ⟨.code Tryd.func23 tr23 Tryd.call23,
  List.forall_mem_cons.2 ⟨.code Tryd.func24 tr24 Tryd.call24,
  List.forall_mem_cons.2 ⟨.code Tryd.func26 tr26 Tryd.call26,
  List.forall_mem_cons.2 ⟨.prim pr27,
  List.forall_mem_cons.2 ⟨.code Tryd.func28 tr28 Tryd.call28,
  List.forall_mem_cons.2 ⟨.code Tryd.func29 tr29 Tryd.call29,
  List.forall_mem_cons.2 ⟨.code Tryd.func30 tr30 Tryd.call30,
  List.forall_mem_cons.2 ⟨.code Tryd.func31 tr31 Tryd.call31,
  List.forall_mem_cons.2 ⟨.prim pr32,
  List.forall_mem_cons.2 ⟨.prim pr33,
  List.forall_mem_cons.2 ⟨.prim pr34,
  List.forall_mem_cons.2 ⟨.code Tryd.func35 tr35 Tryd.call35,
  List.forall_mem_cons.2 ⟨.code Tryd.func36 tr36 Tryd.call36,
  List.forall_mem_cons.2 ⟨.prim pr37,
  List.forall_mem_cons.2 ⟨.prim pr38,
  List.forall_mem_cons.2 ⟨.code Tryd.func39 tr39 Tryd.call39,
  List.forall_mem_cons.2 ⟨.code Tryd.func40 tr40 Tryd.call40,
  List.forall_mem_cons.2 ⟨.code Tryd.func41 tr41 Tryd.call41,
  List.forall_mem_cons.2 ⟨.code Tryd.func42 tr42 Tryd.call42,
  List.forall_mem_cons.2 ⟨.code Tryd.func43 tr43 Tryd.call43,
  List.forall_mem_cons.2 ⟨.code Tryd.func44 tr44 Tryd.call44,
  List.forall_mem_cons.2 ⟨.code Tryd.func45 tr45 Tryd.call45,
  List.forall_mem_cons.2 ⟨.code Tryd.func46 tr46 Tryd.call46,
  List.forall_mem_cons.2 ⟨.code Tryd.func47 tr47 Tryd.call47,
  List.forall_mem_cons.2 ⟨.code Tryd.func48 tr48 Tryd.call48,
  List.forall_mem_cons.2 ⟨.code Tryd.func49 tr49 Tryd.call49,
  List.forall_mem_cons.2 ⟨.code Tryd.func50 tr50 Tryd.call50,
  List.forall_mem_cons.2 ⟨.prim pr65,
  List.forall_mem_cons.2 ⟨.code Tryd.func68 tr68 Tryd.call68,
  List.forall_mem_cons.2 ⟨.code Tryd.func69 tr69 Tryd.call69,
  List.forall_mem_cons.2 ⟨.code Tryd.func71 tr71 Tryd.call71,
  List.forall_mem_cons.2 ⟨.code Tryd.func72 tr72 Tryd.call72,
  List.forall_mem_cons.2 ⟨.prim pr77,
  List.forall_mem_cons.2 ⟨.prim pr78,
  List.forall_mem_cons.2 ⟨.prim pr79,
  List.forall_mem_cons.2 ⟨.prim pr80,
  fun _ h => nomatch h⟩⟩⟩⟩⟩⟩⟩⟩⟩⟩⟩⟩⟩⟩⟩⟩⟩⟩⟩⟩⟩⟩⟩⟩⟩⟩⟩⟩⟩⟩⟩⟩⟩⟩⟩⟩⟩⟩⟩⟩⟩⟩⟩⟩⟩⟩⟩⟩⟩
theorem fn_ok : FnOK Tryd.prog T := .of rfl tab_ok glob_ok
end Go.Eng.S
