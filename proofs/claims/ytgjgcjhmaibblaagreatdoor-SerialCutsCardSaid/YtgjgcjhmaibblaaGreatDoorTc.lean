/- The tables of Ta are right for the loaded program. No condition. -/
import Derived.Test.YtgjgcjhmaibblaaGreatDoorTb
namespace Go.Eng.S
open Go Go.Eng Go.Extern Go.Proofs

set_option linter.unusedSectionVars false
variable [Sit]

theorem rok : ROK Tryz.prog R sizeT where
  mk0 t k h := by unfold R kindT at h; dsimp only at h; split at h <;> cases h <;> intro a w <;> kernel_rfl
  mkA t k h := by unfold R kindT at h; dsimp only at h; split at h <;> cases h <;> intro a w <;> kernel_rfl
  any0 t k h := by unfold R kindT at h; dsimp only at h; split at h <;> cases h <;> intro a w <;> kernel_rfl
  anyA t k h := by unfold R kindT at h; dsimp only at h; split at h <;> cases h <;> intro a w <;> kernel_rfl
  parts0 t k h := by unfold R kindT at h; dsimp only at h; split at h <;> cases h <;> intro a w <;> kernel_rfl
  partsA t k h := by unfold R kindT at h; dsimp only at h; split at h <;> cases h <;> intro a w <;> kernel_rfl
  toType t k h := by unfold R kindT at h; dsimp only at h; split at h <;> cases h <;> intro w <;> kernel_rfl
  kindM t k h := by unfold R kindT at h; dsimp only at h; split at h <;> cases h <;> intro w <;> kernel_rfl
  elemM t e h := by unfold R elemT at h; dsimp only at h; split at h <;> cases h <;> intro w <;> kernel_rfl
  elemQ t e h := by unfold R elemT at h; dsimp only at h; split at h <;> cases h <;> intro w <;> kernel_rfl
  aggP t h := by unfold R kindT at h; dsimp only at h; split at h <;> cases h <;> kernel_rfl
  implM t u b h := by unfold R rimplT at h; dsimp only at h; split at h <;> cases h <;> intro w <;> kernel_rfl
  asgM t u b h := by unfold R asgT at h; dsimp only at h; split at h <;> cases h <;> intro w <;> kernel_rfl
  lt t k h := by unfold R kindT at h; dsimp only at h; split at h <;> cases h <;> decide
  size t n h := by unfold sizeT at h; split at h <;> cases h <;> exact ⟨by kernel_rfl, by kernel_rfl⟩
theorem compM : ∀ t b, R.comp t = some b → ∀ w, (ReflectliteType.method (fun t => do Rtype.noPackHeld "Comparable" t; pure (.bool (← typeInfo t).comparable)) #[.agg #[R.hv t]]).run Tryz.prog w = .ok (.bool b) w := by
  intro t b h
  unfold R compT at h; dsimp only at h; split at h <;> cases h <;> intro w <;> kernel_rfl
theorem tab_ok2 : TabOK Tryz.prog T where
  meth t m f h v w := by
    unfold T methT at h
    dsimp only at h
    split at h <;> cases h <;> exact ⟨by kernel_rfl, by kernel_rfl⟩
  methAt t m f k h v w := by
    unfold T methT at h
    dsimp only at h
    split at h <;> cases h
  via fv f h := by cases h
  eqt t q h := by
    unfold T eqtT at h
    dsimp only at h
    split at h <;> cases h <;> exact ⟨comp_of (by kernel_rfl), by kernel_rfl⟩
  impl t u b h := by
    unfold T implT at h
    dsimp only at h
    split at h <;> cases h <;> exact impl_of (by kernel_rfl)
theorem glob_ok : ∀ n cs, T.glob n = some cs → closedL cs = true := fun n cs h => by
  unfold T globT at h; dsimp only at h; split at h <;> cases h <;> rfl
theorem ent35 : Ent Tryz.prog 35 (ReflectliteType.typeOf) := @run_callFunc_extern Tryz.prog 35 _ (ReflectliteType.typeOf) Tryz.func35 (by kernel_rfl) (by kernel_rfl) (by kernel_rfl) (by kernel_rfl)
theorem pr35 : PrimOK Tryz.prog T 35 (pTypeOf R) := @pTypeOf_ok Tryz.prog T R sizeT 35 rok ent35
theorem ent90 : Ent Tryz.prog 90 (BytealgIndex.index) := @run_callFunc_extern Tryz.prog 90 _ (BytealgIndex.index) Tryz.func90 (by kernel_rfl) (by kernel_rfl) (by kernel_rfl) (by kernel_rfl)
theorem pr90 : PrimOK Tryz.prog T 90 (pIdxS Sit.maxLen) := @pIdxS_ok Tryz.prog T 90 Sit.maxLen 0 (by kernel_rfl) rfl ent90
theorem ent94 : Ent Tryz.prog 94 (BytealgIndexByte.indexByte) := @run_callFunc_extern Tryz.prog 94 _ (BytealgIndexByte.indexByte) Tryz.func94 (by kernel_rfl) (by kernel_rfl) (by kernel_rfl) (by kernel_rfl)
theorem pr94 : PrimOK Tryz.prog T 94 (pIdx) := @pIdx_ok Tryz.prog T 94 ent94
theorem ent127 : Ent Tryz.prog 127 (ReflectliteType.method fun t => do Rtype.noPackHeld "Comparable" t; pure (.bool (← typeInfo t).comparable)) := @run_callFunc_extern Tryz.prog 127 _ (ReflectliteType.method fun t => do Rtype.noPackHeld "Comparable" t; pure (.bool (← typeInfo t).comparable)) Tryz.func127 (by kernel_rfl) (by kernel_rfl) (by kernel_rfl) (by kernel_rfl)
theorem pr127 : PrimOK Tryz.prog T 127 (pComparable R) := @pComp_ok Tryz.prog T 127 R compM ent127
set_option maxRecDepth 100000 in
theorem tab_ok : ∀ e ∈ tab, FOK Tryz.prog T e.1 e.2 :=
  List.forall_mem_cons.2 ⟨.code Tryz.func3 tr3 Tryz.call3,
  List.forall_mem_cons.2 ⟨.code Tryz.func4 tr4 Tryz.call4,
  List.forall_mem_cons.2 ⟨.code Tryz.func5 tr5 Tryz.call5,
  List.forall_mem_cons.2 ⟨.code Tryz.func6 tr6 Tryz.call6,
  List.forall_mem_cons.2 ⟨.code Tryz.func7 tr7 Tryz.call7,
  List.forall_mem_cons.2 ⟨.code Tryz.func8 tr8 Tryz.call8,
  List.forall_mem_cons.2 ⟨.code Tryz.func10 tr10 Tryz.call10,
  List.forall_mem_cons.2 ⟨.code Tryz.func11 tr11 Tryz.call11,
  List.forall_mem_cons.2 ⟨.code Tryz.func12 tr12 Tryz.call12,
  List.forall_mem_cons.2 ⟨.code Tryz.func13 tr13 Tryz.call13,
  List.forall_mem_cons.2 ⟨.code Tryz.func14 tr14 Tryz.call14,
  List.forall_mem_cons.2 ⟨.code Tryz.func15 tr15 Tryz.call15,
  List.forall_mem_cons.2 ⟨.code Tryz.func16 tr16 Tryz.call16,
  List.forall_mem_cons.2 ⟨.code Tryz.func17 tr17 Tryz.call17,
  List.forall_mem_cons.2 ⟨.code Tryz.func18 tr18 Tryz.call18,
  List.forall_mem_cons.2 ⟨.code Tryz.func19 tr19 Tryz.call19,
  List.forall_mem_cons.2 ⟨.code Tryz.func20 tr20 Tryz.call20,
  List.forall_mem_cons.2 ⟨.code Tryz.func21 tr21 Tryz.call21,
  List.forall_mem_cons.2 ⟨.code Tryz.func22 tr22 Tryz.call22,
  List.forall_mem_cons.2 ⟨.code Tryz.func23 tr23 Tryz.call23,
  List.forall_mem_cons.2 ⟨.code Tryz.func24 tr24 Tryz.call24,
  List.forall_mem_cons.2 ⟨.code Tryz.func25 tr25 Tryz.call25,
  List.forall_mem_cons.2 ⟨.code Tryz.func26 tr26 Tryz.call26,
  List.forall_mem_cons.2 ⟨.code Tryz.func27 tr27 Tryz.call27,
  List.forall_mem_cons.2 ⟨.code Tryz.func28 tr28 Tryz.call28,
  List.forall_mem_cons.2 ⟨.code Tryz.func29 tr29 Tryz.call29,
  List.forall_mem_cons.2 ⟨.code Tryz.func30 tr30 Tryz.call30,
  List.forall_mem_cons.2 ⟨.code Tryz.func31 tr31 Tryz.call31,
  List.forall_mem_cons.2 ⟨.code Tryz.func32 tr32 Tryz.call32,
  List.forall_mem_cons.2 ⟨.code Tryz.func33 tr33 Tryz.call33,
  List.forall_mem_cons.2 ⟨.code Tryz.func34 tr34 Tryz.call34,
  List.forall_mem_cons.2 ⟨.prim pr35,
  List.forall_mem_cons.2 ⟨.code Tryz.func36 tr36 Tryz.call36,
  List.forall_mem_cons.2 ⟨.code Tryz.func37 tr37 Tryz.call37,
  List.forall_mem_cons.2 ⟨.code Tryz.func38 tr38 Tryz.call38,
  List.forall_mem_cons.2 ⟨.code Tryz.func39 tr39 Tryz.call39,
  List.forall_mem_cons.2 ⟨.code Tryz.func40 tr40 Tryz.call40,
  List.forall_mem_cons.2 ⟨.code Tryz.func41 tr41 Tryz.call41,
  List.forall_mem_cons.2 ⟨.code Tryz.func42 tr42 Tryz.call42,
  List.forall_mem_cons.2 ⟨.code Tryz.func43 tr43 Tryz.call43,
  List.forall_mem_cons.2 ⟨.code Tryz.func44 tr44 Tryz.call44,
  List.forall_mem_cons.2 ⟨.code Tryz.func45 tr45 Tryz.call45,
  List.forall_mem_cons.2 ⟨.code Tryz.func46 tr46 Tryz.call46,
  List.forall_mem_cons.2 ⟨.code Tryz.func47 tr47 Tryz.call47,
  List.forall_mem_cons.2 ⟨.code Tryz.func48 tr48 Tryz.call48,
  List.forall_mem_cons.2 ⟨.code Tryz.func49 tr49 Tryz.call49,
  List.forall_mem_cons.2 ⟨.code Tryz.func50 tr50 Tryz.call50,
  List.forall_mem_cons.2 ⟨.code Tryz.func51 tr51 Tryz.call51,
  List.forall_mem_cons.2 ⟨.code Tryz.func52 tr52 Tryz.call52,
  List.forall_mem_cons.2 ⟨.code Tryz.func53 tr53 Tryz.call53,
  List.forall_mem_cons.2 ⟨.code Tryz.func54 tr54 Tryz.call54,
  List.forall_mem_cons.2 ⟨.code Tryz.func55 tr55 Tryz.call55,
  List.forall_mem_cons.2 ⟨.code Tryz.func56 tr56 Tryz.call56,
  List.forall_mem_cons.2 ⟨.code Tryz.func57 tr57 Tryz.call57,
  List.forall_mem_cons.2 ⟨.code Tryz.func58 tr58 Tryz.call58,
  List.forall_mem_cons.2 ⟨.code Tryz.func59 tr59 Tryz.call59,
  List.forall_mem_cons.2 ⟨.code Tryz.func60 tr60 Tryz.call60,
  List.forall_mem_cons.2 ⟨.code Tryz.func61 tr61 Tryz.call61,
  List.forall_mem_cons.2 ⟨.code Tryz.func62 tr62 Tryz.call62,
  List.forall_mem_cons.2 ⟨.code Tryz.func63 tr63 Tryz.call63,
  List.forall_mem_cons.2 ⟨.code Tryz.func64 tr64 Tryz.call64,
  List.forall_mem_cons.2 ⟨.code Tryz.func65 tr65 Tryz.call65,
  List.forall_mem_cons.2 ⟨.code Tryz.func66 tr66 Tryz.call66,
  List.forall_mem_cons.2 ⟨.code Tryz.func67 tr67 Tryz.call67,
  List.forall_mem_cons.2 ⟨.code Tryz.func68 tr68 Tryz.call68,
  List.forall_mem_cons.2 ⟨.code Tryz.func69 tr69 Tryz.call69,
  List.forall_mem_cons.2 ⟨.code Tryz.func70 tr70 Tryz.call70,
  List.forall_mem_cons.2 ⟨.code Tryz.func71 tr71 Tryz.call71,
  List.forall_mem_cons.2 ⟨.code Tryz.func72 tr72 Tryz.call72,
  List.forall_mem_cons.2 ⟨.code Tryz.func73 tr73 Tryz.call73,
  List.forall_mem_cons.2 ⟨.code Tryz.func74 tr74 Tryz.call74,
  List.forall_mem_cons.2 ⟨.code Tryz.func75 tr75 Tryz.call75,
  List.forall_mem_cons.2 ⟨.code Tryz.func76 tr76 Tryz.call76,
  List.forall_mem_cons.2 ⟨.code Tryz.func77 tr77 Tryz.call77,
  List.forall_mem_cons.2 ⟨.code Tryz.func78 tr78 Tryz.call78,
  List.forall_mem_cons.2 ⟨.code Tryz.func79 tr79 Tryz.call79,
  List.forall_mem_cons.2 ⟨.code Tryz.func80 tr80 Tryz.call80,
  List.forall_mem_cons.2 ⟨.code Tryz.func81 tr81 Tryz.call81,
  List.forall_mem_cons.2 ⟨.code Tryz.func82 tr82 Tryz.call82,
  List.forall_mem_cons.2 ⟨.code Tryz.func83 tr83 Tryz.call83,
  List.forall_mem_cons.2 ⟨.code Tryz.func84 tr84 Tryz.call84,
  List.forall_mem_cons.2 ⟨.code Tryz.func85 tr85 Tryz.call85,
  List.forall_mem_cons.2 ⟨.code Tryz.func86 tr86 Tryz.call86,
  List.forall_mem_cons.2 ⟨.code Tryz.func87 tr87 Tryz.call87,
  List.forall_mem_cons.2 ⟨.code Tryz.func88 tr88 Tryz.call88,
  List.forall_mem_cons.2 ⟨.code Tryz.func89 tr89 Tryz.call89,
  List.forall_mem_cons.2 ⟨.prim pr90,
  List.forall_mem_cons.2 ⟨.code Tryz.func91 tr91 Tryz.call91,
  List.forall_mem_cons.2 ⟨.code Tryz.func92 tr92 Tryz.call92,
  List.forall_mem_cons.2 ⟨.code Tryz.func93 tr93 Tryz.call93,
  List.forall_mem_cons.2 ⟨.prim pr94,
  List.forall_mem_cons.2 ⟨.code Tryz.func95 tr95 Tryz.call95,
  List.forall_mem_cons.2 ⟨.code Tryz.func96 tr96 Tryz.call96,
  List.forall_mem_cons.2 ⟨.code Tryz.func97 tr97 Tryz.call97,
  List.forall_mem_cons.2 ⟨.code Tryz.func98 tr98 Tryz.call98,
  List.forall_mem_cons.2 ⟨.code Tryz.func99 tr99 Tryz.call99,
  List.forall_mem_cons.2 ⟨.code Tryz.func100 tr100 Tryz.call100,
  List.forall_mem_cons.2 ⟨.code Tryz.func101 tr101 Tryz.call101,
  List.forall_mem_cons.2 ⟨.code Tryz.func102 tr102 Tryz.call102,
  List.forall_mem_cons.2 ⟨.code Tryz.func103 tr103 Tryz.call103,
  List.forall_mem_cons.2 ⟨.code Tryz.func104 tr104 Tryz.call104,
  List.forall_mem_cons.2 ⟨.code Tryz.func105 tr105 Tryz.call105,
  List.forall_mem_cons.2 ⟨.code Tryz.func106 tr106 Tryz.call106,
  List.forall_mem_cons.2 ⟨.code Tryz.func123 tr123 Tryz.call123,
  List.forall_mem_cons.2 ⟨.prim pr127,
  List.forall_mem_cons.2 ⟨.code Tryz.func137 tr137 Tryz.call137,
  fun _ h => nomatch h⟩⟩⟩⟩⟩⟩⟩⟩⟩⟩⟩⟩⟩⟩⟩⟩⟩⟩⟩⟩⟩⟩⟩⟩⟩⟩⟩⟩⟩⟩⟩⟩⟩⟩⟩⟩⟩⟩⟩⟩⟩⟩⟩⟩⟩⟩⟩⟩⟩⟩⟩⟩⟩⟩⟩⟩⟩⟩⟩⟩⟩⟩⟩⟩⟩⟩⟩⟩⟩⟩⟩⟩⟩⟩⟩⟩⟩⟩⟩⟩⟩⟩⟩⟩⟩⟩⟩⟩⟩⟩⟩⟩⟩⟩⟩⟩⟩⟩⟩⟩⟩⟩⟩⟩⟩⟩
theorem fn_at (f : Nat) : T.fn f = bif f == 9 then Sit.ext.map FDef.prim else look tab f := rfl
set_option maxRecDepth 100000 in
theorem fn_ok (hp : ∀ p, Sit.ext = some p → PrimOK Tryz.prog T 9 p) : FnOK Tryz.prog T where
  code := fun f p ac rs h => by
    rw [fn_at] at h
    cases hb : (f == 9) with
    | true => rw [hb] at h; cases he : Sit.ext with
      | none => rw [he] at h; cases h
      | some q => rw [he] at h; cases h
    | false => rw [hb] at h; exact (look_all (Q := FOK Tryz.prog T) tab_ok h).1 p ac rs rfl
  prim := fun f p h => by
    rw [fn_at] at h
    cases hb : (f == 9) with
    | true =>
      rw [hb] at h
      obtain rfl : f = 9 := by simpa using hb
      cases he : Sit.ext with
      | none => rw [he] at h; cases h
      | some q => rw [he] at h; cases h; exact hp _ he
    | false => rw [hb] at h; exact (look_all (Q := FOK Tryz.prog T) tab_ok h).2 p rfl
  glob := glob_ok
end Go.Eng.S
