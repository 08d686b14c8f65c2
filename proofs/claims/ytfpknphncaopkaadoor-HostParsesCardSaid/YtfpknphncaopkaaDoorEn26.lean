/- From the abstract answer of a law to its call in a world: the start, the answer, what is kept. No condition. -/
import Derived.Test.YtfpknphncaopkaaDoorEn25
import Derived.ProofKit
namespace Go.Eng
open Go

def Cx.start (W : World) : Cx := { F := fun _ => False, blk := fun _ => 0, base := fun _ => 0, A := [], w := W }

theorem start_perm {W : World} {b : Nat} (h : b < W.heap.size) : Perm (Cx.start W) b :=
  ⟨h, by
    rintro (h | ⟨i, o, h1, _⟩)
    · exact h
    · simp [Cx.start] at h1⟩

theorem start_ok {T : Tab} {W : World} (hg : ∀ n cs, T.glob n = some cs → VR (Cx.start W) (.ep cs) (.pointer (some ⟨n, 0, none⟩))) : OK T (Cx.start W) where
  wr :=
    { lt := fun i o h => by simp [Cx.start] at h
      nf := fun i o h => by simp [Cx.start] at h
      inj := fun i j o p h => by simp [Cx.start] at h
      cell := fun i o h => by simp [Cx.start] at h
      soft := fun i o h => by simp [Cx.start] at h }
  gl := hg
  fr := fun b hb h => h

/-- An old address behind which these values lie. -/
theorem start_ep {W : World} {cs : List AV} {vs : List Value} {b o : Nat} (hv : VRs (Cx.start W) cs vs) (hb : b < W.heap.size) (hc : ∀ (k : Nat) (v : Value), vs[k]? = some v → W.cell? ⟨b, o + k, none⟩ = some v) :
    VR (Cx.start W) (.ep cs) (.pointer (some ⟨b, o, none⟩)) := .ep cs vs b o hv.len hv.rel (start_perm hb) hc

theorem run_law {P : Program} {T : Tab} (hT : TabOK P T) (hF : FnOK P T) {f : FuncId} (hcall : ∀ (args : Array Value) (w : World), (callFunc f args).run P w = .ok (.enter f args) w) {args : List AV} {args' : Array Value} {W : World}
    (hg : ∀ n cs, T.glob n = some cs → VR (Cx.start W) (.ep cs) (.pointer (some ⟨n, 0, none⟩))) (ha : VRs (Cx.start W) args args'.toList) {v : AV} {H' : Heap} (h : C T f args [] = some (v, H')) :
    Calls P f args' W fun e w' => ∃ (y : Value) (c' : Cx), e = .returned y ∧ w' = c'.w ∧ Ext (Cx.start W) c' ∧ VR c' v y := by
  have hd := C_ok hT hF f args [] v H' h (Cx.start W) (start_ok hg) rfl args' ha
  rw [hcall] at hd
  have := hd { tmps := #[undef], defers := [] } { dst := some 0, op := .assign (.const undef), type := 0, pos := "", after := #[], guard := none }
    (fun a w => ∃ (y : Value) (c' : Cx), a.tmps[0]? = some y ∧ w = c'.w ∧ Ext (Cx.start W) c' ∧ VR c' v y) (fun _ _ _ => False) (fun y c' h1 h2 h3 h4 => ⟨y, c', by simp [Act.put], rfl, h1, h4⟩)
  rw [Oper.upon_enter] at this
  refine this.mono ?_
  intro e w' he
  cases e with
  | returned y =>
    obtain ⟨y', c', h1, h2, h3, h4⟩ := he
    refine ⟨y', c', ?_, h2, h3, h4⟩
    simp [Act.put] at h1
    rw [h1]
  | panicked c => exact he.elim
  | outgrown =>
    obtain ⟨a, w, h⟩ := he
    exact h.elim

theorem start_same {W : World} {c' : Cx} (h : Ext (Cx.start W) c') {b : Nat} (hb : b < W.heap.size) : c'.w.heap[b]? = W.heap[b]? :=
  h.frame b hb (by rintro ⟨i, o, h1, _⟩; simp [Cx.start] at h1)

theorem start_kept {W : World} {c' : Cx} (h : Ext (Cx.start W) c') (may : MemPlace → Prop) : W.keptBut c'.w may := by
  refine ⟨h.os, h.out, fun i hi => ?_⟩
  have := (World.keptBut_refl W may).2.2 i hi
  rw [start_same h hi]
  exact this
end Go.Eng
