/- The entry internal/bytealg.IndexString. No condition. -/
import Derived.Test.YtgjgcjhmaibblaaGreatDoorEj
import Derived.Lib.IndexEntry
namespace Go.Eng
open Go Go.Extern
/-- 'm': what the variable MaxLen holds. -/
def pIdxS (m : Int) (args : List AV) (H : Heap) : Option (AV × Heap) := match args with
  | [.str a, .str b] => if 2 ≤ b.length ∧ (b.length : Int) ≤ m ∧ a.length < 4294967281 then some (.int .i64 (Lib.index a b), H) else none
  | _ => none
theorem pIdxS_ok {P : Program} {T : Tab} {f : FuncId} {m : Int} {g : Nat} (hg : P.globals.findIdx? (·.name == "internal/bytealg.MaxLen") = some g) (hT : T.glob g = some [.int .i64 m]) (he : Ent P f BytealgIndex.index) : PrimOK P T f (pIdxS m) := by
  intro args H r H' hp c hc hA args' ha
  subst hA
  unfold pIdxS at hp
  split at hp
  · rename_i a b
    split at hp
    · rename_i hh
      cases hp
      obtain ⟨y, z, rfl, hy, hz⟩ := args2 ha
      cases hy
      cases hz
      have hv := hc.gl g _ hT
      have hm : c.w.cell? ⟨g, 0, none⟩ = some (.int .i64 m) := by
        cases hv with
        | ep cells vs b o hl hr hp hcc =>
          match vs, hl with
          | [v], _ =>
            have h1 := hr 0 _ v rfl rfl
            have h2 := hcc 0 v rfl
            cases h1
            simpa using h2
      refine he.does (.same hc.wr (y := .int .i64 (Lib.index a b)) ?_ (.int _ _))
      have e1 : (⟨a.toArray⟩ : ByteArray).size = a.length := by simp [ByteArray.size]
      have e2 : (⟨b.toArray⟩ : ByteArray).size = b.length := by simp [ByteArray.size]
      have := Lib.run_indexString (P := P) ⟨a.toArray⟩ ⟨b.toArray⟩ c.w g m hg hm (by rw [e2]; exact hh.1) (by rw [e2]; exact hh.2.1) (by rw [e1]; exact hh.2.2)
      simpa using this
    · cases hp
  · cases hp
end Go.Eng
