/- The text of a path is read back: the plain law. No condition. -/
import Derived.Test.YtdffpjbjpfolfaaGreatDoorGx
import Derived.Test.YtdffpjbjpfolfaaGreatDoorGu
namespace Go.Eng.S
open Go Go.Eng
theorem dgU_hex (n : Nat) (h : n < 16) : hexI (dgU n).toNat = n := by
  have : (List.range 16).all (fun n => decide (hexI (dgU n).toNat = n)) = true := by decide +kernel
  exact of_decide_eq_true (List.all_eq_true.1 this n (List.mem_range.2 h))
theorem u3_facts (c : UInt8) (h : clsB 3 c = true) : c ≠ 37 ∧ c ≠ 47 ∧ alw c = true := by
  have := all256 (p := fun n => !clsB 3 (UInt8.ofNat n) || (!(UInt8.ofNat n == 37) && !(UInt8.ofNat n == 47) && alw (UInt8.ofNat n))) (by decide +kernel) c
  rw [UInt8.ofNat_toNat, h] at this
  simpa [and_assoc] using this
theorem tri_pair (q p : Nat) (hq : q < 16) (hp : p < 16) (r : Seg) : tri (dgU q :: dgU p :: r) = some (UInt8.ofNat (q * 16 + p)) := by
  have h1 := dgU_hex q hq
  have h2 := dgU_hex p hp
  rw [tri_cons, h1, h2, if_pos ⟨by omega, by omega⟩]
  congr 2
theorem pds_encB (c : UInt8) (r : Seg) (i : Nat) : pds 0 i (encB c ++ r) = (pds 0 (i + (encB c).length) r).map (c :: ·) := by
  unfold encB
  split
  · rename_i h
    have := (u3_facts c h).1
    rw [List.singleton_append, pds, if_neg this]
    rfl
  · have hc := c.toNat_lt
    have ht := tri_pair (c.toNat / 16) (c.toNat % 16) (by omega) (by omega) r
    have hv : c.toNat / 16 * 16 + c.toNat % 16 = c.toNat := by omega
    rw [hv, UInt8.ofNat_toNat] at ht
    simp only [List.cons_append, List.nil_append]
    rw [pds, if_pos rfl, ht]
    dsimp only
    rw [pds, pds]
    rfl
theorem map_map' (x : Except Nat (List UInt8)) (f g : List UInt8 → List UInt8) : (x.map f).map g = x.map (fun y => g (f y)) := by cases x <;> rfl
theorem pds_enc : ∀ (x r : Seg) (i : Nat), pds 0 i (enc x ++ r) = (pds 0 (i + (enc x).length) r).map (x ++ ·)
  | [], r, i => by
    have : enc [] = [] := rfl
    rw [this]
    cases hr : pds 0 (i + [].length) r with
    | ok l => simpa [Except.map] using hr
    | error j => simpa [Except.map] using hr
  | c :: x, r, i => by
    rw [enc_cons, List.append_assoc, pds_encB, pds_enc x r, map_map', List.length_append, Nat.add_assoc]
    rfl
theorem pds_enc0 (x : Seg) (i : Nat) : pds 0 i (enc x) = .ok x := by
  have := pds_enc x [] i
  rw [List.append_nil] at this
  rw [this]
  simp [pds, Except.map]
theorem pds_segT : ∀ (l : List Seg) (i : Nat), ∃ x, pds 0 i (segT l) = .ok x
  | [], i => ⟨[], rfl⟩
  | y :: l, i => by
    obtain ⟨x, hx⟩ := pds_segT l (i + 1 + (enc y).length)
    rw [segT_cons, pds, if_neg (by decide), pds_enc, hx]
    exact ⟨_, rfl⟩
theorem dgU_alw (n : Nat) (h : n < 16) : alw (dgU n) = true ∧ dgU n ≠ 47 := by
  have h1 := dgU_hex n h
  have := hex_alw (c := dgU n) (by omega)
  exact ⟨this.1, this.2.2⟩
theorem encB_alw (c : UInt8) : (encB c).all alw = true ∧ (47 : UInt8) ∉ encB c := by
  unfold encB
  split
  · rename_i h
    have := u3_facts c h
    simp [this.2.2, Ne.symm this.2.1]
  · have hc := c.toNat_lt
    have h1 := dgU_alw (c.toNat / 16) (by omega)
    have h2 := dgU_alw (c.toNat % 16) (by omega)
    have h3 : alw 37 = true := by decide
    simp [h1.1, h2.1, h3, Ne.symm h1.2, Ne.symm h2.2]
theorem enc_alw : ∀ x : Seg, (enc x).all alw = true ∧ (47 : UInt8) ∉ enc x
  | [] => ⟨rfl, by simp [enc]⟩
  | c :: x => by
    have h1 := encB_alw c
    have h2 := enc_alw x
    rw [enc_cons, List.all_append, List.mem_append, h1.1, h2.1]
    exact ⟨rfl, fun h => h.elim h1.2 h2.2⟩
theorem segT_alw : ∀ l : List Seg, (segT l).all alw = true
  | [] => rfl
  | x :: l => by
    have h3 : alw 47 = true := by decide
    rw [segT_cons, List.all_cons, List.all_append, (enc_alw x).1, segT_alw l, h3]; rfl
theorem shp_segT (x : Seg) (t : List Seg) : shpE (segT (x :: t)) = none := by
  have ha := segT_alw (x :: t)
  obtain ⟨y, hy⟩ := pds_segT (x :: t) 0
  have hs : sl1 (segT (x :: t)) = true := by rw [segT_cons]; simp [sl1]
  unfold shpE
  rw [if_pos hs, tw_all alw _ ha, hy]
  unfold fstB
  rw [if_pos ha]
theorem spl_pre : ∀ (s r : Seg) (h : Seg) (t : List Seg), (47 : UInt8) ∉ s → spl r = h :: t → spl (s ++ r) = (s ++ h) :: t
  | [], r, h, t, _, hr => hr
  | c :: s, r, h, t, hn, hr => by
    have hc : ¬ c = 47 := fun e => hn (by simp [e])
    rw [List.cons_append, spl, if_neg hc, spl_pre s r h t (fun e => hn (by simp [e])) hr]
    rfl
theorem spl_segT : ∀ (t : List Seg) (x : Seg), spl (enc x ++ segT t) = (x :: t).map enc
  | [], x => by
    have : segT [] = [] := rfl
    rw [this, spl_pre (enc x) [] [] [] (enc_alw x).2 rfl]
    simp
  | y :: t, x => by
    have ih := spl_segT t y
    rw [segT_cons, spl_pre (enc x) (47 :: (enc y ++ segT t)) [] ((y :: t).map enc) (enc_alw x).2 (by rw [spl, if_pos rfl, ih])]
    simp
theorem raw_segT (x : Seg) (t : List Seg) : rawL (segT (x :: t)) = (x :: t).map enc := by
  unfold rawL
  rw [if_pos (by rw [segT_cons]; simp [sl1]), segT_cons, List.drop_succ_cons, List.drop_zero, spl_segT]
theorem dcd_enc : ∀ (l : List Seg) (n : Nat), (∀ x ∈ l, x.any isSL = false) → dcd (l.map enc) n = .ok l
  | [], n, _ => rfl
  | x :: l, n, h => by
    have h1 := h x (by simp)
    rw [List.map_cons, dcd, pds_enc0]
    dsimp only
    rw [if_neg (by rw [h1]; simp), dcd_enc l _ fun y hy => h y (by simp [hy])]
    rfl
theorem plain_iff (s : Seg) : plain s = true ↔ s ≠ d1 ∧ s ≠ dd ∧ s.any isSL = false := by
  unfold plain
  simp [and_assoc]
theorem cln_dir : ∀ (l st : List Seg) (i : Nat), (∀ x ∈ l, plain x = true) → clnS st (l ++ [[]]) i = .ok (st ++ l)
  | [], st, i, _ => by simp [clnS]
  | s :: r, st, i, h => by
    obtain ⟨h1, h2, _⟩ := (plain_iff s).1 (h s (by simp))
    rw [List.cons_append, clnS, if_neg h2, if_neg (by simp [h1]), cln_dir r _ _ fun y hy => h y (by simp [hy])]
    simp
theorem dir_dir : ∀ (l : List Seg) (d : Bool), dirR d (l ++ [[]]) = true
  | [], d => by simp [dirR]
  | s :: r, d => by rw [List.cons_append, dirR]; exact dir_dir r _
theorem cln_nod : ∀ (l st : List Seg) (i : Nat), (∀ x ∈ l, plain x = true) → (∀ r x, l = r ++ [x] → x ≠ []) → clnS st l i = .ok (st ++ l)
  | [], st, i, _, _ => by simp [clnS]
  | s :: r, st, i, h, hl => by
    obtain ⟨h1, h2, _⟩ := (plain_iff s).1 (h s (by simp))
    have h3 : ¬ (s = [] ∧ r = []) := fun ⟨e1, e2⟩ => hl [] s (by rw [e2]; rfl) e1
    rw [clnS, if_neg h2, if_neg (by rintro (e | e); exact h1 e; exact h3 e), cln_nod r _ _ (fun y hy => h y (by simp [hy])) fun q x e => hl (s :: q) x (by rw [e]; rfl)]
    simp
theorem dir_nod : ∀ (l : List Seg) (d : Bool), (∀ x ∈ l, plain x = true) → (∀ r x, l = r ++ [x] → x ≠ []) → dirR d l = d
  | [], d, _, _ => rfl
  | s :: r, d, h, hl => by
    obtain ⟨h1, h2, _⟩ := (plain_iff s).1 (h s (by simp))
    have h3 : ¬ (s = [] ∧ r = []) := fun ⟨e1, e2⟩ => hl [] s (by rw [e2]; rfl) e1
    rw [dirR, if_neg (by rintro (e | e | e); exact h2 e; exact h1 e; exact h3 e)]
    exact dir_nod r d (fun y hy => h y (by simp [hy])) fun q x e => hl (s :: q) x (by rw [e]; rfl)
theorem par_segT (x : Seg) (t : List Seg) (h : ∀ y ∈ x :: t, y.any isSL = false) (st : List Seg) (hc : clnS [] (x :: t) 0 = .ok st) : parS (segT (x :: t)) = .ok (st, dirR false (x :: t)) := by
  unfold parS
  rw [shp_segT, raw_segT]
  dsimp only
  rw [dcd_enc _ _ h]
  dsimp only
  rw [hc]
theorem par_txt (l : List Seg) (d : Bool) (h : ∀ x ∈ l, plain x = true) (hl : d = true ∨ ∀ r x, l = r ++ [x] → x ≠ []) : parS (txt l d) = .ok (l, d || l.isEmpty) := by
  have hs : ∀ x ∈ l, x.any isSL = false := fun x hx => ((plain_iff x).1 (h x hx)).2.2
  unfold txt
  cases hd : d || l.isEmpty with
  | true =>
    have e : segT l ++ [47] = segT (l ++ [[]]) := by rw [segT_app]; rfl
    rw [if_pos rfl, e]
    have hc := cln_dir l [] 0 h
    have hdd := dir_dir l false
    have hs2 : ∀ x ∈ l ++ [[]], x.any isSL = false := by
      intro x hx
      rcases List.mem_append.1 hx with hx | hx
      · exact hs x hx
      · simp at hx; rw [hx]; rfl
    rw [List.nil_append] at hc
    cases hm : l ++ [[]] with
    | nil => simp at hm
    | cons y t =>
      rw [hm] at hc hdd hs2
      rw [par_segT y t hs2 l hc, hdd]
  | false =>
    simp only [Bool.or_eq_false_iff] at hd
    obtain ⟨rfl, hd2⟩ := hd
    rw [if_neg (by simp)]
    have hl := hl.resolve_left (by simp)
    have hc := cln_nod l [] 0 h hl
    have hdd := dir_nod l false h hl
    rw [List.nil_append] at hc
    cases l with
    | nil => cases hd2
    | cons y t => rw [par_segT y t hs _ hc, hdd]
end Go.Eng.S
