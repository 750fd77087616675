/-
  The lists of the map: its frames in order, its first dirty page, what is cut off. No program.
-/
import Derived.Test.YtcicfijpfhbcaaaQn
namespace Go.Proofs.Ytcicfijpfhbcaaa
set_option linter.unusedSimpArgs false
set_option linter.unusedVariables false
set_option linter.unusedSectionVars false
open Go.RowKit

/-- The frames of the pages from s on that are below k. -/
def goneM (m : Nat → Pg) (s k : Nat) : List Int := ((List.range k).filter fun j => decide (s ≤ j) && decide (0 ≤ (m j).1)).map fun j => (m j).1
theorem gone_succ (m : Nat → Pg) (s k : Nat) : goneM m s (k + 1) = if s ≤ k ∧ 0 ≤ (m k).1 then goneM m s k ++ [(m k).1] else goneM m s k := by
  unfold goneM
  rw [List.range_succ, List.filter_append, List.map_append]
  by_cases h : s ≤ k ∧ 0 ≤ (m k).1
  · rw [if_pos h, List.filter_cons_of_pos (by simp [h.1, h.2])]; rfl
  · rw [if_neg h, List.filter_cons_of_neg (by simp; omega)]; simp
theorem gone_start (m : Nat → Pg) (s : Nat) : goneM m s s = [] := by
  unfold goneM
  rw [List.filter_eq_nil_iff.2 fun j hj => by have := List.mem_range.1 hj; simp; omega]
  rfl
theorem gone_len (m : Nat → Pg) (s k : Nat) : (goneM m s k).length ≤ k := by
  unfold goneM
  rw [List.length_map]
  exact Nat.le_trans (List.length_filter_le _ _) (by simp)
/-- The first dirty page below k, or -1. -/
def dirtyM (m : Nat → Pg) (k : Nat) : Int := nthI (((List.range k).filter fun j => (m j).2.2).map Int.ofNat) 0
theorem dirty_zero (m : Nat → Pg) : dirtyM m 0 = -1 := rfl
theorem dirty_rng (m : Nat → Pg) (k : Nat) : -1 ≤ dirtyM m k ∧ dirtyM m k < k := by
  unfold dirtyM
  cases hL : (List.range k).filter fun j => (m j).2.2 with
  | nil => exact ⟨by decide, by show (-1 : Int) < k; omega⟩
  | cons a l =>
    have : a ∈ (List.range k).filter fun j => (m j).2.2 := by rw [hL]; exact List.mem_cons_self ..
    have := List.mem_range.1 (List.mem_filter.1 this).1
    exact ⟨by show (-1 : Int) ≤ (a : Int); omega, by show (a : Int) < k; omega⟩
theorem dirty_succ (m : Nat → Pg) (k : Nat) : dirtyM m (k + 1) = if (m k).2.2 = true ∧ dirtyM m k < 0 then (k : Int) else dirtyM m k := by
  unfold dirtyM
  rw [List.range_succ, List.filter_append]
  cases hL : (List.range k).filter fun j => (m j).2.2 with
  | nil =>
    cases hd : (m k).2.2
    · rw [List.filter_cons_of_neg (p := fun j => (m j).2.2) (by simp [hd])]; simp
    · rw [List.filter_cons_of_pos (p := fun j => (m j).2.2) hd]
      rw [if_pos ⟨rfl, by decide⟩]
      rfl
  | cons a l =>
    rw [if_neg]
    · rfl
    · rintro ⟨-, h⟩
      have : nthI ((a :: l).map Int.ofNat) 0 = (a : Int) := rfl
      rw [this] at h
      omega

theorem RM_24 : 24 ≤ RM := by rw [RM_val]; omega
theorem filt_small {R : Nat} {p q : Nat → Bool} (h : 24 ≤ R) (h1 : ∀ j, j < 24 → p j = q j) (h2 : ∀ j, 24 ≤ j → p j = false) : (List.range R).filter p = (List.range 24).filter q := by
  rw [filter_range_ext h h2]
  exact List.filter_congr fun j hj => h1 j (List.mem_range.1 hj)
section
variable {m : Nat → Pg} {t : Nat × RN}
theorem cm_each (hc : Cp (mF m) t) {tag : Int} (t0 : -1 ≤ tag) (t1 : tag ≤ 1) : eachL t.1 t.2 tag = ((List.range 24).filter fun j => takeB tag (pgE (m j))).map Int.ofNat := by
  rw [each_idxs (check_iff.2 hc.1) t0 t1, idxs, filt_small RM_24 (fun j hj => by rw [cm_tl hc hj]) fun j hj => ?_]
  rw [hc.2 j]; unfold mF; rw [if_neg (by omega)]; unfold takeB; simp [e0]
theorem take_all (m : Nat → Pg) (hm : okM m) (j : Nat) : takeB (-1) (pgE (m j)) = !decide ((pgE (m j)).1 = 0) := by
  unfold takeB hasE
  simp
theorem take_dirty (hm : okM m) (j : Nat) : takeB 0 (pgE (m j)) = (m j).2.2 := by
  have ok := hm.pg j
  unfold okPg at ok
  unfold takeB hasE pgE
  by_cases a : 0 ≤ (m j).1
  · rw [if_pos a]; simp; omega
  · have hd : (m j).2.2 = false := by
      cases hd : (m j).2.2
      · rfl
      · exact absurd (ok.2.2 hd) a
    rw [if_neg a, hd]
    split <;> simp [e0]
theorem framesL_gone (hm : okM m) (hc : Cp (mF m) t) (s : Nat) : framesL t.1 t.2 ((eachL t.1 t.2 (-1)).filter fun i => decide ((s : Int) ≤ i)) = goneM m s 24 := by
  rw [cm_each hc (by omega) (by omega)]
  unfold framesL goneM
  rw [List.filter_map, List.filter_map, List.filter_filter, List.filter_filter, List.map_map]
  have he : ∀ j, j < 24 → (decide (0 < getP t.1 t.2 (Int.ofNat j)) = decide (0 ≤ (m j).1)) := fun j hj => decide_eq_decide.2 (gv_pos hm hc hj)
  have hf : (List.range 24).filter (fun a => ((fun i => decide (0 < getP t.1 t.2 i)) ∘ Int.ofNat) a && ((fun i => decide ((s : Int) ≤ i)) ∘ Int.ofNat) a && takeB (-1) (pgE (m a))) = (List.range 24).filter fun j => decide (s ≤ j) && decide (0 ≤ (m j).1) := by
    refine List.filter_congr fun j hj => ?_
    have hj' := List.mem_range.1 hj
    show (decide (0 < getP t.1 t.2 (Int.ofNat j)) && decide ((s : Int) ≤ Int.ofNat j) && takeB (-1) (pgE (m j))) = _
    rw [he j hj', take_all m hm j]
    have ok := hm.pg j
    unfold pgE
    by_cases a : 0 ≤ (m j).1
    · rw [if_pos a]
      have : ¬ (m j).1 + 1 = 0 := by omega
      by_cases b : s ≤ j
      · simp [a, b, this]
      · simp [a, b]
    · simp [a]
  rw [hf]
  refine List.map_congr_left fun j hj => ?_
  have hj' := List.mem_filter.1 hj
  have h24 := List.mem_range.1 hj'.1
  have h0 : 0 ≤ (m j).1 := by have := hj'.2; simp at this; exact this.2
  show getP t.1 t.2 (Int.ofNat j) - 1 = (m j).1
  rw [show getP t.1 t.2 (Int.ofNat j) = _ from cm_get hc h24]
  unfold pgE
  rw [if_pos h0]
  show (m j).1 + 1 - 1 = _
  omega
theorem cm_frames (hm : okM m) (hc : Cp (mF m) t) : framesP t.1 t.2 = goneM m 0 24 := by
  unfold framesP
  rw [if_neg (by simp [cm_check hm hc]), ← framesL_gone hm hc 0]
  congr 1
  refine (List.filter_eq_self.2 fun i hi => ?_).symm
  have := (each_at hi).1
  simp; omega
theorem cm_next (hm : okM m) (hc : Cp (mF m) t) : dirtyP t.1 t.2 0 = dirtyM m 24 := by
  unfold dirtyP
  rw [if_neg (by simp [cm_check hm hc]), next_first, cm_each hc (by omega) (by omega)]
  unfold dirtyM
  rw [show (List.range 24).filter (fun j => takeB 0 (pgE (m j))) = (List.range 24).filter fun j => (m j).2.2 from List.filter_congr fun j _ => take_dirty hm j]
end

/-- The map with the pages from s to k cut off. -/
def cutM (m : Nat → Pg) (s k : Nat) : Nat → Pg := fun j => if s ≤ j ∧ j < k then pg0 else m j
theorem cutM_start (m : Nat → Pg) (s : Nat) : cutM m s s = m := by
  funext j
  unfold cutM
  rw [if_neg (by omega)]
theorem cutM_succ (m : Nat → Pg) {s k : Nat} (h : s ≤ k) : cutM m s (k + 1) = updM (cutM m s k) k pg0 := by
  funext j
  unfold cutM
  by_cases e : j = k
  · subst e; rw [if_pos (by omega), updM_same]
  · rw [updM_other _ _ _ e]
    by_cases hj : s ≤ j ∧ j < k
    · rw [if_pos hj, if_pos (by omega)]
    · rw [if_neg hj, if_neg (by omega)]
theorem cutM_at (m : Nat → Pg) (s k : Nat) : cutM m s k k = m k := by
  unfold cutM
  rw [if_neg (by omega)]
theorem okM_cut {m : Nat → Pg} (hm : okM m) (s k : Nat) : okM (cutM m s k) := by
  have f : ∀ i, 0 ≤ (cutM m s k i).1 → cutM m s k i = m i := fun i h => by
    unfold cutM at h ⊢
    by_cases e : s ≤ i ∧ i < k
    · rw [if_pos e] at h; exact absurd h (by decide)
    · rw [if_neg e]
  refine ⟨fun i => ?_, fun i j hi hj h0 he => ?_⟩
  · unfold cutM
    split
    · exact ok0
    · exact hm.pg i
  · have h1 := f i h0
    have h2 := f j (by rw [← he]; exact h0)
    rw [h1] at h0 he
    rw [h2] at he
    exact hm.inj i j hi hj h0 he
/-- What Truncate leaves of a map. -/
theorem cm_cut {m : Nat → Pg} {t : Nat × RN} (hm : okM m) (hc : Cp (mF m) t) {s : Nat} (hs : s ≤ 24) :
    ∃ u : Nat × RN, truncP t.1 t.2 s = (((u.1 : Int), u.2), goneM m s 24, 0) ∧ Cp (mF (cutM m s 24)) u := by
  refine ⟨trT t.1 t.2 s (eachL t.1 t.2 (-1)), ?_, ?_⟩
  · unfold truncP
    rw [if_neg (by simp [cm_check hm hc]), if_neg (by omega), ← framesL_gone hm hc s]
    rfl
  · refine (trunc_cp hc.1 s).congr fun j => ?_
    unfold cutE mF cutM
    by_cases hj : j < 24
    · rw [if_pos hj]
      by_cases e : (s : Int) ≤ j
      · rw [if_pos e, if_pos (by omega)]; rfl
      · rw [if_neg e, if_neg (by omega), hc.2 j]; unfold mF; rw [if_pos hj]
    · rw [if_neg hj]
      split
      · rfl
      · rw [hc.2 j]; unfold mF; rw [if_neg hj]
end Go.Proofs.Ytcicfijpfhbcaaa
