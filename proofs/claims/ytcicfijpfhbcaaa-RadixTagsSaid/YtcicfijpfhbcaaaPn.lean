/-
  What the reference's Next, Count and List say, in terms of the entries in order. No program.
-/
import Derived.Test.YtcicfijpfhbcaaaLi
namespace Go.Proofs.Ytcicfijpfhbcaaa
set_option linter.unusedSimpArgs false
set_option linter.unusedVariables false
set_option linter.unusedSectionVars false

theorem ent3_ents (m : Nat) (x : RN) (first : Int) : ents m x first = (ent3 m x first).map fun e => (e.1, e.2.2) := by
  rw [ents_all, ent3_all, List.map_flatMap]
  refine flatMap_congr' fun j _ => ?_
  unfold rowE row3
  split <;> rfl
theorem has_sel {tag : Int} (t0 : -1 ≤ tag) (t1 : tag ≤ 1) : ∀ (i : Int) (e : Ent), hasB tag (tgE e) = selB tag (i, tgE e) := fun i e => by
  have hb := bits_tab e.2.1 e.2.2
  have ht : tag = -1 ∨ tag = 0 ∨ tag = 1 := by omega
  have h01 : ∀ z : Int, z = 0 ∨ z = 1 → (z == 1) = !(z == 0) := by intro z hz; rcases hz with rfl | rfl <;> rfl
  have h2 : ∀ a b : Bool, bits .and .i64 ((if a then 1 else 0) + (if b then 1 else 0) * 2) 1 = (if a then 1 else 0) ∧ bits .and .i64 (((if a then 1 else 0) + (if b then 1 else 0) * 2) / 2) 1 = (if b then 1 else 0) := by decide +kernel
  have h3 := h2 e.2.1 e.2.2
  rcases ht with rfl | rfl | rfl
  · simp [hasB, selB]
  · unfold hasB selB tgE
    simp only [Int.toNat_zero, Int.pow_zero, Int.ediv_one, h3.1]
    cases e.2.1 <;> rfl
  · unfold hasB selB tgE
    have e1 : (2 : Int) ^ (1 : Int).toNat = 2 := rfl
    simp only [e1, h3.2]
    cases e.2.2 <;> rfl
/-- The entries of a tree that have the tag. -/
theorem each_ent {ht : Int} {x : RN} {tag : Int} (t0 : -1 ≤ tag) (t1 : tag ≤ 1) : eachL ht x tag = ((entT ht x).filter fun e => hasB tag e.2.2).map fun e => e.1 := by
  unfold eachL entT
  by_cases hn : checkP ht x ≠ 0 ∨ ht = 0
  · rw [if_pos (by omega), if_pos hn]; rfl
  · rw [if_neg (by omega), if_neg hn, ent3_ents]
    unfold sel
    rw [List.filter_map, List.map_map]
    have : ((ent3 (ht.toNat - 1) x 0).filter (selB tag ∘ fun e => (e.1, e.2.2))) = (ent3 (ht.toNat - 1) x 0).filter fun e => hasB tag e.2.2 := by
      refine List.filter_congr fun e he => ?_
      rw [ent3_all] at he
      obtain ⟨j, -, hj⟩ := List.mem_flatMap.1 he
      unfold row3 at hj
      split at hj
      · cases hj
      · rw [List.mem_singleton] at hj
        subst hj
        exact (has_sel t0 t1 _ _).symm
    rw [this]
    rfl
theorem has_all (t : Int) : hasB (-1) t = true := rfl
theorem each_list (ht : Int) (x : RN) : eachL ht x (-1) = idxL (entT ht x) := by
  rw [each_ent (by omega) (by omega)]
  have : ((entT ht x).filter fun e => hasB (-1) e.2.2) = entT ht x := List.filter_eq_self.2 fun _ _ => rfl
  rw [this]; rfl
theorem ent_asc (ht : Int) (x : RN) : (entT ht x).Pairwise fun a b => a.1 < b.1 := by
  have := each_asc ht x (-1)
  rw [each_list] at this
  unfold idxL at this
  rwa [List.pairwise_map] at this

theorem from_find {tag frm : Int} : ∀ {l : List E3}, (l.Pairwise fun a b => a.1 < b.1) → (((l.filter fun e => hasB tag e.2.2).map fun e => e.1).find? fun i => decide (frm ≤ i)).getD (-1) = idxE (fromE l tag (atP l frm))
  | [], _ => rfl
  | a :: l, h => by
    have hh := List.pairwise_cons.1 h
    have ih := from_find (tag := tag) (frm := frm) hh.2
    by_cases ha : a.1 < frm
    · have e1 : atP (a :: l) frm = atP l frm + 1 := by unfold atP; rw [List.takeWhile_cons_of_pos (by simpa using ha), List.length_cons]
      have e2 : fromE (a :: l) tag (atP l frm + 1) = fromE l tag (atP l frm) := rfl
      rw [e1, e2, ← ih, List.filter_cons]
      split
      · rw [List.map_cons, List.find?_cons_of_neg (by simp; omega)]
      · rfl
    · have e1 : atP (a :: l) frm = 0 := by unfold atP; rw [List.takeWhile_cons_of_neg (by simpa using ha)]; rfl
      rw [e1]
      unfold fromE
      have e3 : (a :: l).find? (fun e => hasB tag e.2.2) = ((a :: l).filter fun e => hasB tag e.2.2).head? := by rw [List.head?_filter]
      rw [List.drop_zero, e3]
      have hall : ∀ b ∈ (a :: l).filter fun e => hasB tag e.2.2, frm ≤ b.1 := fun b hb => by
        have hb' := (List.mem_filter.1 hb).1
        rcases List.mem_cons.1 hb' with rfl | hb'
        · omega
        · have := hh.1 b hb'; omega
      generalize (a :: l).filter (fun e => hasB tag e.2.2) = m at hall
      cases m with
      | nil => rfl
      | cons b m =>
        have := hall b (List.mem_cons_self ..)
        rw [List.map_cons, List.find?_cons_of_pos (by simpa using this)]
        rfl
theorem next_ref (ht : Int) (x : RN) (frm tag : Int) : nextP ht x frm tag = refNext ht x frm tag := by
  unfold refNext
  by_cases hn : frm < 0 ∨ tag < -1 ∨ 1 < tag
  · rw [if_pos hn]
    by_cases h0 : frm < 0
    · unfold nextP; rw [if_pos h0]
    · rw [next_find ht x (by omega), each_none (.inr (by omega))]; rfl
  · rw [if_neg hn, next_find ht x (by omega), each_ent (by omega) (by omega)]
    exact from_find (ent_asc ht x)
theorem count_ref (ht : Int) (x : RN) (tag : Int) : countP ht x tag = refCount ht x tag := by
  unfold countP refCount
  by_cases hn : tag < -1 ∨ 1 < tag
  · rw [if_pos hn, each_none (.inr hn)]; rfl
  · rw [if_neg hn, each_ent (by omega) (by omega), List.length_map]
    unfold cntE
    rw [List.take_length]
end Go.Proofs.Ytcicfijpfhbcaaa
