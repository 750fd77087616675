/-
  Get, Tagged and Set in terms of the entries; the laws Order and Empties in plain words. No program.
-/
import Derived.Test.YtcicfijpfhbcaaaPt
namespace Go.Proofs.Ytcicfijpfhbcaaa
set_option linter.unusedSimpArgs false
set_option linter.unusedVariables false
set_option linter.unusedSectionVars false

theorem desc_lk (i : Nat) : ∀ (m : Nat) (x : RN), match descP (m + 1) x i with | some y => ent y (i % 8) = lk m x i | none => lk m x i = e0
  | 0, x => by
    have e : descP (0 + 1) x i = some x := by rw [descP, if_pos rfl]
    rw [e]; rfl
  | m + 1, x => by
    have hd : (digB (i : Int) (((m + 1 : Nat) : Int) + 1)).toNat = i / 8 ^ (m + 1) % 8 := by
      rw [show ((m + 1 : Nat) : Int) + 1 = (m : Int) + 2 by omega]; exact dig_up i m
    cases ha : absentB (x.kid (i / 8 ^ (m + 1) % 8))
    · have e : descP (m + 1 + 1) x i = descP (m + 1) (x.kid (i / 8 ^ (m + 1) % 8)) i := by rw [descP, if_neg (by omega), hd, if_neg (by rw [ha]; decide)]
      rw [e]
      exact desc_lk i m _
    · have e : descP (m + 1 + 1) x i = none := by rw [descP, if_neg (by omega), hd, if_pos ha]
      rw [e]
      exact lk_absent m ha i

theorem leaf_tl {h : Nat} {x : RN} (ht : okT h x) {i : Nat} (hi : i < 1073741824) : match leafP h x i with | some y => ent y (i % 8) = tl h x i | none => tl h x i = e0 := by
  have hc := check_iff.2 ht
  unfold leafP
  have hp : (3 * (h : Int)).toNat = 3 * h := by omega
  rw [hp]
  have e : (i : Int) / 2 ^ (3 * h) = ((i / 8 ^ h : Nat) : Int) := by rw [← pow2_8]; push_cast; rfl
  rw [e]
  by_cases h0 : h = 0
  · subst h0
    rw [if_neg (by omega)]; rfl
  · obtain ⟨m, rfl⟩ : ∃ m, h = m + 1 := ⟨h - 1, by omega⟩
    by_cases hlt : i < 8 ^ (m + 1)
    · rw [if_pos ⟨hc, by omega, by omega, by rw [Nat.div_eq_of_lt hlt]; simp, by omega⟩, tl_succ, if_pos hlt]
      exact desc_lk i m x
    · have h1 : 1 ≤ i / 8 ^ (m + 1) := (Nat.one_le_div_iff (pow8_pos _)).2 (by omega)
      rw [if_neg (by omega), tl_succ, if_neg hlt]
theorem get_tl {h : Nat} {x : RN} (ht : okT h x) {i : Nat} (hi : i < 1073741824) : getP h x i = (tl h x i).1 := by
  have := leaf_tl ht hi
  unfold getP
  cases hl : leafP h x i with
  | none => rw [hl] at this; have h2 : tl h x i = e0 := this; rw [h2]; rfl
  | some y => rw [hl] at this; have h2 : ent y (i % 8) = tl h x i := this; rw [← h2]; show y.v (digB i 1).toNat = y.v (i % 8); rw [dig_one]

theorem lk_zero : ∀ (m : Nat) {x : RN}, okQ m x → ∀ i, (lk m x i).1 = 0 → lk m x i = e0
  | 0, x, h, i, hz => by
    have hv : x.v (i % 8) = 0 := hz
    obtain ⟨h0, h1⟩ := h.leaf.2.2.2 (i % 8) (Nat.mod_lt _ (by omega)) hv
    rw [lk, ent, hv, h0, h1]; rfl
  | m + 1, x, h, i, hz => lk_zero m (h.kid (i := i / 8 ^ (m + 1) % 8) (Nat.mod_lt _ (by omega))).q i hz
theorem okT.q {m : Nat} {x : RN} (h : okT (m + 1) x) : okQ m x := by
  rcases h with h | h
  · omega
  · exact .inr h.2.2.1.1
theorem tl_zero {h : Nat} {x : RN} (ht : okT h x) {i : Nat} (hz : (tl h x i).1 = 0) : tl h x i = e0 := by
  rcases Nat.eq_zero_or_pos h with h0 | h0
  · subst h0; rfl
  · obtain ⟨m, rfl⟩ : ∃ m, h = m + 1 := ⟨h - 1, by omega⟩
    rw [tl_succ] at hz ⊢
    split
    · rename_i hlt; rw [if_pos hlt] at hz; exact lk_zero m ht.q i hz
    · rfl

/-- The tree that Set leaves. -/
def stepT (t : Nat × RN) (i : Nat) (v : Int) : Nat × RN := if v = 0 ∧ getP t.1 t.2 i = 0 then t else setN t.1 t.2 i v
theorem step_ok {t : Nat × RN} (ht : okT t.1 t.2) {i : Nat} (hi : i < 1073741824) (v : Int) :
    okT (stepT t i v).1 (stepT t i v).2 ∧ (∀ j, tl (stepT t i v).1 (stepT t i v).2 j = if j = i then setE v (tl t.1 t.2 i) else tl t.1 t.2 j) ∧
    setP t.1 t.2 i v = (((stepT t i v).1 : Int), (stepT t i v).2, 0) := by
  have hc := check_iff.2 ht
  by_cases hno : v = 0 ∧ getP t.1 t.2 i = 0
  · have e : stepT t i v = t := if_pos hno
    rw [e]
    refine ⟨ht, fun j => ?_, ?_⟩
    · have hz : tl t.1 t.2 i = e0 := tl_zero ht (by rw [← get_tl ht hi]; exact hno.2)
      by_cases hj : j = i
      · rw [if_pos hj, hj, hz, setE, if_pos hno.1]
      · rw [if_neg hj]
    · unfold setP
      rw [if_neg (by simp [hc]), if_neg (by omega), if_pos hno]
  · have e : stepT t i v = setN t.1 t.2 i v := if_neg hno
    rw [e]
    have := setN_ok ht i hi v
    refine ⟨this.1, this.2, ?_⟩
    unfold setP
    rw [if_neg (by simp [hc]), if_neg (by omega), if_neg hno]
    rfl

theorem setE_twice (v : Int) (e : Ent) : setE v (setE v e) = setE v e := by unfold setE; split <;> rfl
theorem okT_zero : okT 0 zeroN := .inl ⟨rfl, absent_zeroN⟩
/-- Sets one after the other: at index f i the value v (f i). -/
def fillT (f : Nat → Nat) (v : Nat → Int) (l : List Nat) (t : Nat × RN) : Nat × RN := l.foldl (fun t i => stepT t (f i) (v (f i))) t
theorem fillT_snoc (f : Nat → Nat) (v : Nat → Int) (l : List Nat) (i : Nat) (t : Nat × RN) : fillT f v (l ++ [i]) t = stepT (fillT f v l t) (f i) (v (f i)) := by simp [fillT]
open Classical in
theorem fill_ok (f : Nat → Nat) (v : Nat → Int) : ∀ (l : List Nat) (t : Nat × RN), (∀ i ∈ l, f i < 1073741824) → okT t.1 t.2 →
    okT (fillT f v l t).1 (fillT f v l t).2 ∧ ∀ j, tl (fillT f v l t).1 (fillT f v l t).2 j = if ∃ i, i ∈ l ∧ f i = j then setE (v j) (tl t.1 t.2 j) else tl t.1 t.2 j
  | [], t, _, ht => ⟨ht, fun j => by rw [if_neg (by simp)]; rfl⟩
  | i :: l, t, hl, ht => by
    have hs := step_ok ht (hl i (List.mem_cons_self ..)) (v (f i))
    have ih := fill_ok f v l (stepT t (f i) (v (f i))) (fun k hk => hl k (List.mem_cons_of_mem _ hk)) hs.1
    refine ⟨ih.1, fun j => ?_⟩
    have e : fillT f v (i :: l) t = fillT f v l (stepT t (f i) (v (f i))) := rfl
    rw [e, ih.2 j, hs.2.1 j]
    by_cases hj : f i = j
    · have h1 : ∃ k, k ∈ i :: l ∧ f k = j := ⟨i, List.mem_cons_self .., hj⟩
      have hj' : j = f i := hj.symm
      rw [if_pos h1, if_pos hj']
      subst hj
      split
      · rw [setE_twice]
      · rfl
    · have hj' : ¬ j = f i := fun q => hj q.symm
      have hiff : (∃ k, k ∈ i :: l ∧ f k = j) ↔ ∃ k, k ∈ l ∧ f k = j := by
        constructor
        · rintro ⟨k, hk, hf⟩
          rcases List.mem_cons.1 hk with rfl | hk
          · exact absurd hf hj
          · exact ⟨k, hk, hf⟩
        · rintro ⟨k, hk, hf⟩; exact ⟨k, List.mem_cons_of_mem _ hk, hf⟩
      simp only [hiff, if_neg hj']

/-- Order: the tree depends on the set of the indices alone. -/
def ordT (l : List Nat) : Nat × RN := fillT id (fun j => 1 + (j : Int)) l (0, zeroN)
theorem ord_same {l l' : List Nat} (hl : ∀ i ∈ l, i < 1073741824) (h : ∀ j, j ∈ l ↔ j ∈ l') : (ordT l).1 = (ordT l').1 ∧ sameB (ordT l).2 (ordT l').2 = true := by
  have h1 := fill_ok id (fun j => 1 + (j : Int)) l (0, zeroN) hl okT_zero
  have h2 := fill_ok id (fun j => 1 + (j : Int)) l' (0, zeroN) (fun i hi => hl i ((h i).2 hi)) okT_zero
  refine tree_canon h1.1 h2.1 fun j => ?_
  refine (h1.2 j).trans (Eq.trans ?_ (h2.2 j).symm)
  have hiff : (∃ i, i ∈ l ∧ id i = j) ↔ ∃ i, i ∈ l' ∧ id i = j := by simp [h]
  simp only [hiff]
/-- Empties: all entries set and removed again: the empty tree. -/
def empT (l : List Nat) : Nat × RN := fillT (fun i => i * 16384) (fun _ => 0) l (fillT (fun i => i * 16384) (fun _ => -7) l (0, zeroN))
theorem emp_zero {l : List Nat} (hl : ∀ i ∈ l, i < 65536) : (empT l).1 = 0 ∧ sameB (empT l).2 zeroN = true := by
  have hb : ∀ i ∈ l, i * 16384 < 1073741824 := fun i hi => by have := hl i hi; omega
  have h1 := fill_ok (fun i => i * 16384) (fun _ => -7) l (0, zeroN) hb okT_zero
  have h2 := fill_ok (fun i => i * 16384) (fun _ => 0) l _ hb h1.1
  refine tree_canon h2.1 okT_zero fun j => ?_
  refine (h2.2 j).trans ?_
  rw [h1.2 j]
  show _ = e0
  split
  · rw [setE, if_pos rfl]
  · rfl
theorem emp_absent {l : List Nat} (hl : ∀ i ∈ l, i < 65536) : okT (empT l).1 (empT l).2 := by
  have hb : ∀ i ∈ l, i * 16384 < 1073741824 := fun i hi => by have := hl i hi; omega
  exact (fill_ok (fun i => i * 16384) (fun _ => 0) l _ hb (fill_ok (fun i => i * 16384) (fun _ => -7) l (0, zeroN) hb okT_zero).1).1
end Go.Proofs.Ytcicfijpfhbcaaa
