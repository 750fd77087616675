/-
  Valid trees, in plain words: okP, okN. No program.
-/
/-
  What stands at an index of a node, and what an update makes of it. No program.
-/
/-
  Trees: what stands at an index; the least height; Set and mark. No program.
-/
/-
  Get, Tagged and Set in terms of the entries; the laws Order and Empties in plain words. No program.
-/
import Derived.Test.YtcicfijpfhbcaaaMk
import Derived.Test.YtcicfijpfhbcaaaRb
namespace Go.Proofs.Ytcicfijpfhbcaaa
set_option linter.unusedSimpArgs false
set_option linter.unusedVariables false
set_option linter.unusedSectionVars false

def rng (t : Int) : Prop := 0 ≤ t ∧ t < 256
/-- Well formed for level m + 1, but for having an entry. -/
def okP : Nat → RN → Prop
  | 0, x => x.n = 0 ∧ rng x.t0 ∧ rng x.t1 ∧ ∀ i, i < 8 → x.v i = 0 → bitB x.t0 i = false ∧ bitB x.t1 i = false
  | m + 1, x => x.n = 8 ∧ rng x.t0 ∧ rng x.t1 ∧ (∀ i, i < 8 → x.v i = 0) ∧
      ∀ i, i < 8 → (absentB (x.kid i) = true ∨ okP m (x.kid i) ∧ emptyB (x.kid i) = false) ∧ bitB x.t0 i = ((x.kid i).t0 != 0) ∧ bitB x.t1 i = ((x.kid i).t1 != 0)
def okN (m : Nat) (x : RN) : Prop := okP m x ∧ emptyB x = false
def okA (m : Nat) (x : RN) : Prop := absentB x = true ∨ okN m x

theorem zero8_iff {f : Nat → Int} : zero8 f = true ↔ ∀ i, i < 8 → f i = 0 := by
  unfold zero8 zeroTo
  rw [List.all_eq_true]
  exact ⟨fun h i hi => by have := h i (List.mem_range.2 hi); simpa using this, fun h i hi => by simp [h i (List.mem_range.1 hi)]⟩
theorem absent_iff {x : RN} : absentB x = true ↔ x.n = 0 ∧ x.t0 = 0 ∧ x.t1 = 0 ∧ ∀ i, i < 8 → x.v i = 0 := by
  unfold absentB
  simp only [Bool.and_eq_true, beq_iff_eq, zero8_iff]
  exact ⟨fun h => ⟨h.1.1, h.1.2.1, h.1.2.2, h.2⟩, fun h => ⟨⟨h.1, h.2.1, h.2.2.1⟩, h.2.2.2⟩⟩
theorem allTo_iff {f : Nat → Bool} {k : Nat} : allTo f k = true ↔ ∀ i, i < k → f i = true := by
  unfold allTo
  rw [List.all_eq_true]
  exact ⟨fun h i hi => h i (List.mem_range.2 hi), fun h i hi => h i (List.mem_range.1 hi)⟩
theorem empty_iff {x : RN} : emptyB x = true ↔ (∀ i, i < 8 → x.v i = 0) ∧ ∀ i, i < x.n → emptyB (x.kid i) = true := by
  rw [emptyB_eq, Bool.and_eq_true, zero8_iff, allTo_iff]
theorem empty_of_absent {x : RN} (h : absentB x = true) : emptyB x = true := by
  obtain ⟨h1, -, -, h2⟩ := absent_iff.1 h
  exact empty_iff.2 ⟨h2, fun i hi => by omega⟩
theorem not_absent {x : RN} (h : emptyB x = false) : absentB x = false := by
  cases ha : absentB x
  · rfl
  · rw [empty_of_absent ha] at h; cases h
/-- An inner node is empty exactly if all its children are absent. -/
theorem empty_inner {m : Nat} {x : RN} (h : okP (m + 1) x) : emptyB x = true ↔ ∀ i, i < 8 → absentB (x.kid i) = true := by
  obtain ⟨hn, -, -, hv, hk⟩ := h
  rw [empty_iff, hn]
  refine ⟨fun h i hi => ?_, fun h => ⟨hv, fun i hi => empty_of_absent (h i hi)⟩⟩
  rcases (hk i hi).1 with h1 | ⟨-, h1⟩
  · exact h1
  · rw [h.2 i hi] at h1; cases h1
theorem empty_leaf {x : RN} (h : okP 0 x) : emptyB x = true ↔ ∀ i, i < 8 → x.v i = 0 := by
  rw [empty_iff, h.1]
  exact ⟨fun h => h.1, fun h => ⟨h, fun i hi => absurd hi (by omega)⟩⟩
theorem bitB_0 : ∀ i, i < 8 → bitB 0 i = false := by decide

theorem fin_iff {x : RN} {l : Int} : finB x l = true ↔ rng x.t0 ∧ rng x.t1 ∧ (1 < l ∨ x.n = 0) := by
  unfold finB rng
  simp only [Bool.and_eq_true, Bool.or_eq_true, decide_eq_true_eq, beq_iff_eq]
  omega
theorem tagTo_iff {x : RN} {l : Int} {i : Nat} : tagTo x l i 2 = true ↔ tagB x l i 0 = true ∧ tagB x l i 1 = true := by
  rw [tagTo_succ, tagTo_succ]
  simp [tagTo]
theorem okTo_iff {x : RN} {l : Int} {sub : Nat → Bool} : okTo x l sub 8 = true ↔ ∀ i, i < 8 → okB x l sub i = true := by
  unfold okTo
  rw [List.all_eq_true]
  exact ⟨fun h i hi => h i (List.mem_range.2 hi), fun h i hi => h i (List.mem_range.1 hi)⟩
theorem any_iff {f : Nat → Bool} {k : Nat} : (List.range k).any f = true ↔ ∃ i, i < k ∧ f i = true := by
  rw [List.any_eq_true]
  exact ⟨fun ⟨i, h1, h2⟩ => ⟨i, List.mem_range.1 h1, h2⟩, fun ⟨i, h1, h2⟩ => ⟨i, List.mem_range.2 h1, h2⟩⟩

theorem valid_iff : ∀ (m : Nat) (x : RN), validB x ((m : Int) + 1) = true ↔ okN m x
  | 0, x => by
    rw [validB_eq]
    unfold validW
    rw [Bool.and_eq_true, Bool.and_eq_true, Bool.and_eq_true, okTo_iff, fin_iff, anyB, any_iff]
    have e1 : ¬ (1 : Int) < ((0 : Nat) : Int) + 1 := by omega
    have e2 : ∀ i, okB x (((0 : Nat) : Int) + 1) (fun i => validB (x.kid i) (((0 : Nat) : Int) + 1 - 1)) i = true ↔ (x.v i = 0 → bitB x.t0 i = false ∧ bitB x.t1 i = false) := fun i => by
      simp only [okB, tagTo_iff, tagB, exB, e1, decide_false, if_false, RN.t_0, RN.t_1, Bool.not_false, Bool.true_or, Bool.true_and, Bool.and_true, Bool.or_eq_true, Bool.not_eq_true', bne_iff_ne, ne_eq]
      constructor
      · rintro ⟨h1, h2⟩ h0
        exact ⟨h1.resolve_right (fun h => h h0), h2.resolve_right (fun h => h h0)⟩
      · intro h
        by_cases h0 : x.v i = 0
        · exact ⟨.inl (h h0).1, .inl (h h0).2⟩
        · exact ⟨.inr h0, .inr h0⟩
    simp only [e2, exB, e1, if_false, bne_iff_ne, ne_eq, false_or]
    constructor
    · rintro ⟨⟨⟨-, h2⟩, i, hi, h3⟩, h4, h5, h6⟩
      have ho : okP 0 x := ⟨h6, h4, h5, h2⟩
      refine ⟨ho, ?_⟩
      cases he : emptyB x
      · rfl
      · exact absurd ((empty_leaf ho).1 he i hi) h3
    · rintro ⟨ho, he⟩
      have hne : ∃ i, i < 8 ∧ ¬ x.v i = 0 := by
        refine Classical.byContradiction fun hh => ?_
        have : emptyB x = true := (empty_leaf ho).2 fun i hi => Classical.byContradiction fun hn => hh ⟨i, hi, hn⟩
        rw [he] at this; cases this
      exact ⟨⟨⟨by rw [not_absent he]; rfl, ho.2.2.2⟩, hne⟩, ho.2.1, ho.2.2.1, ho.1⟩
  | m + 1, x => by
    rw [validB_eq]
    unfold validW
    rw [Bool.and_eq_true, Bool.and_eq_true, Bool.and_eq_true, okTo_iff, fin_iff, anyB, any_iff]
    have e1 : (1 : Int) < ((m + 1 : Nat) : Int) + 1 := by omega
    have e3 : ((m + 1 : Nat) : Int) + 1 - 1 = (m : Int) + 1 := by omega
    have e2 : ∀ i, i < 8 → (okB x (((m + 1 : Nat) : Int) + 1) (fun i => validB (x.kid i) (((m + 1 : Nat) : Int) + 1 - 1)) i = true ↔
        x.n = 8 ∧ x.v i = 0 ∧ (absentB (x.kid i) = true ∨ okP m (x.kid i) ∧ emptyB (x.kid i) = false) ∧ bitB x.t0 i = ((x.kid i).t0 != 0) ∧ bitB x.t1 i = ((x.kid i).t1 != 0)) := fun i hi => by
      have ih := valid_iff m (x.kid i)
      simp only [okB, tagTo_iff, tagB, exB, e1, e3, decide_true, if_true, RN.t_0, RN.t_1, Bool.not_true, Bool.false_or, Bool.and_eq_true, Bool.or_eq_true, Bool.not_eq_true', beq_iff_eq, ih]
      unfold okN
      constructor
      · rintro ⟨⟨⟨h1, h2⟩, h3⟩, ⟨h4, h5⟩, h6, h7⟩
        exact ⟨h1, h2, h3, h5, h7⟩
      · rintro ⟨h1, h2, h3, h5, h7⟩
        have hz : absentB (x.kid i) = true → (x.kid i).t0 = 0 ∧ (x.kid i).t1 = 0 := fun h => ⟨(absent_iff.1 h).2.1, (absent_iff.1 h).2.2.1⟩
        cases ha : absentB (x.kid i)
        · exact ⟨⟨⟨h1, h2⟩, by rw [ha] at h3; exact h3⟩, ⟨.inr rfl, h5⟩, .inr rfl, h7⟩
        · obtain ⟨z0, z1⟩ := hz ha
          exact ⟨⟨⟨h1, h2⟩, .inl rfl⟩, ⟨.inl (by rw [h5, z0]; rfl), h5⟩, .inl (by rw [h7, z1]; rfl), h7⟩
    constructor
    · rintro ⟨⟨⟨-, h2⟩, i, hi, h3⟩, h4, h5, -⟩
      have h2' := fun i hi => (e2 i hi).1 (h2 i hi)
      have ho : okP (m + 1) x := ⟨(h2' 0 (by omega)).1, h4, h5, fun i hi => (h2' i hi).2.1, fun i hi => (h2' i hi).2.2⟩
      refine ⟨ho, ?_⟩
      cases he : emptyB x
      · rfl
      · have := (empty_inner ho).1 he i hi
        rw [exB, if_pos e1, this] at h3; cases h3
    · rintro ⟨ho, he⟩
      have hne : ∃ i, i < 8 ∧ exB x (((m + 1 : Nat) : Int) + 1) i = true := by
        refine Classical.byContradiction fun hh => ?_
        have : emptyB x = true := (empty_inner ho).2 fun i hi => Classical.byContradiction fun hn => hh ⟨i, hi, by rw [exB, if_pos e1]; simp [hn]⟩
        rw [he] at this; cases this
      exact ⟨⟨⟨by rw [not_absent he]; rfl, fun i hi => (e2 i hi).2 ⟨ho.1, ho.2.2.2.1 i hi, ho.2.2.2.2 i hi⟩⟩, hne⟩, ho.2.1, ho.2.2.1, .inl e1⟩

theorem tagsIn_iff {x : RN} : tagsIn x = true ↔ rng x.t0 ∧ rng x.t1 := by
  unfold tagsIn rng
  simp only [Bool.and_eq_true, decide_eq_true_eq]
  omega
/-- The reference's 'shape' says the same. -/
theorem shape_iff : ∀ (m : Nat) (x : RN), shapeB x ((m : Int) + 1) = true ↔ okN m x
  | 0, x => by
    rw [shapeB_eq]
    unfold shapeW
    rw [if_pos (by omega), Bool.and_eq_true, Bool.and_eq_true, Bool.and_eq_true, tagsIn_iff]
    unfold leafW lfTo anyTo
    rw [Bool.and_eq_true, any_iff, List.all_eq_true]
    have e2 : ∀ i, lfOk x i = true ↔ (x.v i = 0 → bitB x.t0 i = false ∧ bitB x.t1 i = false) := fun i => by
      unfold lfOk
      rw [Bool.not_eq_true']
      cases h : bitB x.t0 i <;> cases h' : bitB x.t1 i <;> simp
    simp only [e2, bne_iff_ne, ne_eq, beq_iff_eq]
    constructor
    · rintro ⟨⟨⟨h4, h5⟩, -⟩, h6, h2, i, hi, h3⟩
      have ho : okP 0 x := ⟨by omega, h4, h5, fun i hi => h2 i (List.mem_range.2 hi)⟩
      refine ⟨ho, ?_⟩
      cases he : emptyB x
      · rfl
      · exact absurd ((empty_leaf ho).1 he i hi) h3
    · rintro ⟨ho, he⟩
      have hne : ∃ i, i < 8 ∧ ¬ x.v i = 0 := by
        refine Classical.byContradiction fun hh => ?_
        have : emptyB x = true := (empty_leaf ho).2 fun i hi => Classical.byContradiction fun hn => hh ⟨i, hi, hn⟩
        rw [he] at this; cases this
      exact ⟨⟨⟨ho.2.1, ho.2.2.1⟩, by rw [not_absent he]; rfl⟩, by have := ho.1; omega, fun i hi => ho.2.2.2 i (List.mem_range.1 hi), hne⟩
  | m + 1, x => by
    rw [shapeB_eq]
    unfold shapeW
    have e3 : ((m + 1 : Nat) : Int) + 1 - 1 = (m : Int) + 1 := by omega
    rw [if_neg (by omega), Bool.and_eq_true, Bool.and_eq_true, Bool.and_eq_true, Bool.and_eq_true, Bool.and_eq_true, tagsIn_iff, allTo_iff, zero8_iff, someTo, any_iff]
    have e2 : ∀ i, i < 8 → (shOk x (fun i => shapeB (x.kid i) (((m + 1 : Nat) : Int) + 1 - 1)) i = true ↔
        (absentB (x.kid i) = true ∨ okP m (x.kid i) ∧ emptyB (x.kid i) = false) ∧ bitB x.t0 i = ((x.kid i).t0 != 0) ∧ bitB x.t1 i = ((x.kid i).t1 != 0)) := fun i hi => by
      have ih := shape_iff m (x.kid i)
      unfold shOk
      cases ha : absentB (x.kid i)
      · simp only [e3, Bool.false_eq_true, if_false, Bool.and_eq_true, beq_iff_eq, ih, false_or]
        unfold okN
        exact ⟨fun h => ⟨h.1.1, h.1.2, h.2⟩, fun h => ⟨⟨h.1, h.2.1⟩, h.2.2⟩⟩
      · have z0 := (absent_iff.1 ha).2.1
        have z1 := (absent_iff.1 ha).2.2.1
        simp [z0, z1]
    simp only [beq_iff_eq]
    constructor
    · rintro ⟨⟨⟨h4, h5⟩, -⟩, ⟨⟨h1, h2⟩, h6⟩, i, hi, h3⟩
      have ho : okP (m + 1) x := ⟨by omega, h4, h5, h2, fun i hi => (e2 i hi).1 (h6 i hi)⟩
      refine ⟨ho, ?_⟩
      cases he : emptyB x
      · rfl
      · have := (empty_inner ho).1 he i hi
        simp [this] at h3
    · rintro ⟨ho, he⟩
      have hne : ∃ i, i < 8 ∧ (!absentB (x.kid i)) = true := by
        refine Classical.byContradiction fun hh => ?_
        have : emptyB x = true := (empty_inner ho).2 fun i hi => Classical.byContradiction fun hn => hh ⟨i, hi, by simp [hn]⟩
        rw [he] at this; cases this
      exact ⟨⟨⟨ho.2.1, ho.2.2.1⟩, by rw [not_absent he]; rfl⟩, ⟨⟨by have := ho.1; omega, ho.2.2.2.1⟩, fun i hi => (e2 i hi).2 (ho.2.2.2.2 i hi)⟩, hne⟩
theorem shape_valid (l : Int) (x : RN) (h : 1 ≤ l) : shapeB x l = validB x l := by
  obtain ⟨m, rfl⟩ : ∃ m : Nat, l = (m : Int) + 1 := ⟨(l - 1).toNat, by omega⟩
  rw [Bool.eq_iff_iff, shape_iff, valid_iff]
end Go.Proofs.Ytcicfijpfhbcaaa
namespace Go.Proofs.Ytcicfijpfhbcaaa
set_option linter.unusedSimpArgs false
set_option linter.unusedVariables false
set_option linter.unusedSectionVars false

/-- An entry: value and tags. -/
abbrev Ent := Int × Bool × Bool
def e0 : Ent := (0, false, false)
def ent (x : RN) (d : Nat) : Ent := (x.v d, bitB x.t0 d, bitB x.t1 d)
/-- The entry at an index, below a node of level m + 1. -/
def lk : Nat → RN → Nat → Ent
  | 0, x, i => ent x (i % 8)
  | m + 1, x, i => lk m (x.kid (i / 8 ^ (m + 1) % 8)) i

theorem lk_congr : ∀ (m : Nat) (x : RN) (i j : Nat), i % 8 ^ (m + 1) = j % 8 ^ (m + 1) → lk m x i = lk m x j
  | 0, x, i, j, h => by
    have h' : i % 8 = j % 8 := by simpa using h
    rw [lk, lk, h']
  | m + 1, x, i, j, h => by
    have e : (8 : Nat) ^ (m + 2) = 8 ^ (m + 1) * 8 := Nat.pow_succ ..
    have h1 : i / 8 ^ (m + 1) % 8 = j / 8 ^ (m + 1) % 8 := by
      rw [← Nat.mod_mul_right_div_self, ← Nat.mod_mul_right_div_self, ← e]
      have h' : i % 8 ^ (m + 2) = j % 8 ^ (m + 2) := h
      rw [h']
    have h2 : i % 8 ^ (m + 1) = j % 8 ^ (m + 1) := by
      have hd : 8 ^ (m + 1) ∣ 8 ^ (m + 2) := ⟨8, e⟩
      have h' : i % 8 ^ (m + 2) = j % 8 ^ (m + 2) := h
      rw [← Nat.mod_mod_of_dvd i hd, ← Nat.mod_mod_of_dvd j hd, h']
    rw [lk, lk, h1]
    exact lk_congr m _ i j h2
theorem pow8_pos (m : Nat) : 0 < 8 ^ m := Nat.pow_pos (by omega)
/-- The index with digit k on top. -/
theorem dig_top {m k r : Nat} (hk : k < 8) (hr : r < 8 ^ (m + 1)) : (k * 8 ^ (m + 1) + r) / 8 ^ (m + 1) % 8 = k := by
  rw [Nat.add_comm, Nat.add_mul_div_right _ _ (pow8_pos _), Nat.div_eq_of_lt hr, Nat.zero_add, Nat.mod_eq_of_lt hk]
theorem lk_top {m k r : Nat} (x : RN) (hk : k < 8) (hr : r < 8 ^ (m + 1)) : lk (m + 1) x (k * 8 ^ (m + 1) + r) = lk m (x.kid k) r := by
  rw [lk, dig_top hk hr]
  exact lk_congr m _ _ _ (by rw [Nat.mul_comm, Nat.mul_add_mod])

set_option maxRecDepth 100000 in
theorem clr_tab : ∀ t : Fin 256, ∀ d : Fin 8, (0 ≤ clr (t.1 : Int) d.1 ∧ clr (t.1 : Int) d.1 < 256) ∧ ∀ i : Fin 8, bitB (clr (t.1 : Int) d.1) i.1 = (!decide (i.1 = d.1) && bitB (t.1 : Int) i.1) := by decide +kernel
set_option maxRecDepth 100000 in
theorem put_tab : ∀ t : Fin 256, ∀ d : Fin 8, (0 ≤ put1 (t.1 : Int) d.1 ∧ put1 (t.1 : Int) d.1 < 256) ∧ ∀ i : Fin 8, bitB (put1 (t.1 : Int) d.1) i.1 = (decide (i.1 = d.1) || bitB (t.1 : Int) i.1) := by decide +kernel
def bsum (f : Nat → Bool) : Int := (if f 0 then 1 else 0) + (if f 1 then 2 else 0) + (if f 2 then 4 else 0) + (if f 3 then 8 else 0) + (if f 4 then 16 else 0) + (if f 5 then 32 else 0) + (if f 6 then 64 else 0) + (if f 7 then 128 else 0)
set_option maxRecDepth 100000 in
theorem sum_tab : ∀ t : Fin 256, (t.1 : Int) = bsum (bitB (t.1 : Int)) := by decide +kernel

theorem rng_fin {t : Int} (h : rng t) : ∃ k : Fin 256, t = (k.1 : Int) := ⟨⟨t.toNat, by unfold rng at h; omega⟩, by unfold rng at h; show t = (t.toNat : Int); omega⟩
theorem clr_rng {t : Int} (h : rng t) {d : Nat} (hd : d < 8) : rng (clr t d) := by
  obtain ⟨k, rfl⟩ := rng_fin h
  exact (clr_tab k ⟨d, hd⟩).1
theorem clr_bit {t : Int} (h : rng t) {d i : Nat} (hd : d < 8) (hi : i < 8) : bitB (clr t d) i = (!decide (i = d) && bitB t i) := by
  obtain ⟨k, rfl⟩ := rng_fin h
  exact (clr_tab k ⟨d, hd⟩).2 ⟨i, hi⟩
theorem put_rng {t : Int} (h : rng t) {d : Nat} (hd : d < 8) : rng (put1 t d) := by
  obtain ⟨k, rfl⟩ := rng_fin h
  exact (put_tab k ⟨d, hd⟩).1
theorem put_bit {t : Int} (h : rng t) {d i : Nat} (hd : d < 8) (hi : i < 8) : bitB (put1 t d) i = (decide (i = d) || bitB t i) := by
  obtain ⟨k, rfl⟩ := rng_fin h
  exact (put_tab k ⟨d, hd⟩).2 ⟨i, hi⟩
theorem bits_eq {t u : Int} (ht : rng t) (hu : rng u) (h : ∀ i, i < 8 → bitB t i = bitB u i) : t = u := by
  obtain ⟨k, rfl⟩ := rng_fin ht
  obtain ⟨l, rfl⟩ := rng_fin hu
  rw [sum_tab k, sum_tab l]
  unfold bsum
  rw [h 0 (by omega), h 1 (by omega), h 2 (by omega), h 3 (by omega), h 4 (by omega), h 5 (by omega), h 6 (by omega), h 7 (by omega)]
theorem rng_0 : rng 0 := by unfold rng; omega
theorem bits_zero {t : Int} (ht : rng t) (h : ∀ i, i < 8 → bitB t i = false) : t = 0 := bits_eq ht rng_0 fun i hi => by rw [h i hi, bitB_0 i hi]
theorem refT_eq (d : Nat) (kt t : Int) : refT d kt t = if kt != 0 then put1 (clr t d) d else clr t d := rfl
theorem refT_rng {t kt : Int} (h : rng t) {d : Nat} (hd : d < 8) : rng (refT d kt t) := by
  rw [refT_eq]
  cases kt != 0
  · exact clr_rng h hd
  · exact put_rng (clr_rng h hd) hd
theorem refT_bit {t kt : Int} (h : rng t) {d i : Nat} (hd : d < 8) (hi : i < 8) : bitB (refT d kt t) i = if i = d then (kt != 0) else bitB t i := by
  rw [refT_eq]
  cases hk : kt != 0
  · simp only [Bool.false_eq_true, if_false]
    rw [clr_bit h hd hi]
    by_cases e : i = d <;> simp [e]
  · simp only [if_true]
    rw [put_bit (clr_rng h hd) hd hi, clr_bit h hd hi]
    by_cases e : i = d <;> simp [e]

theorem ent_absent {x : RN} (h : absentB x = true) {d : Nat} (hd : d < 8) : ent x d = e0 := by
  obtain ⟨-, h0, h1, hv⟩ := absent_iff.1 h
  rw [ent, h0, h1, hv d hd, bitB_0 d hd]; rfl
theorem absent_zeroN : absentB zeroN = true := by decide
theorem kid_none {x : RN} (h : x.n = 0) (i : Nat) : x.kid i = zeroN := by
  cases x with
  | mk v t0 t1 n kid =>
    have : n = 0 := h
    subst this
    rfl
theorem lk_absent : ∀ (m : Nat) {x : RN}, absentB x = true → ∀ i, lk m x i = e0
  | 0, _, h, i => ent_absent h (Nat.mod_lt _ (by omega))
  | m + 1, x, h, i => by
    rw [lk, kid_none (absent_iff.1 h).1]
    exact lk_absent m absent_zeroN i
theorem lk_empty : ∀ (m : Nat) {x : RN}, okP m x → emptyB x = true → ∀ i, lk m x i = e0
  | 0, x, h, he, i => by
    have hv := (empty_leaf h).1 he (i % 8) (Nat.mod_lt _ (by omega))
    obtain ⟨h0, h1⟩ := h.2.2.2 (i % 8) (Nat.mod_lt _ (by omega)) hv
    rw [lk, ent, hv, h0, h1]; rfl
  | m + 1, x, h, he, i => by
    rw [lk]
    exact lk_absent m ((empty_inner h).1 he _ (Nat.mod_lt _ (by omega))) i

def okQ (m : Nat) (x : RN) : Prop := absentB x = true ∨ okP m x
theorem okA.q {m : Nat} {x : RN} (h : okA m x) : okQ m x := h.elim .inl fun h => .inr h.1
theorem okQ.leaf {x : RN} (h : okQ 0 x) : okP 0 x := by
  rcases h with h | h
  · obtain ⟨h1, h2, h3, -⟩ := absent_iff.1 h
    exact ⟨h1, by rw [h2]; exact rng_0, by rw [h3]; exact rng_0, fun i hi _ => by rw [h2, h3]; exact ⟨bitB_0 i hi, bitB_0 i hi⟩⟩
  · exact h
theorem okQ.n {m : Nat} {x : RN} (h : okQ (m + 1) x) : x.n = 0 ∨ x.n = 8 := h.elim (fun h => .inl (absent_iff.1 h).1) fun h => .inr h.1
theorem grow_v (x : RN) : (grow x).v = x.v := by unfold grow; split <;> rfl
theorem grow_t0 (x : RN) : (grow x).t0 = x.t0 := by unfold grow; split <;> rfl
theorem grow_t1 (x : RN) : (grow x).t1 = x.t1 := by unfold grow; split <;> rfl
theorem okQ.kid {m : Nat} {x : RN} (h : okQ (m + 1) x) {i : Nat} (hi : i < 8) : okA m (x.kid i) := by
  rcases h with h | h
  · rw [kid_none (absent_iff.1 h).1]; exact .inl absent_zeroN
  · exact (h.2.2.2.2 i hi).1
theorem okQ.grow {m : Nat} {x : RN} (h : okQ (m + 1) x) : okP (m + 1) (grow x) := by
  have hn := h.n
  refine ⟨grow_n hn, ?_, ?_, ?_, fun i hi => ?_⟩
  · rw [grow_t0]; rcases h with h | h
    · rw [(absent_iff.1 h).2.1]; exact rng_0
    · exact h.2.1
  · rw [grow_t1]; rcases h with h | h
    · rw [(absent_iff.1 h).2.2.1]; exact rng_0
    · exact h.2.2.1
  · rw [grow_v]; rcases h with h | h
    · exact (absent_iff.1 h).2.2.2
    · exact h.2.2.2.1
  · rw [grow_kid hn hi, grow_t0, grow_t1]
    refine ⟨h.kid hi, ?_⟩
    rcases h with h | h
    · obtain ⟨h1, h2, h3, -⟩ := absent_iff.1 h
      rw [kid_none h1, h2, h3]
      exact ⟨bitB_0 i hi, bitB_0 i hi⟩
    · exact (h.2.2.2.2 i hi).2
theorem okA_orZero {m : Nat} {y : RN} (h : okP m y) : okA m (orZero y) := by
  unfold orZero
  cases he : emptyB y
  · simp only [Bool.false_eq_true, if_false]; exact .inr ⟨h, he⟩
  · simp only [if_true]; exact .inl absent_zeroN
theorem lk_orZero {m : Nat} {y : RN} (h : okP m y) (i : Nat) : lk m (orZero y) i = lk m y i := by
  unfold orZero
  cases he : emptyB y
  · simp only [Bool.false_eq_true, if_false]
  · simp only [if_true]; rw [lk_empty m h he, lk_absent m absent_zeroN]

/-- The inner node with child d turned and its tags anew. -/
theorem okP_refresh {m : Nat} {x y : RN} {d : Nat} (h : okP (m + 1) x) (hd : d < 8) (hy : okA m y) : okP (m + 1) (refreshN (setKid x d y) d) := by
  have hn := h.1
  have hk : (setKid x d y).kid d = y := by rw [setKid_kid _ _ _ _ (by omega), if_pos rfl]
  have hkid : ∀ i, (refreshN (setKid x d y) d).kid i = (setKid x d y).kid i := fun i => by cases x; rfl
  have ht0 : (refreshN (setKid x d y) d).t0 = refT d y.t0 x.t0 := by
    have : (refreshN (setKid x d y) d).t0 = refT d ((setKid x d y).kid d).t0 (setKid x d y).t0 := by cases x; rfl
    rw [this, hk, setKid_t0]
  have ht1 : (refreshN (setKid x d y) d).t1 = refT d y.t1 x.t1 := by
    have : (refreshN (setKid x d y) d).t1 = refT d ((setKid x d y).kid d).t1 (setKid x d y).t1 := by cases x; rfl
    rw [this, hk, setKid_t1]
  have hv : (refreshN (setKid x d y) d).v = x.v := by cases x; rfl
  have hnn : (refreshN (setKid x d y) d).n = x.n := by cases x; rfl
  refine ⟨by rw [hnn]; exact hn, by rw [ht0]; exact refT_rng h.2.1 hd, by rw [ht1]; exact refT_rng h.2.2.1 hd, by rw [hv]; exact h.2.2.2.1, fun i hi => ?_⟩
  rw [hkid, setKid_kid _ _ _ _ (by omega), ht0, ht1, refT_bit h.2.1 hd hi, refT_bit h.2.2.1 hd hi]
  by_cases e : i = d
  · subst e; simp only [if_true]; exact ⟨hy, trivial, trivial⟩
  · simp only [if_neg e]; exact h.2.2.2.2 i hi
theorem lk_refresh {m : Nat} {x y : RN} {d : Nat} (hn : x.n = 8) (i : Nat) : lk (m + 1) (refreshN (setKid x d y) d) i = if i / 8 ^ (m + 1) % 8 = d then lk m y i else lk (m + 1) x i := by
  have hkid : ∀ i, (refreshN (setKid x d y) d).kid i = (setKid x d y).kid i := fun i => by cases x; rfl
  have hl : i / 8 ^ (m + 1) % 8 < 8 := Nat.mod_lt _ (by omega)
  rw [lk, lk, hkid, setKid_kid _ _ _ _ (by omega)]
  split <;> rfl

theorem dig_one (i : Nat) : (digB (i : Int) 1).toNat = i % 8 := by
  unfold digB
  simp
  omega
theorem pow2_8 (k : Nat) : (2 : Nat) ^ (3 * k) = 8 ^ k := by rw [Nat.pow_mul]
theorem dig_up (i m : Nat) : (digB (i : Int) ((m : Int) + 2)).toNat = i / 8 ^ (m + 1) % 8 := by
  unfold digB
  rw [show (3 * ((m : Int) + 2 - 1)).toNat = 3 * (m + 1) by omega]
  have e : (i : Int) / 2 ^ (3 * (m + 1)) % 8 = ((i / 8 ^ (m + 1) % 8 : Nat) : Int) := by
    rw [← pow2_8]
    push_cast
    rfl
  rw [e]; rfl
theorem grow_lk {m : Nat} {x : RN} (h : x.n = 0 ∨ x.n = 8) (i : Nat) : lk (m + 1) (grow x) i = lk (m + 1) x i := by
  rw [lk, lk, grow_kid h (Nat.mod_lt _ (by omega))]

theorem upd_ok (ch : RN → Nat → RN) (i : Nat) : ∀ (m : Nat) (x : RN), okQ m x → (∀ y, okP 0 y → lk 0 y i = lk m x i → okP 0 (ch y (i % 8))) → okP m (updN ch i m x)
  | 0, x, h, hc => by
    rw [updN, dig_one]
    exact hc x h.leaf rfl
  | m + 1, x, h, hc => by
    have hl : i / 8 ^ (m + 1) % 8 < 8 := Nat.mod_lt _ (by omega)
    simp only [updN, dig_up]
    have hk : okQ m ((grow x).kid (i / 8 ^ (m + 1) % 8)) := by rw [grow_kid h.n hl]; exact (h.kid hl).q
    refine okP_refresh h.grow hl (okA_orZero (upd_ok ch i m _ hk fun y hy e => hc y hy ?_))
    rw [e, grow_kid h.n hl]; rfl
theorem upd_lk (ch : RN → Nat → RN) (i : Nat) (e' : Ent) : ∀ (m : Nat) (x : RN), okQ m x → (∀ y, okP 0 y → lk 0 y i = lk m x i → okP 0 (ch y (i % 8)) ∧ ent (ch y (i % 8)) (i % 8) = e' ∧ ∀ j, j < 8 → j ≠ i % 8 → ent (ch y (i % 8)) j = ent y j) →
    ∀ j, lk m (updN ch i m x) j = if j % 8 ^ (m + 1) = i % 8 ^ (m + 1) then e' else lk m x j
  | 0, x, h, hc, j => by
    obtain ⟨-, h1, h2⟩ := hc x h.leaf rfl
    rw [updN, dig_one, lk, lk]
    have e : (8 : Nat) ^ (0 + 1) = 8 := rfl
    rw [e]
    split
    · rename_i hj; rw [hj]; exact h1
    · rename_i hj; exact h2 _ (Nat.mod_lt _ (by omega)) hj
  | m + 1, x, h, hc, j => by
    have hl : i / 8 ^ (m + 1) % 8 < 8 := Nat.mod_lt _ (by omega)
    have hk : okQ m ((grow x).kid (i / 8 ^ (m + 1) % 8)) := by rw [grow_kid h.n hl]; exact (h.kid hl).q
    have hx : lk m ((grow x).kid (i / 8 ^ (m + 1) % 8)) i = lk (m + 1) x i := by rw [grow_kid h.n hl]; rfl
    have hokc := upd_ok ch i m _ hk fun y hy e => (hc y hy (by rw [e, hx])).1
    have ih := upd_lk ch i e' m _ hk fun y hy e => hc y hy (by rw [e, hx])
    simp only [updN, dig_up]
    rw [lk_refresh (grow_n h.n), grow_lk h.n]
    have hp : (8 : Nat) ^ (m + 2) = 8 ^ (m + 1) * 8 := Nat.pow_succ ..
    have hsplit : ∀ a : Nat, a % 8 ^ (m + 2) = a % 8 ^ (m + 1) + 8 ^ (m + 1) * (a / 8 ^ (m + 1) % 8) := fun a => by rw [hp, Nat.mod_mul]
    by_cases hd : j / 8 ^ (m + 1) % 8 = i / 8 ^ (m + 1) % 8
    · rw [if_pos hd, lk_orZero hokc, ih j]
      have hiff : (j % 8 ^ (m + 1) = i % 8 ^ (m + 1)) ↔ (j % 8 ^ (m + 1 + 1) = i % 8 ^ (m + 1 + 1)) := by
        rw [hsplit j, hsplit i, hd]; omega
      by_cases hj : j % 8 ^ (m + 1) = i % 8 ^ (m + 1)
      · rw [if_pos hj, if_pos (hiff.1 hj)]
      · rw [if_neg hj, if_neg (fun h => hj (hiff.2 h)), grow_kid h.n hl, lk, hd]
    · have hne : ¬ j % 8 ^ (m + 1 + 1) = i % 8 ^ (m + 1 + 1) := fun hh => by
        rw [hsplit j, hsplit i] at hh
        have h1 : j % 8 ^ (m + 1) < 8 ^ (m + 1) := Nat.mod_lt _ (pow8_pos _)
        have h2 : i % 8 ^ (m + 1) < 8 ^ (m + 1) := Nat.mod_lt _ (pow8_pos _)
        have h3 : (j % 8 ^ (m + 1) + 8 ^ (m + 1) * (j / 8 ^ (m + 1) % 8)) / 8 ^ (m + 1) = j / 8 ^ (m + 1) % 8 := by rw [Nat.add_mul_div_left _ _ (pow8_pos _), Nat.div_eq_of_lt h1, Nat.zero_add]
        have h4 : (i % 8 ^ (m + 1) + 8 ^ (m + 1) * (i / 8 ^ (m + 1) % 8)) / 8 ^ (m + 1) = i / 8 ^ (m + 1) % 8 := by rw [Nat.add_mul_div_left _ _ (pow8_pos _), Nat.div_eq_of_lt h2, Nat.zero_add]
        rw [hh, h4] at h3
        exact hd h3.symm
      rw [if_neg hd, if_neg hne]

/-- A node that has an entry has one. -/
theorem okN_entry : ∀ (m : Nat) {x : RN}, okN m x → ∃ i, i < 8 ^ (m + 1) ∧ (lk m x i).1 ≠ 0
  | 0, x, h => by
    refine Classical.byContradiction fun hh => ?_
    have : emptyB x = true := (empty_leaf h.1).2 fun i hi => Classical.byContradiction fun hn => hh ⟨i, hi, by rw [lk, Nat.mod_eq_of_lt hi]; exact hn⟩
    rw [h.2] at this; cases this
  | m + 1, x, h => by
    refine Classical.byContradiction fun hh => ?_
    have : emptyB x = true := (empty_inner h.1).2 fun k hk => Classical.byContradiction fun hn => by
      rcases (h.1.2.2.2.2 k hk).1 with h1 | h1
      · exact hn h1
      · obtain ⟨r, hr, hv⟩ := okN_entry m h1
        refine hh ⟨k * 8 ^ (m + 1) + r, ?_, by rw [lk_top x hk hr]; exact hv⟩
        have hp : (8 : Nat) ^ (m + 2) = 8 ^ (m + 1) * 8 := Nat.pow_succ ..
        show _ < 8 ^ (m + 2)
        rw [hp]
        have : k * 8 ^ (m + 1) ≤ 7 * 8 ^ (m + 1) := Nat.mul_le_mul_right _ (by omega)
        omega
    rw [h.2] at this; cases this

/-- Valid nodes with the same entries are the same. -/
theorem canon : ∀ (m : Nat) (x y : RN), okA m x → okA m y → (∀ i, lk m x i = lk m y i) → sameB x y = true
  | m, x, y, hx, hy, he => by
    have habs : ∀ x y : RN, okA m x → absentB y = true → (∀ i, lk m x i = lk m y i) → absentB x = true := fun x y hx hy he => by
      rcases hx with hx | hx
      · exact hx
      · obtain ⟨i, -, hi⟩ := okN_entry m hx
        rw [he i, lk_absent m hy] at hi
        exact absurd rfl hi
    rw [sameB_eq]
    unfold sameW
    simp only [Bool.and_eq_true, beq_iff_eq]
    have hz : absentB x = true → absentB y = true → (((x.t0 = y.t0 ∧ x.t1 = y.t1) ∧ x.n = y.n) ∧ eqTo x.v y.v 8 = true) ∧ allTo (fun i => sameB (x.kid i) (y.kid i)) x.n = true := fun ha hb => by
      obtain ⟨a1, a2, a3, a4⟩ := absent_iff.1 ha
      obtain ⟨b1, b2, b3, b4⟩ := absent_iff.1 hb
      refine ⟨⟨⟨⟨by rw [a2, b2], by rw [a3, b3]⟩, by rw [a1, b1]⟩, ?_⟩, by rw [a1]; rfl⟩
      unfold eqTo
      rw [List.all_eq_true]
      intro i hi
      rw [a4 i (List.mem_range.1 hi), b4 i (List.mem_range.1 hi)]; rfl
    rcases hx with hx | hx
    · exact hz hx (habs y x hy hx fun i => (he i).symm)
    · rcases hy with hy | hy
      · exact hz (habs x y (.inr hx) hy he) hy
      · cases m with
        | zero =>
          have hv : ∀ i, i < 8 → ent x i = ent y i := fun i hi => by have := he i; rwa [lk, lk, Nat.mod_eq_of_lt hi] at this
          simp only [ent, Prod.mk.injEq] at hv
          refine ⟨⟨⟨⟨bits_eq hx.1.2.1 hy.1.2.1 fun i hi => (hv i hi).2.1, bits_eq hx.1.2.2.1 hy.1.2.2.1 fun i hi => (hv i hi).2.2⟩, by rw [hx.1.1, hy.1.1]⟩, ?_⟩, by rw [hx.1.1]; rfl⟩
          unfold eqTo
          rw [List.all_eq_true]
          intro i hi
          rw [(hv i (List.mem_range.1 hi)).1]; simp
        | succ m =>
          have hk : ∀ k, k < 8 → sameB (x.kid k) (y.kid k) = true := fun k hk => canon m _ _ (hx.1.2.2.2.2 k hk).1 (hy.1.2.2.2.2 k hk).1 fun i => by
            have h1 := he (k * 8 ^ (m + 1) + i % 8 ^ (m + 1))
            rw [lk_top x hk (Nat.mod_lt _ (pow8_pos _)), lk_top y hk (Nat.mod_lt _ (pow8_pos _))] at h1
            rw [lk_congr m (x.kid k) i (i % 8 ^ (m + 1)) (Nat.mod_mod _ _).symm, lk_congr m (y.kid k) i (i % 8 ^ (m + 1)) (Nat.mod_mod _ _).symm]
            exact h1
          have hkt : ∀ k, k < 8 → (x.kid k).t0 = (y.kid k).t0 ∧ (x.kid k).t1 = (y.kid k).t1 := fun k hk8 => by
            have := hk k hk8
            rw [sameB_eq] at this
            unfold sameW at this
            simp only [Bool.and_eq_true, beq_iff_eq] at this
            exact ⟨this.1.1.1.1, this.1.1.1.2⟩
          refine ⟨⟨⟨⟨bits_eq hx.1.2.1 hy.1.2.1 fun i hi => ?_, bits_eq hx.1.2.2.1 hy.1.2.2.1 fun i hi => ?_⟩, by rw [hx.1.1, hy.1.1]⟩, ?_⟩, by rw [hx.1.1]; exact allTo_iff.2 hk⟩
          · rw [(hx.1.2.2.2.2 i hi).2.1, (hy.1.2.2.2.2 i hi).2.1, (hkt i hi).1]
          · rw [(hx.1.2.2.2.2 i hi).2.2, (hy.1.2.2.2.2 i hi).2.2, (hkt i hi).2]
          · unfold eqTo
            rw [List.all_eq_true]
            intro i hi
            rw [hx.1.2.2.2.1 i (List.mem_range.1 hi), hy.1.2.2.2.1 i (List.mem_range.1 hi)]; rfl
end Go.Proofs.Ytcicfijpfhbcaaa
namespace Go.Proofs.Ytcicfijpfhbcaaa
set_option linter.unusedSimpArgs false
set_option linter.unusedVariables false
set_option linter.unusedSectionVars false

def okT (h : Nat) (x : RN) : Prop := (h = 0 ∧ absentB x = true) ∨ (1 ≤ h ∧ h ≤ 10 ∧ okN (h - 1) x ∧ (h = 1 ∨ laterTo x 7 = true))
/-- The entry of a tree at an index. -/
def tl (h : Nat) (x : RN) (j : Nat) : Ent := if h = 0 then e0 else if j < 8 ^ h then lk (h - 1) x j else e0

theorem tl_succ (m : Nat) (x : RN) (j : Nat) : tl (m + 1) x j = if j < 8 ^ (m + 1) then lk m x j else e0 := by
  unfold tl
  rw [if_neg (Nat.succ_ne_zero m)]; rfl
theorem check_iff {h : Nat} {x : RN} : checkP h x = 0 ↔ okT h x := by
  unfold checkP okT
  by_cases h10 : h ≤ 10
  · rw [if_neg (by omega)]
    by_cases h0 : h = 0
    · subst h0
      rw [if_pos (by simp)]
      cases ha : absentB x <;> simp
    · obtain ⟨m, rfl⟩ : ∃ m, h = m + 1 := ⟨h - 1, by omega⟩
      rw [if_neg (by omega)]
      have e : ((m + 1 : Nat) : Int) = (m : Int) + 1 := by omega
      rw [e]
      have hv := valid_iff m x
      cases hval : validB x ((m : Int) + 1)
      · have hno : ¬ okN m x := fun hh => by rw [hv.2 hh] at hval; cases hval
        simp [hno]
      · have hok : okN m x := hv.1 hval
        simp only [if_true, Nat.add_sub_cancel]
        by_cases hm : m = 0
        · subst hm; simp [hok]
        · have e1 : ¬ ((m : Int) + 1 = 1) := by omega
          cases hlt : laterTo x 7 <;> simp [e1, hm, hok] <;> omega
  · rw [if_pos (by omega)]
    constructor
    · intro h; omega
    · rintro (h | h) <;> omega
theorem check_neg {ht : Int} {x : RN} (h : checkP ht x = 0) : 0 ≤ ht ∧ ht ≤ 10 := by
  unfold checkP at h
  split at h <;> omega

theorem later_iff {x : RN} : laterTo x 7 = true ↔ ∃ k, 1 ≤ k ∧ k < 8 ∧ absentB (x.kid k) = false := by
  unfold laterTo
  rw [any_iff]
  constructor
  · rintro ⟨i, hi, h⟩; exact ⟨i + 1, by omega, by omega, by simpa using h⟩
  · rintro ⟨k, h1, h2, h3⟩; exact ⟨k - 1, by omega, by rw [Nat.sub_add_cancel h1, h3]; rfl⟩

/-! Slim, oct, tall. -/
theorem slim_of_ok : ∀ (m : Nat) (x : RN), okQ m x → slimB x
  | m, x, h => by
    cases x with
    | mk v t0 t1 n kid =>
      rw [slimB]
      cases m with
      | zero =>
        have hn : n = 0 := h.leaf.1
        exact ⟨by omega, fun i hi => absurd hi (by omega)⟩
      | succ m =>
        have hn : n = 0 ∨ n = 8 := h.n
        refine ⟨by omega, fun i hi => ?_⟩
        have := slim_of_ok m _ (h.kid (i := i) (by omega)).q
        rwa [RN.kid_mk _ _ _ _ _ _ hi] at this
theorem oct_of_ok : ∀ (m : Nat) (x : RN), okQ m x → octB m x
  | 0, _, _ => trivial
  | m + 1, x, h => ⟨h.n, fun i hi => oct_of_ok m _ (h.kid hi).q⟩
theorem kid0_ok {m : Nat} {x : RN} (h : okN (m + 1) x) (hl : laterTo x 7 = false) : okN m (x.kid 0) := by
  rcases (h.1.2.2.2.2 0 (by omega)).1 with h1 | h1
  · exfalso
    have : emptyB x = true := (empty_inner h.1).2 fun k hk => by
      by_cases h0 : k = 0
      · rw [h0]; exact h1
      · cases ha : absentB (x.kid k)
        · rw [later_iff.2 ⟨k, by omega, hk, ha⟩] at hl; cases hl
        · rfl
    rw [h.2] at this; cases this
  · exact h1
theorem tall_of_ok : ∀ (m : Nat) (x : RN), okN m x → tallB (m + 1) x
  | 0, _, _ => trivial
  | m + 1, x, h => ⟨h.1.1, fun hl => tall_of_ok m _ (kid0_ok h hl)⟩

/-! The least height. -/
theorem lk_low {m : Nat} {x : RN} (h : okN (m + 1) x) (hl : laterTo x 7 = false) {j : Nat} (hj : j < 8 ^ (m + 2)) : lk (m + 1) x j = if j < 8 ^ (m + 1) then lk m (x.kid 0) j else e0 := by
  have hp : (8 : Nat) ^ (m + 2) = 8 ^ (m + 1) * 8 := Nat.pow_succ ..
  have hlt : j / 8 ^ (m + 1) < 8 := Nat.div_lt_of_lt_mul (by rw [← hp]; exact hj)
  rw [lk, Nat.mod_eq_of_lt hlt]
  split
  · rename_i h1; rw [Nat.div_eq_of_lt h1]
  · rename_i h1
    have h2 : 1 ≤ j / 8 ^ (m + 1) := (Nat.one_le_div_iff (pow8_pos _)).2 (by omega)
    refine lk_absent m ?_ j
    cases ha : absentB (x.kid (j / 8 ^ (m + 1)))
    · rw [later_iff.2 ⟨_, h2, hlt, ha⟩] at hl; cases hl
    · rfl
theorem pow8_mono {a b : Nat} (h : a ≤ b) : (8 : Nat) ^ a ≤ 8 ^ b := Nat.pow_le_pow_right (by omega) h
theorem shrinkL_ok : ∀ (m : Nat) (x : RN), m ≤ 9 → okN m x → okT (shrinkL (m + 1) x).1 (shrinkL (m + 1) x).2 ∧ ∀ j, tl (shrinkL (m + 1) x).1 (shrinkL (m + 1) x).2 j = tl (m + 1) x j
  | 0, x, _, h => ⟨.inr ⟨Nat.le_refl _, by show 1 ≤ 10; omega, h, .inl rfl⟩, fun _ => rfl⟩
  | m + 1, x, hm, h => by
    cases hl : laterTo x 7
    · have e : shrinkL (m + 2) x = shrinkL (m + 1) (x.kid 0) := by rw [shrinkL, if_neg (by rw [hl]; decide)]
      have ih := shrinkL_ok m _ (by omega) (kid0_ok h hl)
      rw [show m + 1 + 1 = m + 2 from rfl, e]
      refine ⟨ih.1, fun j => ?_⟩
      rw [ih.2 j, show m + 2 = m + 1 + 1 from rfl, tl_succ, tl_succ]
      have hmono := pow8_mono (a := m + 1) (b := m + 1 + 1) (by omega)
      by_cases hj : j < 8 ^ (m + 1 + 1)
      · rw [if_pos hj, lk_low h hl hj]
      · rw [if_neg hj, if_neg (by omega)]
    · have e : shrinkL (m + 2) x = (m + 2, x) := by rw [shrinkL, if_pos hl]
      rw [show m + 1 + 1 = m + 2 from rfl, e]
      exact ⟨.inr ⟨by show 1 ≤ m + 2; omega, by show m + 2 ≤ 10; omega, h, .inr hl⟩, fun _ => rfl⟩
theorem shrinkP_ok {m : Nat} {x : RN} (hm : m ≤ 9) (h : okP m x) : okT (shrinkP (m + 1) x).1 (shrinkP (m + 1) x).2 ∧ ∀ j, tl (shrinkP (m + 1) x).1 (shrinkP (m + 1) x).2 j = tl (m + 1) x j := by
  unfold shrinkP
  cases he : emptyB x
  · simp only [Bool.false_eq_true, if_false]
    exact shrinkL_ok m x hm ⟨h, he⟩
  · simp only [if_true]
    refine ⟨.inl ⟨rfl, absent_zeroN⟩, fun j => ?_⟩
    unfold tl
    rw [if_pos rfl, if_neg (by omega)]
    split
    · exact (lk_empty m h he j).symm
    · rfl

/-! Raising. -/
theorem upX_ok {m : Nat} {x : RN} (h : okA m x) : okP (m + 1) (upN x) ∧ ∀ j, j < 8 ^ (m + 2) → lk (m + 1) (upN x) j = if j < 8 ^ (m + 1) then lk m x j else e0 := by
  have hz : okP (m + 1) (.mk (fun _ => 0) 0 0 8 (fun _ => zeroN)) := by
    refine ⟨rfl, rng_0, rng_0, fun _ _ => rfl, fun i hi => ?_⟩
    rw [RN.kid_mk _ _ _ _ _ _ hi]
    exact ⟨.inl absent_zeroN, bitB_0 i hi, bitB_0 i hi⟩
  have e : upN x = refreshN (setKid (.mk (fun _ => 0) 0 0 8 (fun _ => zeroN)) 0 x) 0 := rfl
  rw [e]
  refine ⟨okP_refresh hz (by omega) h, fun j hj => ?_⟩
  rw [lk_refresh rfl]
  have hp : (8 : Nat) ^ (m + 2) = 8 ^ (m + 1) * 8 := Nat.pow_succ ..
  have hlt : j / 8 ^ (m + 1) < 8 := Nat.div_lt_of_lt_mul (by rw [← hp]; exact hj)
  rw [Nat.mod_eq_of_lt hlt]
  by_cases hj1 : j < 8 ^ (m + 1)
  · rw [if_pos (Nat.div_eq_of_lt hj1), if_pos hj1]
  · have h2 : 1 ≤ j / 8 ^ (m + 1) := (Nat.one_le_div_iff (pow8_pos _)).2 (by omega)
    rw [if_neg (by omega), if_neg hj1, lk, RN.kid_mk _ _ _ _ _ _ (Nat.mod_lt _ (by omega))]
    exact lk_absent m absent_zeroN j
theorem up_nonempty {m : Nat} {x : RN} (h : okN m x) : okN (m + 1) (upN x) := by
  have hu := upX_ok (.inr h : okA m x)
  refine ⟨hu.1, ?_⟩
  cases he : emptyB (upN x)
  · rfl
  · exfalso
    obtain ⟨i, hi, hv⟩ := okN_entry m h
    have h1 := hu.2 i (Nat.lt_of_lt_of_le hi (pow8_mono (by omega)))
    rw [if_pos hi, lk_empty _ hu.1 he] at h1
    rw [← h1] at hv
    exact hv rfl
theorem cond_iff (i h : Nat) : (h = 0 ∨ 0 < (i : Int) / 2 ^ (3 * h)) ↔ (h = 0 ∨ 8 ^ h ≤ i) := by
  refine or_congr Iff.rfl ?_
  have e : (i : Int) / 2 ^ (3 * h) = ((i / 8 ^ h : Nat) : Int) := by
    rw [← pow2_8]; push_cast; rfl
  rw [e]
  have := Nat.one_le_div_iff (a := i) (b := 8 ^ h) (pow8_pos h)
  omega
theorem lt_8_10 {i : Nat} (hi : i < 1073741824) : i < 8 ^ 10 := by
  have h8 : (8 : Nat) ^ 10 = 1073741824 := by decide
  omega
/-- The tree is raised above the index; its entries stand. -/
theorem raise_ok (i : Nat) (hi : i < 1073741824) : ∀ (f h : Nat) (x : RN), f + h = 10 → okN (h - 1) x → 1 ≤ h →
    1 ≤ (raiseL false i f h x).1 ∧ (raiseL false i f h x).1 ≤ 10 ∧ i < 8 ^ (raiseL false i f h x).1 ∧ okN ((raiseL false i f h x).1 - 1) (raiseL false i f h x).2 ∧ ∀ j, tl (raiseL false i f h x).1 (raiseL false i f h x).2 j = tl h x j
  | 0, h, x, hf, hok, h1 => by
    obtain rfl : h = 10 := by omega
    exact ⟨by show 1 ≤ 10; omega, Nat.le_refl _, lt_8_10 hi, hok, fun _ => rfl⟩
  | f + 1, h, x, hf, hok, h1 => by
    rw [raiseL]
    by_cases hc : h = 0 ∨ 0 < (i : Int) / 2 ^ (3 * h)
    · rw [if_pos hc, if_neg (by decide)]
      obtain ⟨m, rfl⟩ : ∃ m, h = m + 1 := ⟨h - 1, by omega⟩
      have hok' : okN m x := hok
      have ih := raise_ok i hi f (m + 1 + 1) (upN x) (by omega) (up_nonempty hok') (by omega)
      refine ⟨ih.1, ih.2.1, ih.2.2.1, ih.2.2.2.1, fun j => ?_⟩
      rw [ih.2.2.2.2 j]
      have hu := upX_ok (.inr hok' : okA m x)
      rw [tl_succ, tl_succ]
      have hmono := pow8_mono (a := m + 1) (b := m + 1 + 1) (by omega)
      by_cases hj : j < 8 ^ (m + 1 + 1)
      · rw [if_pos hj, hu.2 j hj]
      · rw [if_neg hj, if_neg (by omega)]
    · rw [if_neg hc]
      rw [cond_iff] at hc
      exact ⟨h1, by show h ≤ 10; omega, by show i < 8 ^ h; omega, hok, fun _ => rfl⟩
/-- An empty tree is raised as it is. -/
theorem raise_blank (i : Nat) (hi : i < 1073741824) (x : RN) : ∀ (f h : Nat), f + h = 10 → 
    ((1 ≤ h ∨ 0 < f) → 1 ≤ (raiseL true i f h x).1) ∧ (raiseL true i f h x).1 ≤ 10 ∧ i < 8 ^ (raiseL true i f h x).1 ∧ (raiseL true i f h x).2 = x
  | 0, h, hf => by
    obtain rfl : h = 10 := by omega
    exact ⟨fun _ => by show 1 ≤ 10; omega, Nat.le_refl _, lt_8_10 hi, rfl⟩
  | f + 1, h, hf => by
    rw [raiseL]
    by_cases hc : h = 0 ∨ 0 < (i : Int) / 2 ^ (3 * h)
    · rw [if_pos hc, if_pos rfl]
      have ih := raise_blank i hi x f (h + 1) (by omega)
      exact ⟨fun _ => ih.1 (.inl (by omega)), ih.2⟩
    · rw [if_neg hc]
      rw [cond_iff] at hc
      exact ⟨fun _ => by show 1 ≤ h; omega, by show h ≤ 10; omega, by show i < 8 ^ h; omega, rfl⟩
theorem raised_ok {h : Nat} {x : RN} (ht : okT h x) (i : Nat) (hi : i < 1073741824) :
    1 ≤ (raised h x i).1 ∧ (raised h x i).1 ≤ 10 ∧ i < 8 ^ (raised h x i).1 ∧ okQ ((raised h x i).1 - 1) (raised h x i).2 ∧ ∀ j, tl (raised h x i).1 (raised h x i).2 j = tl h x j := by
  unfold raised
  rcases ht with ⟨rfl, ha⟩ | ⟨h1, h10, hok, -⟩
  · have := raise_blank i hi x 10 0 rfl
    obtain ⟨r1, r2, r3, r4⟩ := this
    refine ⟨r1 (.inr (by omega)), r2, r3, .inl (by show absentB (raiseL true i 10 0 x).2 = true; rw [r4]; exact ha), fun j => ?_⟩
    show tl (raiseL true i 10 0 x).1 (raiseL true i 10 0 x).2 j = _
    rw [r4]
    have hp : 1 ≤ (raiseL true (i : Int) 10 0 x).1 := r1 (.inr (by omega))
    unfold tl
    rw [if_neg (by omega), if_pos rfl]
    split
    · exact lk_absent _ ha j
    · rfl
  · have e : (h == 0) = false := by simp; omega
    rw [e]
    have := raise_ok i hi (10 - h) h x (by omega) hok h1
    exact ⟨this.1, this.2.1, this.2.2.1, .inr this.2.2.2.1.1, this.2.2.2.2⟩

/-! The two changes. -/
theorem setLeaf_ok (v : Int) {y : RN} (h : okP 0 y) {d : Nat} (hd : d < 8) :
    okP 0 (setLeaf v y d) ∧ ent (setLeaf v y d) d = (if v = 0 then e0 else (v, (ent y d).2)) ∧ ∀ j, j < 8 → j ≠ d → ent (setLeaf v y d) j = ent y j := by
  cases y with
  | mk vs t0 t1 n kid =>
    obtain ⟨hn, h0, h1, hb⟩ := h
    have h0' : rng t0 := h0
    have h1' : rng t1 := h1
    have hb' : ∀ i, i < 8 → vs i = 0 → bitB t0 i = false ∧ bitB t1 i = false := hb
    unfold setLeaf
    by_cases hv : v = 0
    · simp only [if_pos hv]
      refine ⟨⟨hn, clr_rng h0' hd, clr_rng h1' hd, fun i hi hi0 => ?_⟩, ?_, fun j hj hne => ?_⟩
      · show bitB (clr t0 d) i = false ∧ bitB (clr t1 d) i = false
        rw [clr_bit h0' hd hi, clr_bit h1' hd hi]
        by_cases e : i = d
        · simp [e]
        · have : updV vs d v i = 0 := hi0
          rw [updV, if_neg e] at this
          obtain ⟨a, b⟩ := hb' i hi this
          simp [a, b]
      · show (updV vs d v d, bitB (clr t0 d) d, bitB (clr t1 d) d) = e0
        rw [clr_bit h0' hd hd, clr_bit h1' hd hd, updV, if_pos rfl, hv]
        simp [e0]
      · show (updV vs d v j, bitB (clr t0 d) j, bitB (clr t1 d) j) = (vs j, bitB t0 j, bitB t1 j)
        rw [clr_bit h0' hd hj, clr_bit h1' hd hj, updV, if_neg hne]
        simp [hne]
    · simp only [if_neg hv]
      refine ⟨⟨hn, h0', h1', fun i hi hi0 => ?_⟩, ?_, fun j hj hne => ?_⟩
      · show bitB t0 i = false ∧ bitB t1 i = false
        have hu : updV vs d v i = 0 := hi0
        rw [updV] at hu
        by_cases e : i = d
        · rw [if_pos e] at hu; exact absurd hu hv
        · rw [if_neg e] at hu; exact hb' i hi hu
      · show (updV vs d v d, bitB t0 d, bitB t1 d) = (v, bitB t0 d, bitB t1 d)
        rw [updV, if_pos rfl]
      · show (updV vs d v j, bitB t0 j, bitB t1 j) = (vs j, bitB t0 j, bitB t1 j)
        rw [updV, if_neg hne]
theorem markT_rng {on : Bool} {t : Int} (h : rng t) {d : Nat} (hd : d < 8) : rng (markT on t d) := by
  unfold markT
  cases on
  · exact clr_rng h hd
  · exact put_rng (clr_rng h hd) hd
theorem markT_bit {on : Bool} {t : Int} (h : rng t) {d i : Nat} (hd : d < 8) (hi : i < 8) : bitB (markT on t d) i = if i = d then on else bitB t i := by
  unfold markT
  cases on
  · simp only [Bool.false_eq_true, if_false]
    rw [clr_bit h hd hi]
    by_cases e : i = d <;> simp [e]
  · simp only [if_true]
    rw [put_bit (clr_rng h hd) hd hi, clr_bit h hd hi]
    by_cases e : i = d <;> simp [e]
def markE (tag : Nat) (on : Bool) (e : Ent) : Ent := if tag = 0 then (e.1, on, e.2.2) else (e.1, e.2.1, on)
theorem markLeaf_ok (tag : Nat) (on : Bool) {y : RN} (h : okP 0 y) {d : Nat} (hd : d < 8) (hv : y.v d ≠ 0) :
    okP 0 (markLeaf tag on y d) ∧ ent (markLeaf tag on y d) d = markE tag on (ent y d) ∧ ∀ j, j < 8 → j ≠ d → ent (markLeaf tag on y d) j = ent y j := by
  cases y with
  | mk vs t0 t1 n kid =>
    obtain ⟨hn, h0, h1, hb⟩ := h
    have h0' : rng t0 := h0
    have h1' : rng t1 := h1
    have hb' : ∀ i, i < 8 → vs i = 0 → bitB t0 i = false ∧ bitB t1 i = false := hb
    have hv' : vs d ≠ 0 := hv
    unfold markLeaf markE
    by_cases ht : tag = 0
    · simp only [if_pos ht]
      refine ⟨⟨hn, markT_rng h0' hd, h1', fun i hi hi0 => ?_⟩, ?_, fun j hj hne => ?_⟩
      · show bitB (markT on t0 d) i = false ∧ bitB t1 i = false
        have hi0' : vs i = 0 := hi0
        rw [markT_bit h0' hd hi, if_neg (fun e => hv' (by rw [← e]; exact hi0'))]
        exact hb' i hi hi0'
      · show (vs d, bitB (markT on t0 d) d, bitB t1 d) = (vs d, on, bitB t1 d)
        rw [markT_bit h0' hd hd, if_pos rfl]
      · show (vs j, bitB (markT on t0 d) j, bitB t1 j) = (vs j, bitB t0 j, bitB t1 j)
        rw [markT_bit h0' hd hj, if_neg hne]
    · simp only [if_neg ht]
      refine ⟨⟨hn, h0', markT_rng h1' hd, fun i hi hi0 => ?_⟩, ?_, fun j hj hne => ?_⟩
      · show bitB t0 i = false ∧ bitB (markT on t1 d) i = false
        have hi0' : vs i = 0 := hi0
        rw [markT_bit h1' hd hi, if_neg (fun e => hv' (by rw [← e]; exact hi0'))]
        exact hb' i hi hi0'
      · show (vs d, bitB t0 d, bitB (markT on t1 d) d) = (vs d, bitB t0 d, on)
        rw [markT_bit h1' hd hd, if_pos rfl]
      · show (vs j, bitB t0 j, bitB (markT on t1 d) j) = (vs j, bitB t0 j, bitB t1 j)
        rw [markT_bit h1' hd hj, if_neg hne]

/-! Set and mark on whole trees. -/
/-- The entry that Set leaves. -/
def setE (v : Int) (e : Ent) : Ent := if v = 0 then e0 else (v, e.2)
theorem upd_set {m : Nat} {x : RN} (hq : okQ m x) (i : Nat) (hi : i < 8 ^ (m + 1)) (v : Int) :
    okP m (updN (setLeaf v) i m x) ∧ ∀ j, j < 8 ^ (m + 1) → lk m (updN (setLeaf v) i m x) j = if j = i then setE v (lk m x i) else lk m x j := by
  have hd : i % 8 < 8 := Nat.mod_lt _ (by omega)
  refine ⟨upd_ok _ i m x hq fun y hy _ => (setLeaf_ok v hy hd).1, fun j hj => ?_⟩
  rw [upd_lk (setLeaf v) i (setE v (lk m x i)) m x hq (fun y hy e => ⟨(setLeaf_ok v hy hd).1, by rw [(setLeaf_ok v hy hd).2.1, ← e]; rfl, (setLeaf_ok v hy hd).2.2⟩) j, Nat.mod_eq_of_lt hj, Nat.mod_eq_of_lt hi]
theorem upd_mark {m : Nat} {x : RN} (hq : okQ m x) (i : Nat) (hi : i < 8 ^ (m + 1)) (tag : Nat) (on : Bool) (hv : (lk m x i).1 ≠ 0) :
    okP m (updN (markLeaf tag on) i m x) ∧ ∀ j, j < 8 ^ (m + 1) → lk m (updN (markLeaf tag on) i m x) j = if j = i then markE tag on (lk m x i) else lk m x j := by
  have hd : i % 8 < 8 := Nat.mod_lt _ (by omega)
  have hl : ∀ y, okP 0 y → lk 0 y i = lk m x i → y.v (i % 8) ≠ 0 := fun y _ e => by rw [← e] at hv; exact hv
  refine ⟨upd_ok _ i m x hq fun y hy e => (markLeaf_ok tag on hy hd (hl y hy e)).1, fun j hj => ?_⟩
  rw [upd_lk (markLeaf tag on) i (markE tag on (lk m x i)) m x hq (fun y hy e => ⟨(markLeaf_ok tag on hy hd (hl y hy e)).1, by rw [(markLeaf_ok tag on hy hd (hl y hy e)).2.1, ← e]; rfl, (markLeaf_ok tag on hy hd (hl y hy e)).2.2⟩) j, Nat.mod_eq_of_lt hj, Nat.mod_eq_of_lt hi]

theorem setT_ok {h : Nat} {x : RN} (ht : okT h x) (i : Nat) (hi : i < 1073741824) (v : Int) :
    okP ((raised h x i).1 - 1) (setT h x i v) ∧ ∀ j, tl (raised h x i).1 (setT h x i v) j = if j = i then setE v (tl h x i) else tl h x j := by
  obtain ⟨h1, h10, hlt, hq, htl⟩ := raised_ok ht i hi
  unfold setT
  generalize raised h x i = p at h1 h10 hlt hq htl ⊢
  obtain ⟨p1, p2⟩ := p
  have h1' : 1 ≤ p1 := h1
  obtain ⟨m, rfl⟩ : ∃ m, p1 = m + 1 := ⟨p1 - 1, by omega⟩
  have hlt' : i < 8 ^ (m + 1) := hlt
  have hq' : okQ m p2 := hq
  have htl' : ∀ j, tl (m + 1) p2 j = tl h x j := htl
  have hu := upd_set hq' i hlt' v
  refine ⟨hu.1, fun j => ?_⟩
  rw [← htl' i, ← htl' j]
  show tl (m + 1) (updN (setLeaf v) i m p2) j = _
  rw [tl_succ, tl_succ, tl_succ, if_pos hlt']
  by_cases hj : j < 8 ^ (m + 1)
  · rw [if_pos hj, if_pos hj]; exact hu.2 j hj
  · rw [if_neg hj, if_neg hj, if_neg (by omega)]
theorem setN_ok {h : Nat} {x : RN} (ht : okT h x) (i : Nat) (hi : i < 1073741824) (v : Int) :
    okT (setN h x i v).1 (setN h x i v).2 ∧ ∀ j, tl (setN h x i v).1 (setN h x i v).2 j = if j = i then setE v (tl h x i) else tl h x j := by
  have hs := setT_ok ht i hi v
  have hr := raised_ok ht i hi
  unfold setN
  obtain ⟨m, hm⟩ : ∃ m, (raised h x i).1 = m + 1 := ⟨(raised h x i).1 - 1, by have := hr.1; omega⟩
  have h10 := hr.2.1
  rw [hm] at hs h10 ⊢
  have hp := shrinkP_ok (m := m) (by omega) hs.1
  exact ⟨hp.1, fun j => (hp.2 j).trans (hs.2 j)⟩

/-- Two valid trees with the same entries are the same. -/
theorem tree_canon {h h' : Nat} {x x' : RN} (ht : okT h x) (ht' : okT h' x') (he : ∀ j, tl h x j = tl h' x' j) : h = h' ∧ sameB x x' = true := by
  have hentry : ∀ {h : Nat} {x : RN}, okT h x → 1 ≤ h → ∃ j, j < 8 ^ h ∧ (h = 1 ∨ 8 ^ (h - 1) ≤ j) ∧ (tl h x j).1 ≠ 0 := fun {h x} ht h1 => by
    rcases ht with ⟨h0, -⟩ | ⟨-, -, hok, hl⟩
    · omega
    · obtain ⟨m, rfl⟩ : ∃ m, h = m + 1 := ⟨h - 1, by omega⟩
      have hok' : okN m x := hok
      by_cases hm : m = 0
      · subst hm
        obtain ⟨i, hi, hv⟩ := okN_entry 0 hok'
        refine ⟨i, hi, .inl rfl, ?_⟩
        unfold tl
        rw [if_neg (by omega), if_pos hi]; exact hv
      · obtain ⟨k, rfl⟩ : ∃ k, m = k + 1 := ⟨m - 1, by omega⟩
        obtain ⟨d, d1, d8, hd⟩ := later_iff.1 (hl.resolve_left (by omega))
        have hk : okN k (x.kid d) := by
          rcases (hok'.1.2.2.2.2 d d8).1 with h1 | h1
          · rw [hd] at h1; cases h1
          · exact h1
        obtain ⟨r, hr, hv⟩ := okN_entry k hk
        have hp : (8 : Nat) ^ (k + 2) = 8 ^ (k + 1) * 8 := Nat.pow_succ ..
        have hle : d * 8 ^ (k + 1) ≤ 7 * 8 ^ (k + 1) := Nat.mul_le_mul_right _ (by omega)
        have hge : 1 * 8 ^ (k + 1) ≤ d * 8 ^ (k + 1) := Nat.mul_le_mul_right _ d1
        have hlt : d * 8 ^ (k + 1) + r < 8 ^ (k + 2) := by omega
        refine ⟨d * 8 ^ (k + 1) + r, hlt, .inr (by show 8 ^ (k + 1) ≤ _; omega), ?_⟩
        unfold tl
        rw [if_neg (by omega), if_pos hlt]
        show (lk (k + 1) x _).1 ≠ 0
        rw [lk_top x d8 hr]; exact hv
  have hbound : ∀ {h : Nat} {x : RN} {j : Nat}, (tl h x j).1 ≠ 0 → 1 ≤ h ∧ j < 8 ^ h := fun {h x j} hv => by
    unfold tl at hv
    split at hv
    · exact absurd rfl hv
    · split at hv
      · exact ⟨by omega, by assumption⟩
      · exact absurd rfl hv
  have hle : ∀ {h h' : Nat} {x x' : RN}, okT h x → (∀ j, tl h x j = tl h' x' j) → h ≤ h' := fun {h h' x x'} ht he => by
    rcases Nat.eq_zero_or_pos h with h0 | h0
    · omega
    · obtain ⟨j, hj, hb, hv⟩ := hentry ht h0
      rw [he j] at hv
      obtain ⟨b1, b2⟩ := hbound hv
      rcases hb with hb | hb
      · omega
      · rcases Nat.lt_or_ge h' h with hc | hc
        · have := pow8_mono (a := h') (b := h - 1) (by omega)
          omega
        · exact hc
  have hh : h = h' := Nat.le_antisymm (hle ht he) (hle ht' fun j => (he j).symm)
  subst hh
  refine ⟨rfl, ?_⟩
  rcases Nat.eq_zero_or_pos h with h0 | h0
  · subst h0
    have ha : absentB x = true := by rcases ht with h | h; exact h.2; omega
    have hb : absentB x' = true := by rcases ht' with h | h; exact h.2; omega
    exact canon 0 x x' (.inl ha) (.inl hb) fun i => by rw [lk_absent 0 ha, lk_absent 0 hb]
  · obtain ⟨m, rfl⟩ : ∃ m, h = m + 1 := ⟨h - 1, by omega⟩
    have ha : okN m x := by rcases ht with h | h; omega; exact h.2.2.1
    have hb : okN m x' := by rcases ht' with h | h; omega; exact h.2.2.1
    refine canon m x x' (.inr ha) (.inr hb) fun i => ?_
    have h1 := he (i % 8 ^ (m + 1))
    rw [tl_succ, tl_succ, if_pos (Nat.mod_lt _ (pow8_pos _)), if_pos (Nat.mod_lt _ (pow8_pos _))] at h1
    rw [lk_congr m x i (i % 8 ^ (m + 1)) (Nat.mod_mod _ _).symm, lk_congr m x' i (i % 8 ^ (m + 1)) (Nat.mod_mod _ _).symm]
    exact h1
end Go.Proofs.Ytcicfijpfhbcaaa
namespace Go.Proofs.Ytcicfijpfhbcaaa
set_option linter.unusedSimpArgs false
set_option linter.unusedVariables false
set_option linter.unusedSectionVars false

theorem desc_lk (i : Nat) : ∀ (m : Nat) (x : RN), match descP (m + 1) x i with | some y => ent y (i % 8) = lk m x i | none => lk m x i = e0
  | 0, x => by
    have e : descP (0 + 1) x i = some x := by rw [descP, if_pos rfl]
    rw [e]; rfl
  | m + 1, x => by
    have hd : (digB (i : Int) (((m + 1 : Nat) : Int) + 1)).toNat = i / 8 ^ (m + 1) % 8 := by
      rw [show ((m + 1 : Nat) : Int) + 1 = (m : Int) + 2 by omega]; exact dig_up i m
    cases ha : absentB (x.kid (i / 8 ^ (m + 1) % 8))
    · have e : descP (m + 1 + 1) x i = descP (m + 1) (x.kid (i / 8 ^ (m + 1) % 8)) i := by rw [descP, if_neg (by omega), hd, if_neg (by rw [ha]; decide)]
      rw [e]
      exact desc_lk i m _
    · have e : descP (m + 1 + 1) x i = none := by rw [descP, if_neg (by omega), hd, if_pos ha]
      rw [e]
      exact lk_absent m ha i

theorem leaf_tl {h : Nat} {x : RN} (ht : okT h x) {i : Nat} (hi : i < 1073741824) : match leafP h x i with | some y => ent y (i % 8) = tl h x i | none => tl h x i = e0 := by
  have hc := check_iff.2 ht
  unfold leafP
  have hp : (3 * (h : Int)).toNat = 3 * h := by omega
  rw [hp]
  have e : (i : Int) / 2 ^ (3 * h) = ((i / 8 ^ h : Nat) : Int) := by rw [← pow2_8]; push_cast; rfl
  rw [e]
  by_cases h0 : h = 0
  · subst h0
    rw [if_neg (by omega)]; rfl
  · obtain ⟨m, rfl⟩ : ∃ m, h = m + 1 := ⟨h - 1, by omega⟩
    by_cases hlt : i < 8 ^ (m + 1)
    · rw [if_pos ⟨hc, by omega, by omega, by rw [Nat.div_eq_of_lt hlt]; simp, by omega⟩, tl_succ, if_pos hlt]
      exact desc_lk i m x
    · have h1 : 1 ≤ i / 8 ^ (m + 1) := (Nat.one_le_div_iff (pow8_pos _)).2 (by omega)
      rw [if_neg (by omega), tl_succ, if_neg hlt]
theorem get_tl {h : Nat} {x : RN} (ht : okT h x) {i : Nat} (hi : i < 1073741824) : getP h x i = (tl h x i).1 := by
  have := leaf_tl ht hi
  unfold getP
  cases hl : leafP h x i with
  | none => rw [hl] at this; have h2 : tl h x i = e0 := this; rw [h2]; rfl
  | some y => rw [hl] at this; have h2 : ent y (i % 8) = tl h x i := this; rw [← h2]; show y.v (digB i 1).toNat = y.v (i % 8); rw [dig_one]

theorem lk_zero : ∀ (m : Nat) {x : RN}, okQ m x → ∀ i, (lk m x i).1 = 0 → lk m x i = e0
  | 0, x, h, i, hz => by
    have hv : x.v (i % 8) = 0 := hz
    obtain ⟨h0, h1⟩ := h.leaf.2.2.2 (i % 8) (Nat.mod_lt _ (by omega)) hv
    rw [lk, ent, hv, h0, h1]; rfl
  | m + 1, x, h, i, hz => lk_zero m (h.kid (i := i / 8 ^ (m + 1) % 8) (Nat.mod_lt _ (by omega))).q i hz
theorem okT.q {m : Nat} {x : RN} (h : okT (m + 1) x) : okQ m x := by
  rcases h with h | h
  · omega
  · exact .inr h.2.2.1.1
theorem tl_zero {h : Nat} {x : RN} (ht : okT h x) {i : Nat} (hz : (tl h x i).1 = 0) : tl h x i = e0 := by
  rcases Nat.eq_zero_or_pos h with h0 | h0
  · subst h0; rfl
  · obtain ⟨m, rfl⟩ : ∃ m, h = m + 1 := ⟨h - 1, by omega⟩
    rw [tl_succ] at hz ⊢
    split
    · rename_i hlt; rw [if_pos hlt] at hz; exact lk_zero m ht.q i hz
    · rfl

/-- The tree that Set leaves. -/
def stepT (t : Nat × RN) (i : Nat) (v : Int) : Nat × RN := if v = 0 ∧ getP t.1 t.2 i = 0 then t else setN t.1 t.2 i v
theorem step_ok {t : Nat × RN} (ht : okT t.1 t.2) {i : Nat} (hi : i < 1073741824) (v : Int) :
    okT (stepT t i v).1 (stepT t i v).2 ∧ (∀ j, tl (stepT t i v).1 (stepT t i v).2 j = if j = i then setE v (tl t.1 t.2 i) else tl t.1 t.2 j) ∧
    setP t.1 t.2 i v = (((stepT t i v).1 : Int), (stepT t i v).2, 0) := by
  have hc := check_iff.2 ht
  by_cases hno : v = 0 ∧ getP t.1 t.2 i = 0
  · have e : stepT t i v = t := if_pos hno
    rw [e]
    refine ⟨ht, fun j => ?_, ?_⟩
    · have hz : tl t.1 t.2 i = e0 := tl_zero ht (by rw [← get_tl ht hi]; exact hno.2)
      by_cases hj : j = i
      · rw [if_pos hj, hj, hz, setE, if_pos hno.1]
      · rw [if_neg hj]
    · unfold setP
      rw [if_neg (by simp [hc]), if_neg (by omega), if_pos hno]
  · have e : stepT t i v = setN t.1 t.2 i v := if_neg hno
    rw [e]
    have := setN_ok ht i hi v
    refine ⟨this.1, this.2, ?_⟩
    unfold setP
    rw [if_neg (by simp [hc]), if_neg (by omega), if_neg hno]
    rfl

theorem setE_twice (v : Int) (e : Ent) : setE v (setE v e) = setE v e := by unfold setE; split <;> rfl
theorem okT_zero : okT 0 zeroN := .inl ⟨rfl, absent_zeroN⟩
/-- Sets one after the other: at index f i the value v (f i). -/
def fillT (f : Nat → Nat) (v : Nat → Int) (l : List Nat) (t : Nat × RN) : Nat × RN := l.foldl (fun t i => stepT t (f i) (v (f i))) t
theorem fillT_snoc (f : Nat → Nat) (v : Nat → Int) (l : List Nat) (i : Nat) (t : Nat × RN) : fillT f v (l ++ [i]) t = stepT (fillT f v l t) (f i) (v (f i)) := by simp [fillT]
open Classical in
theorem fill_ok (f : Nat → Nat) (v : Nat → Int) : ∀ (l : List Nat) (t : Nat × RN), (∀ i ∈ l, f i < 1073741824) → okT t.1 t.2 →
    okT (fillT f v l t).1 (fillT f v l t).2 ∧ ∀ j, tl (fillT f v l t).1 (fillT f v l t).2 j = if ∃ i, i ∈ l ∧ f i = j then setE (v j) (tl t.1 t.2 j) else tl t.1 t.2 j
  | [], t, _, ht => ⟨ht, fun j => by rw [if_neg (by simp)]; rfl⟩
  | i :: l, t, hl, ht => by
    have hs := step_ok ht (hl i (List.mem_cons_self ..)) (v (f i))
    have ih := fill_ok f v l (stepT t (f i) (v (f i))) (fun k hk => hl k (List.mem_cons_of_mem _ hk)) hs.1
    refine ⟨ih.1, fun j => ?_⟩
    have e : fillT f v (i :: l) t = fillT f v l (stepT t (f i) (v (f i))) := rfl
    rw [e, ih.2 j, hs.2.1 j]
    by_cases hj : f i = j
    · have h1 : ∃ k, k ∈ i :: l ∧ f k = j := ⟨i, List.mem_cons_self .., hj⟩
      have hj' : j = f i := hj.symm
      rw [if_pos h1, if_pos hj']
      subst hj
      split
      · rw [setE_twice]
      · rfl
    · have hj' : ¬ j = f i := fun q => hj q.symm
      have hiff : (∃ k, k ∈ i :: l ∧ f k = j) ↔ ∃ k, k ∈ l ∧ f k = j := by
        constructor
        · rintro ⟨k, hk, hf⟩
          rcases List.mem_cons.1 hk with rfl | hk
          · exact absurd hf hj
          · exact ⟨k, hk, hf⟩
        · rintro ⟨k, hk, hf⟩; exact ⟨k, List.mem_cons_of_mem _ hk, hf⟩
      simp only [hiff, if_neg hj']

/-- Order: the tree depends on the set of the indices alone. -/
def ordT (l : List Nat) : Nat × RN := fillT id (fun j => 1 + (j : Int)) l (0, zeroN)
theorem ord_same {l l' : List Nat} (hl : ∀ i ∈ l, i < 1073741824) (h : ∀ j, j ∈ l ↔ j ∈ l') : (ordT l).1 = (ordT l').1 ∧ sameB (ordT l).2 (ordT l').2 = true := by
  have h1 := fill_ok id (fun j => 1 + (j : Int)) l (0, zeroN) hl okT_zero
  have h2 := fill_ok id (fun j => 1 + (j : Int)) l' (0, zeroN) (fun i hi => hl i ((h i).2 hi)) okT_zero
  refine tree_canon h1.1 h2.1 fun j => ?_
  refine (h1.2 j).trans (Eq.trans ?_ (h2.2 j).symm)
  have hiff : (∃ i, i ∈ l ∧ id i = j) ↔ ∃ i, i ∈ l' ∧ id i = j := by simp [h]
  simp only [hiff]
/-- Empties: all entries set and removed again: the empty tree. -/
def empT (l : List Nat) : Nat × RN := fillT (fun i => i * 16384) (fun _ => 0) l (fillT (fun i => i * 16384) (fun _ => -7) l (0, zeroN))
theorem emp_zero {l : List Nat} (hl : ∀ i ∈ l, i < 65536) : (empT l).1 = 0 ∧ sameB (empT l).2 zeroN = true := by
  have hb : ∀ i ∈ l, i * 16384 < 1073741824 := fun i hi => by have := hl i hi; omega
  have h1 := fill_ok (fun i => i * 16384) (fun _ => -7) l (0, zeroN) hb okT_zero
  have h2 := fill_ok (fun i => i * 16384) (fun _ => 0) l _ hb h1.1
  refine tree_canon h2.1 okT_zero fun j => ?_
  refine (h2.2 j).trans ?_
  rw [h1.2 j]
  show _ = e0
  split
  · rw [setE, if_pos rfl]
  · rfl
theorem emp_absent {l : List Nat} (hl : ∀ i ∈ l, i < 65536) : okT (empT l).1 (empT l).2 := by
  have hb : ∀ i ∈ l, i * 16384 < 1073741824 := fun i hi => by have := hl i hi; omega
  exact (fill_ok (fun i => i * 16384) (fun _ => 0) l _ hb (fill_ok (fun i => i * 16384) (fun _ => -7) l (0, zeroN) hb okT_zero).1).1
end Go.Proofs.Ytcicfijpfhbcaaa
