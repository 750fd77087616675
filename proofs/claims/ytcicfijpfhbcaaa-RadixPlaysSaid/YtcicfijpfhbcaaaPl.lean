/-
  Valid trees, in plain words: okP, okN. No program.
-/
import Derived.Test.YtcicfijpfhbcaaaMk
import Derived.Test.YtcicfijpfhbcaaaRb
namespace Go.Proofs.Ytcicfijpfhbcaaa
set_option linter.unusedSimpArgs false
set_option linter.unusedVariables false
set_option linter.unusedSectionVars false

def rng (t : Int) : Prop := 0 ≤ t ∧ t < 256
/-- Well formed for level m + 1, but for having an entry. -/
def okP : Nat → RN → Prop
  | 0, x => x.n = 0 ∧ rng x.t0 ∧ rng x.t1 ∧ ∀ i, i < 8 → x.v i = 0 → bitB x.t0 i = false ∧ bitB x.t1 i = false
  | m + 1, x => x.n = 8 ∧ rng x.t0 ∧ rng x.t1 ∧ (∀ i, i < 8 → x.v i = 0) ∧
      ∀ i, i < 8 → (absentB (x.kid i) = true ∨ okP m (x.kid i) ∧ emptyB (x.kid i) = false) ∧ bitB x.t0 i = ((x.kid i).t0 != 0) ∧ bitB x.t1 i = ((x.kid i).t1 != 0)
def okN (m : Nat) (x : RN) : Prop := okP m x ∧ emptyB x = false
def okA (m : Nat) (x : RN) : Prop := absentB x = true ∨ okN m x

theorem zero8_iff {f : Nat → Int} : zero8 f = true ↔ ∀ i, i < 8 → f i = 0 := by
  unfold zero8 zeroTo
  rw [List.all_eq_true]
  exact ⟨fun h i hi => by have := h i (List.mem_range.2 hi); simpa using this, fun h i hi => by simp [h i (List.mem_range.1 hi)]⟩
theorem absent_iff {x : RN} : absentB x = true ↔ x.n = 0 ∧ x.t0 = 0 ∧ x.t1 = 0 ∧ ∀ i, i < 8 → x.v i = 0 := by
  unfold absentB
  simp only [Bool.and_eq_true, beq_iff_eq, zero8_iff]
  exact ⟨fun h => ⟨h.1.1, h.1.2.1, h.1.2.2, h.2⟩, fun h => ⟨⟨h.1, h.2.1, h.2.2.1⟩, h.2.2.2⟩⟩
theorem allTo_iff {f : Nat → Bool} {k : Nat} : allTo f k = true ↔ ∀ i, i < k → f i = true := by
  unfold allTo
  rw [List.all_eq_true]
  exact ⟨fun h i hi => h i (List.mem_range.2 hi), fun h i hi => h i (List.mem_range.1 hi)⟩
theorem empty_iff {x : RN} : emptyB x = true ↔ (∀ i, i < 8 → x.v i = 0) ∧ ∀ i, i < x.n → emptyB (x.kid i) = true := by
  rw [emptyB_eq, Bool.and_eq_true, zero8_iff, allTo_iff]
theorem empty_of_absent {x : RN} (h : absentB x = true) : emptyB x = true := by
  obtain ⟨h1, -, -, h2⟩ := absent_iff.1 h
  exact empty_iff.2 ⟨h2, fun i hi => by omega⟩
theorem not_absent {x : RN} (h : emptyB x = false) : absentB x = false := by
  cases ha : absentB x
  · rfl
  · rw [empty_of_absent ha] at h; cases h
/-- An inner node is empty exactly if all its children are absent. -/
theorem empty_inner {m : Nat} {x : RN} (h : okP (m + 1) x) : emptyB x = true ↔ ∀ i, i < 8 → absentB (x.kid i) = true := by
  obtain ⟨hn, -, -, hv, hk⟩ := h
  rw [empty_iff, hn]
  refine ⟨fun h i hi => ?_, fun h => ⟨hv, fun i hi => empty_of_absent (h i hi)⟩⟩
  rcases (hk i hi).1 with h1 | ⟨-, h1⟩
  · exact h1
  · rw [h.2 i hi] at h1; cases h1
theorem empty_leaf {x : RN} (h : okP 0 x) : emptyB x = true ↔ ∀ i, i < 8 → x.v i = 0 := by
  rw [empty_iff, h.1]
  exact ⟨fun h => h.1, fun h => ⟨h, fun i hi => absurd hi (by omega)⟩⟩
theorem bitB_0 : ∀ i, i < 8 → bitB 0 i = false := by decide

theorem fin_iff {x : RN} {l : Int} : finB x l = true ↔ rng x.t0 ∧ rng x.t1 ∧ (1 < l ∨ x.n = 0) := by
  unfold finB rng
  simp only [Bool.and_eq_true, Bool.or_eq_true, decide_eq_true_eq, beq_iff_eq]
  omega
theorem tagTo_iff {x : RN} {l : Int} {i : Nat} : tagTo x l i 2 = true ↔ tagB x l i 0 = true ∧ tagB x l i 1 = true := by
  rw [tagTo_succ, tagTo_succ]
  simp [tagTo]
theorem okTo_iff {x : RN} {l : Int} {sub : Nat → Bool} : okTo x l sub 8 = true ↔ ∀ i, i < 8 → okB x l sub i = true := by
  unfold okTo
  rw [List.all_eq_true]
  exact ⟨fun h i hi => h i (List.mem_range.2 hi), fun h i hi => h i (List.mem_range.1 hi)⟩
theorem any_iff {f : Nat → Bool} {k : Nat} : (List.range k).any f = true ↔ ∃ i, i < k ∧ f i = true := by
  rw [List.any_eq_true]
  exact ⟨fun ⟨i, h1, h2⟩ => ⟨i, List.mem_range.1 h1, h2⟩, fun ⟨i, h1, h2⟩ => ⟨i, List.mem_range.2 h1, h2⟩⟩

theorem valid_iff : ∀ (m : Nat) (x : RN), validB x ((m : Int) + 1) = true ↔ okN m x
  | 0, x => by
    rw [validB_eq]
    unfold validW
    rw [Bool.and_eq_true, Bool.and_eq_true, Bool.and_eq_true, okTo_iff, fin_iff, anyB, any_iff]
    have e1 : ¬ (1 : Int) < ((0 : Nat) : Int) + 1 := by omega
    have e2 : ∀ i, okB x (((0 : Nat) : Int) + 1) (fun i => validB (x.kid i) (((0 : Nat) : Int) + 1 - 1)) i = true ↔ (x.v i = 0 → bitB x.t0 i = false ∧ bitB x.t1 i = false) := fun i => by
      simp only [okB, tagTo_iff, tagB, exB, e1, decide_false, if_false, RN.t_0, RN.t_1, Bool.not_false, Bool.true_or, Bool.true_and, Bool.and_true, Bool.or_eq_true, Bool.not_eq_true', bne_iff_ne, ne_eq]
      constructor
      · rintro ⟨h1, h2⟩ h0
        exact ⟨h1.resolve_right (fun h => h h0), h2.resolve_right (fun h => h h0)⟩
      · intro h
        by_cases h0 : x.v i = 0
        · exact ⟨.inl (h h0).1, .inl (h h0).2⟩
        · exact ⟨.inr h0, .inr h0⟩
    simp only [e2, exB, e1, if_false, bne_iff_ne, ne_eq, false_or]
    constructor
    · rintro ⟨⟨⟨-, h2⟩, i, hi, h3⟩, h4, h5, h6⟩
      have ho : okP 0 x := ⟨h6, h4, h5, h2⟩
      refine ⟨ho, ?_⟩
      cases he : emptyB x
      · rfl
      · exact absurd ((empty_leaf ho).1 he i hi) h3
    · rintro ⟨ho, he⟩
      have hne : ∃ i, i < 8 ∧ ¬ x.v i = 0 := by
        refine Classical.byContradiction fun hh => ?_
        have : emptyB x = true := (empty_leaf ho).2 fun i hi => Classical.byContradiction fun hn => hh ⟨i, hi, hn⟩
        rw [he] at this; cases this
      exact ⟨⟨⟨by rw [not_absent he]; rfl, ho.2.2.2⟩, hne⟩, ho.2.1, ho.2.2.1, ho.1⟩
  | m + 1, x => by
    rw [validB_eq]
    unfold validW
    rw [Bool.and_eq_true, Bool.and_eq_true, Bool.and_eq_true, okTo_iff, fin_iff, anyB, any_iff]
    have e1 : (1 : Int) < ((m + 1 : Nat) : Int) + 1 := by omega
    have e3 : ((m + 1 : Nat) : Int) + 1 - 1 = (m : Int) + 1 := by omega
    have e2 : ∀ i, i < 8 → (okB x (((m + 1 : Nat) : Int) + 1) (fun i => validB (x.kid i) (((m + 1 : Nat) : Int) + 1 - 1)) i = true ↔
        x.n = 8 ∧ x.v i = 0 ∧ (absentB (x.kid i) = true ∨ okP m (x.kid i) ∧ emptyB (x.kid i) = false) ∧ bitB x.t0 i = ((x.kid i).t0 != 0) ∧ bitB x.t1 i = ((x.kid i).t1 != 0)) := fun i hi => by
      have ih := valid_iff m (x.kid i)
      simp only [okB, tagTo_iff, tagB, exB, e1, e3, decide_true, if_true, RN.t_0, RN.t_1, Bool.not_true, Bool.false_or, Bool.and_eq_true, Bool.or_eq_true, Bool.not_eq_true', beq_iff_eq, ih]
      unfold okN
      constructor
      · rintro ⟨⟨⟨h1, h2⟩, h3⟩, ⟨h4, h5⟩, h6, h7⟩
        exact ⟨h1, h2, h3, h5, h7⟩
      · rintro ⟨h1, h2, h3, h5, h7⟩
        have hz : absentB (x.kid i) = true → (x.kid i).t0 = 0 ∧ (x.kid i).t1 = 0 := fun h => ⟨(absent_iff.1 h).2.1, (absent_iff.1 h).2.2.1⟩
        cases ha : absentB (x.kid i)
        · exact ⟨⟨⟨h1, h2⟩, by rw [ha] at h3; exact h3⟩, ⟨.inr rfl, h5⟩, .inr rfl, h7⟩
        · obtain ⟨z0, z1⟩ := hz ha
          exact ⟨⟨⟨h1, h2⟩, .inl rfl⟩, ⟨.inl (by rw [h5, z0]; rfl), h5⟩, .inl (by rw [h7, z1]; rfl), h7⟩
    constructor
    · rintro ⟨⟨⟨-, h2⟩, i, hi, h3⟩, h4, h5, -⟩
      have h2' := fun i hi => (e2 i hi).1 (h2 i hi)
      have ho : okP (m + 1) x := ⟨(h2' 0 (by omega)).1, h4, h5, fun i hi => (h2' i hi).2.1, fun i hi => (h2' i hi).2.2⟩
      refine ⟨ho, ?_⟩
      cases he : emptyB x
      · rfl
      · have := (empty_inner ho).1 he i hi
        rw [exB, if_pos e1, this] at h3; cases h3
    · rintro ⟨ho, he⟩
      have hne : ∃ i, i < 8 ∧ exB x (((m + 1 : Nat) : Int) + 1) i = true := by
        refine Classical.byContradiction fun hh => ?_
        have : emptyB x = true := (empty_inner ho).2 fun i hi => Classical.byContradiction fun hn => hh ⟨i, hi, by rw [exB, if_pos e1]; simp [hn]⟩
        rw [he] at this; cases this
      exact ⟨⟨⟨by rw [not_absent he]; rfl, fun i hi => (e2 i hi).2 ⟨ho.1, ho.2.2.2.1 i hi, ho.2.2.2.2 i hi⟩⟩, hne⟩, ho.2.1, ho.2.2.1, .inl e1⟩

theorem tagsIn_iff {x : RN} : tagsIn x = true ↔ rng x.t0 ∧ rng x.t1 := by
  unfold tagsIn rng
  simp only [Bool.and_eq_true, decide_eq_true_eq]
  omega
/-- The reference's 'shape' says the same. -/
theorem shape_iff : ∀ (m : Nat) (x : RN), shapeB x ((m : Int) + 1) = true ↔ okN m x
  | 0, x => by
    rw [shapeB_eq]
    unfold shapeW
    rw [if_pos (by omega), Bool.and_eq_true, Bool.and_eq_true, Bool.and_eq_true, tagsIn_iff]
    unfold leafW lfTo anyTo
    rw [Bool.and_eq_true, any_iff, List.all_eq_true]
    have e2 : ∀ i, lfOk x i = true ↔ (x.v i = 0 → bitB x.t0 i = false ∧ bitB x.t1 i = false) := fun i => by
      unfold lfOk
      rw [Bool.not_eq_true']
      cases h : bitB x.t0 i <;> cases h' : bitB x.t1 i <;> simp
    simp only [e2, bne_iff_ne, ne_eq, beq_iff_eq]
    constructor
    · rintro ⟨⟨⟨h4, h5⟩, -⟩, h6, h2, i, hi, h3⟩
      have ho : okP 0 x := ⟨by omega, h4, h5, fun i hi => h2 i (List.mem_range.2 hi)⟩
      refine ⟨ho, ?_⟩
      cases he : emptyB x
      · rfl
      · exact absurd ((empty_leaf ho).1 he i hi) h3
    · rintro ⟨ho, he⟩
      have hne : ∃ i, i < 8 ∧ ¬ x.v i = 0 := by
        refine Classical.byContradiction fun hh => ?_
        have : emptyB x = true := (empty_leaf ho).2 fun i hi => Classical.byContradiction fun hn => hh ⟨i, hi, hn⟩
        rw [he] at this; cases this
      exact ⟨⟨⟨ho.2.1, ho.2.2.1⟩, by rw [not_absent he]; rfl⟩, by have := ho.1; omega, fun i hi => ho.2.2.2 i (List.mem_range.1 hi), hne⟩
  | m + 1, x => by
    rw [shapeB_eq]
    unfold shapeW
    have e3 : ((m + 1 : Nat) : Int) + 1 - 1 = (m : Int) + 1 := by omega
    rw [if_neg (by omega), Bool.and_eq_true, Bool.and_eq_true, Bool.and_eq_true, Bool.and_eq_true, Bool.and_eq_true, tagsIn_iff, allTo_iff, zero8_iff, someTo, any_iff]
    have e2 : ∀ i, i < 8 → (shOk x (fun i => shapeB (x.kid i) (((m + 1 : Nat) : Int) + 1 - 1)) i = true ↔
        (absentB (x.kid i) = true ∨ okP m (x.kid i) ∧ emptyB (x.kid i) = false) ∧ bitB x.t0 i = ((x.kid i).t0 != 0) ∧ bitB x.t1 i = ((x.kid i).t1 != 0)) := fun i hi => by
      have ih := shape_iff m (x.kid i)
      unfold shOk
      cases ha : absentB (x.kid i)
      · simp only [e3, Bool.false_eq_true, if_false, Bool.and_eq_true, beq_iff_eq, ih, false_or]
        unfold okN
        exact ⟨fun h => ⟨h.1.1, h.1.2, h.2⟩, fun h => ⟨⟨h.1, h.2.1⟩, h.2.2⟩⟩
      · have z0 := (absent_iff.1 ha).2.1
        have z1 := (absent_iff.1 ha).2.2.1
        simp [z0, z1]
    simp only [beq_iff_eq]
    constructor
    · rintro ⟨⟨⟨h4, h5⟩, -⟩, ⟨⟨h1, h2⟩, h6⟩, i, hi, h3⟩
      have ho : okP (m + 1) x := ⟨by omega, h4, h5, h2, fun i hi => (e2 i hi).1 (h6 i hi)⟩
      refine ⟨ho, ?_⟩
      cases he : emptyB x
      · rfl
      · have := (empty_inner ho).1 he i hi
        simp [this] at h3
    · rintro ⟨ho, he⟩
      have hne : ∃ i, i < 8 ∧ (!absentB (x.kid i)) = true := by
        refine Classical.byContradiction fun hh => ?_
        have : emptyB x = true := (empty_inner ho).2 fun i hi => Classical.byContradiction fun hn => hh ⟨i, hi, by simp [hn]⟩
        rw [he] at this; cases this
      exact ⟨⟨⟨ho.2.1, ho.2.2.1⟩, by rw [not_absent he]; rfl⟩, ⟨⟨by have := ho.1; omega, ho.2.2.2.1⟩, fun i hi => (e2 i hi).2 (ho.2.2.2.2 i hi)⟩, hne⟩
theorem shape_valid (l : Int) (x : RN) (h : 1 ≤ l) : shapeB x l = validB x l := by
  obtain ⟨m, rfl⟩ : ∃ m : Nat, l = (m : Int) + 1 := ⟨(l - 1).toNat, by omega⟩
  rw [Bool.eq_iff_iff, shape_iff, valid_iff]
end Go.Proofs.Ytcicfijpfhbcaaa
