/-
  Truncate and Copy, in plain words: what the trees hold; the reference's Set and Tag on valid trees.
-/
import Derived.Test.YtcicfijpfhbcaaaTm
import Derived.Test.YtcicfijpfhbcaaaFt
namespace Go.Proofs.Ytcicfijpfhbcaaa
set_option linter.unusedSimpArgs false
set_option linter.unusedVariables false
set_option linter.unusedSectionVars false
open Go.RowKit

/-- The reference's Set, on a valid tree. -/
theorem refSet_ok {h : Nat} {x : RN} (hT : okT h x) {n : Nat} (hn : n < 1073741824) (v : Int) (cs : Array Value) (W : World) (hr : RdVals W cs 12 (encR h x)) :
    Calls Try.prog 25 #[.agg cs, .int .i64 n, .int .i64 v] W fun e w' => ∃ (h2 : Nat) (x2 : RN), TreePost ((h2 : Int), x2, 0) W e w' ∧ okT h2 x2 ∧ ∀ j, tl h2 x2 j = if j = n then setE v (tl h x n) else tl h x j := by
  have hc := check_iff.2 hT
  have h0 : idxP h x n = 0 := by unfold idxP; rw [if_neg (by simp [hc]), if_neg (by omega)]
  have hnR : n < RM := by rw [RM_val]; exact hn
  have hL : setL (entT h x) n v = lsE RM 0 (updF (tl h x) n (setE v (tl h x n))) := by rw [ent_ls hT]; exact setL_ls (tl_wf hT) hnR v
  have hwf : wfE (updF (tl h x) n (setE v (tl h x n))) := updF_wf (tl_wf hT) n fun he => setE_wf he
  have hfar : ∀ j, RM ≤ j → updF (tl h x) n (setE v (tl h x n)) j = e0 := fun j hj => by rw [updF, if_neg (by omega)]; exact tl_far hT hj
  refine (r_Set_yes cs h x n v W hr h0 (by rw [hL]; exact ls_in _) (by rw [hL]; exact ls_asc _ _)).mono fun e w' hp => ?_
  rcases hp with ⟨hz, -⟩ | ⟨-, h2, x2, hp, hf⟩
  · exact absurd rfl hz
  · rw [hL] at hf
    have hbo := built_ok hwf hfar hf
    exact ⟨h2, x2, hp, hbo.1, fun j => by rw [hbo.2 j]; rfl⟩
/-- The reference's Tag, on a valid tree's entry. -/
theorem refTag_ok {h : Nat} {x : RN} (hT : okT h x) {n : Nat} (hn : n < 1073741824) {k : Nat} (hk : k < 2) (hv : (tl h x n).1 ≠ 0) (cs : Array Value) (W : World) (hr : RdVals W cs 12 (encR h x)) :
    Calls Try.prog 32 #[.agg cs, .int .i64 n, .int .i64 k] W fun e w' => ∃ (h2 : Nat) (x2 : RN), TreePost ((h2 : Int), x2, 0) W e w' ∧ okT h2 x2 ∧ ∀ j, tl h2 x2 j = if j = n then markE k true (tl h x n) else tl h x j := by
  have hc := check_iff.2 hT
  have h0 : idxP h x n = 0 := by unfold idxP; rw [if_neg (by simp [hc]), if_neg (by omega)]
  have hnR : n < RM := by rw [RM_val]; exact hn
  have hg : getP h x n ≠ 0 := by rw [get_tl hT hn]; exact hv
  obtain ⟨e, he⟩ : ∃ e, hitE (entT h x) n = some e := by
    cases hh : hitE (entT h x) n with
    | none => exact absurd ((hit_none hT hn).1 hh) hg
    | some e => exact ⟨e, rfl⟩
  have hL : markL (entT h x) n k true = lsE RM 0 (updF (tl h x) n (markE k true (tl h x n))) := by rw [ent_ls hT]; exact markL_ls hnR hv k hk true
  have hwf : wfE (updF (tl h x) n (markE k true (tl h x n))) := updF_wf (tl_wf hT) n fun he => absurd (by rw [markE_v] at he; exact he) hv
  have hfar : ∀ j, RM ≤ j → updF (tl h x) n (markE k true (tl h x n)) j = e0 := fun j hj => by rw [updF, if_neg (by omega)]; exact tl_far hT hj
  refine (r_Tag (fun h2 x2 er => er = 0 ∧ ∃ q : Nat, h2 = q ∧ okT q x2 ∧ ∀ j, tl q x2 j = if j = n then markE k true (tl h x n) else tl h x j) cs h x n k W hr fun cs W hr => ?_).mono ?_
  · refine (r_mark_yes cs h x n k hk true W hr h0 e he (by rw [hL]; exact ls_in _) (by rw [hL]; exact ls_asc _ _)).mono fun e w' hp => ?_
    rcases hp with ⟨hz, -⟩ | ⟨-, h2, x2, hp, hf⟩
    · exact absurd rfl hz
    · rw [hL] at hf
      have hbo := built_ok hwf hfar hf
      exact ⟨h2, x2, 0, hp, rfl, h2, rfl, hbo.1, fun j => by rw [hbo.2 j]; rfl⟩
  · rintro e w' ⟨h2, x2, er, hp, rfl, q, rfl, ho, hl⟩
    exact ⟨q, x2, hp, ho, hl⟩

/-- A valid tree with these entries. -/
def Cp (F : Nat → Ent) (t : Nat × RN) : Prop := okT t.1 t.2 ∧ ∀ j, tl t.1 t.2 j = F j
theorem Cp.same {F : Nat → Ent} {t u : Nat × RN} (h : Cp F t) (h' : Cp F u) : sameT t.1 u.1 t.2 u.2 = true := by
  have := tree_canon h.1 h'.1 fun j => by rw [h.2 j, h'.2 j]
  exact sameT_of this.1 this.2
theorem Cp.congr {F G : Nat → Ent} {t : Nat × RN} (h : Cp F t) (e : ∀ j, F j = G j) : Cp G t := ⟨h.1, fun j => (h.2 j).trans (e j)⟩
def cpE (m : Nat) (e : Ent) : Ent := (e.1, decide (0 < m) && e.2.1, decide (1 < m) && e.2.2)
theorem cpE_two (e : Ent) : cpE 2 e = e := rfl
theorem cpE_zero (e : Ent) (h : e.1 ≠ 0) : setE e.1 e0 = cpE 0 e := by rw [setE, if_neg h]; rfl
theorem cpE_yes {k : Nat} (hk : k < 2) (e : Ent) (h : hasE k e = true) : markE k true (cpE k e) = cpE (k + 1) e := by
  obtain ⟨v, b, c⟩ := e
  have : k = 0 ∨ k = 1 := by omega
  rcases this with rfl | rfl
  · simp [hasE] at h; simp [markE, cpE, h]
  · simp [hasE] at h; simp [markE, cpE, h]
theorem cpE_no {k : Nat} (hk : k < 2) (e : Ent) (h : hasE k e = false) : cpE k e = cpE (k + 1) e := by
  obtain ⟨v, b, c⟩ := e
  have : k = 0 ∨ k = 1 := by omega
  rcases this with rfl | rfl
  · simp [hasE] at h; simp [cpE, h]
  · simp [hasE] at h; simp [cpE, h]
def cpG (f : Nat → Ent) (l : List Int) : Nat → Ent := fun j => if (j : Int) ∈ l then f j else e0
def cpF (f : Nat → Ent) (l : List Int) (m i : Nat) : Nat → Ent := fun j => if j = i then cpE m (f i) else if (j : Int) ∈ l then f j else e0
theorem cpG_at {f : Nat → Ent} {l : List Int} {i : Nat} (h : (i : Int) ∉ l) : cpG f l i = e0 := if_neg h
theorem cpF_at {f : Nat → Ent} {l : List Int} {m i : Nat} : cpF f l m i i = cpE m (f i) := if_pos rfl
theorem cpF_other {f : Nat → Ent} {l : List Int} {m i j : Nat} (h : j ≠ i) : cpF f l m i j = cpG f l j := if_neg h
theorem cpF_end (f : Nat → Ent) (l : List Int) (i : Nat) (j : Nat) : cpF f l 2 i j = cpG f (l ++ [(i : Int)]) j := by
  unfold cpF cpG
  by_cases h : j = i
  · rw [if_pos h, if_pos (by simp [h]), h]; rfl
  · rw [if_neg h]
    have : ((j : Int) ∈ l ++ [(i : Int)]) ↔ (j : Int) ∈ l := by
      rw [List.mem_append, List.mem_singleton]
      exact ⟨fun e => e.elim id fun e => absurd (by omega) h, .inl⟩
    simp only [this]
/-- The first set of a copied entry. -/
theorem cp_set {f : Nat → Ent} {l : List Int} {i : Nat} (hl : (i : Int) ∉ l) (h0 : (f i).1 ≠ 0) {F : Nat → Ent} {t : Nat × RN} (h : Cp (cpG f l) t) (hF : ∀ j, F j = if j = i then setE (f i).1 (tl t.1 t.2 i) else tl t.1 t.2 j) : ∀ j, F j = cpF f l 0 i j := fun j => by
  rw [hF j]
  by_cases hj : j = i
  · rw [if_pos hj, h.2 i, cpG_at hl, cpE_zero _ h0, hj, cpF_at]
  · rw [if_neg hj, cpF_other hj, h.2 j]
theorem cp_tag {f : Nat → Ent} {l : List Int} {i k : Nat} (hk : k < 2) (hb : hasE k (f i) = true) {F : Nat → Ent} {t : Nat × RN} (h : Cp (cpF f l k i) t) (hF : ∀ j, F j = if j = i then markE k true (tl t.1 t.2 i) else tl t.1 t.2 j) : ∀ j, F j = cpF f l (k + 1) i j := fun j => by
  rw [hF j]
  by_cases hj : j = i
  · rw [if_pos hj, h.2 i, cpF_at, cpE_yes hk _ hb, hj, cpF_at]
  · rw [if_neg hj, h.2 j, cpF_other hj, cpF_other hj]
theorem cp_no {f : Nat → Ent} {l : List Int} {i k : Nat} (hk : k < 2) (hb : hasE k (f i) = false) {t : Nat × RN} (h : Cp (cpF f l k i) t) : Cp (cpF f l (k + 1) i) t := h.congr fun j => by
  by_cases hj : j = i
  · rw [hj, cpF_at, cpF_at, cpE_no hk _ hb]
  · rw [cpF_other hj, cpF_other hj]
theorem has_tl {h : Nat} {x : RN} (hT : okT h x) {i : Nat} (hi : i < 1073741824) (h0 : (tl h x i).1 ≠ 0) {k : Nat} (hk : k < 2) : taggedP h x i k = hasE k (tl h x i) := by
  rw [tagged_tl hT hi hk]; simp [h0]

/-- The entries of a valid tree are those of its list. -/
theorem each_mem {h : Nat} {x : RN} (hT : okT h x) (j : Nat) : (j : Int) ∈ eachL h x (-1) ↔ (tl h x j).1 ≠ 0 := by
  rw [each_list, ent_ls hT]
  unfold idxL
  rw [List.mem_map]
  constructor
  · rintro ⟨e, he, hj⟩
    obtain ⟨q, hq, h0, rfl⟩ := lsE_mem.1 he
    have : q = j := by simp at hj; omega
    exact this ▸ h0
  · intro h0
    have hj : j < RM := by
      rcases Nat.lt_or_ge j RM with h | h
      · exact h
      · rw [tl_far hT h] at h0; exact absurd rfl h0
    exact ⟨_, lsE_mem.2 ⟨j, hj, h0, rfl⟩, by simp⟩
theorem each_nodup (ht : Int) (x : RN) : (eachL ht x (-1)).Nodup := by
  rw [each_list]
  unfold idxL List.Nodup
  rw [List.pairwise_map]
  exact (ent_asc ht x).imp fun h => by omega
theorem cpG_all {h : Nat} {x : RN} (hT : okT h x) (j : Nat) : cpG (tl h x) (eachL h x (-1)) j = tl h x j := by
  unfold cpG
  split
  · rfl
  · rename_i hn
    refine (tl_zero hT ?_).symm
    exact Classical.not_not.1 fun h => hn ((each_mem hT j).2 h)
theorem nodup_at {l : List Int} (h : l.Nodup) {k : Nat} (hk : k < l.length) : l[k] ∉ l.take k := fun hm => by
  obtain ⟨j, hj, he⟩ := List.getElem_of_mem hm
  rw [List.length_take] at hj
  rw [List.getElem_take] at he
  exact (List.pairwise_iff_getElem.1 h j k (by omega) hk (by omega)) he

/-- What Truncate of the program makes. -/
theorem trK_cp {h : Nat} {x : RN} (hT : okT h x) {l : List Int} {i : Nat} (hi : i < 1073741824) (hl : (i : Int) ∉ l) (h0 : (tl h x i).1 ≠ 0) {t : Nat × RN} (ht : Cp (cpG (tl h x) l) t) : ∀ k, k ≤ 2 → Cp (cpF (tl h x) l k i) (trK h x t i k)
  | 0, _ => by
    have hs := step_ok ht.1 hi (getP h x i)
    refine ⟨hs.1, cp_set hl h0 ht fun j => ?_⟩
    rw [← get_tl hT hi]
    exact hs.2.1 j
  | k + 1, hk => by
    have ih := trK_cp hT hi hl h0 ht k (by omega)
    show Cp _ (mkS h x i k (trK h x t i k))
    unfold mkS
    rw [has_tl hT hi h0 (by omega)]
    cases hb : hasE k (tl h x i)
    · rw [if_neg (by simp)]; exact cp_no (by omega) hb ih
    · rw [if_pos rfl]
      have hm := mark_step ih.1 hi k (by omega) true (by rw [ih.2, cpF_at]; exact h0)
      exact ⟨hm.1, cp_tag (by omega) hb ih hm.2.1⟩
theorem trT_cp {h : Nat} {x : RN} (hT : okT h x) (size : Int) : ∀ k, k ≤ (eachL h x (-1)).length → Cp (cpG (tl h x) (((eachL h x (-1)).take k).filter fun i => decide (i < size))) (trT h x size ((eachL h x (-1)).take k))
  | 0, _ => ⟨okT_zero, fun j => by rw [List.take_zero]; rfl⟩
  | k + 1, hk => by
    have ih := trT_cp hT size k (by omega)
    have hlt : k < (eachL h x (-1)).length := by omega
    have hg : (eachL h x (-1))[k]? = some (eachL h x (-1))[k] := List.getElem?_eq_getElem hlt
    have hm : (eachL h x (-1))[k] ∈ eachL h x (-1) := List.getElem_mem hlt
    have hnd := nodup_at (each_nodup h x) hlt
    have ha := each_at hm
    rw [List.take_add_one, hg, Option.toList_some, trT_snoc, List.filter_append]
    generalize (eachL h x (-1))[k] = i at *
    generalize (eachL h x (-1)).take k = l at *
    obtain ⟨n, rfl⟩ : ∃ n : Nat, i = n := ⟨i.toNat, by omega⟩
    have hn : n < 1073741824 := by omega
    unfold trS
    by_cases hs : size ≤ n
    · rw [if_pos hs]
      have : ([(n : Int)].filter fun i => decide (i < size)) = [] := by simp; omega
      rw [this, List.append_nil]; exact ih
    · rw [if_neg hs]
      have : ([(n : Int)].filter fun i => decide (i < size)) = [(n : Int)] := by simp; omega
      rw [this]
      exact (trK_cp hT hn (fun h => hnd (List.mem_filter.1 h).1) ((each_mem hT n).1 hm) ih 2 (by omega)).congr fun j => cpF_end _ _ _ _
/-- What is left behind a cut. -/
def cutE (f : Nat → Ent) (size : Int) : Nat → Ent := fun j => if size ≤ j then e0 else f j
theorem trunc_cp {h : Nat} {x : RN} (hT : okT h x) (size : Int) : Cp (cutE (tl h x) size) (trT h x size (eachL h x (-1))) := by
  have := trT_cp hT size _ (Nat.le_refl _)
  rw [List.take_length] at this
  refine this.congr fun j => ?_
  unfold cpG cutE
  by_cases hs : size ≤ j
  · rw [if_pos hs, if_neg (by rw [List.mem_filter]; simp; omega)]
  · rw [if_neg hs]
    by_cases hm : (j : Int) ∈ eachL h x (-1)
    · rw [if_pos (List.mem_filter.2 ⟨hm, by simp; omega⟩)]
    · rw [if_neg (fun e => hm (List.mem_filter.1 e).1)]
      exact (tl_zero hT (Classical.not_not.1 fun h => hm ((each_mem hT j).2 h))).symm
/-- What the reference has after some entries. -/
def rmF (f : Nat → Ent) (size : Int) (l : List Int) : Nat → Ent := fun j => if (j : Int) ∈ l ∧ size ≤ j then e0 else f j
theorem rmF_skip {f : Nat → Ent} {size : Int} {l : List Int} {i : Nat} (h : ¬ size ≤ i) (j : Nat) : rmF f size l j = rmF f size (l ++ [(i : Int)]) j := by
  unfold rmF
  have : ((j : Int) ∈ l ++ [(i : Int)] ∧ size ≤ j) ↔ ((j : Int) ∈ l ∧ size ≤ j) := by
    rw [List.mem_append, List.mem_singleton]
    constructor
    · rintro ⟨h1 | h1, h2⟩
      · exact ⟨h1, h2⟩
      · rw [h1] at h2; exact absurd h2 h
    · rintro ⟨h1, h2⟩; exact ⟨.inl h1, h2⟩
  simp only [this]
theorem rmF_set {f : Nat → Ent} {size : Int} {l : List Int} {i : Nat} (h : size ≤ i) {F : Nat → Ent} {t : Nat × RN} (hc : Cp (rmF f size l) t) (hF : ∀ j, F j = if j = i then setE 0 (tl t.1 t.2 i) else tl t.1 t.2 j) (j : Nat) : F j = rmF f size (l ++ [(i : Int)]) j := by
  rw [hF j]
  unfold rmF
  by_cases hj : j = i
  · subst hj
    rw [if_pos rfl, setE, if_pos rfl, if_pos ⟨by simp, h⟩]
  · rw [if_neg hj, hc.2 j]
    unfold rmF
    have : ((j : Int) ∈ l ++ [(i : Int)] ∧ size ≤ j) ↔ ((j : Int) ∈ l ∧ size ≤ j) := by
      rw [List.mem_append, List.mem_singleton]
      exact ⟨fun e => ⟨e.1.elim id fun e => absurd (by omega) hj, e.2⟩, fun e => ⟨.inl e.1, e.2⟩⟩
    simp only [this]
theorem rmF_end {h : Nat} {x : RN} (hT : okT h x) (size : Int) (j : Nat) : rmF (tl h x) size (eachL h x (-1)) j = cutE (tl h x) size j := by
  unfold rmF cutE
  by_cases hs : size ≤ j
  · rw [if_pos hs]
    by_cases hm : (j : Int) ∈ eachL h x (-1)
    · rw [if_pos ⟨hm, hs⟩]
    · rw [if_neg (fun e => hm e.1)]
      exact tl_zero hT (Classical.not_not.1 fun h => hm ((each_mem hT j).2 h))
  · rw [if_neg hs, if_neg (fun e => hs e.2)]
end Go.Proofs.Ytcicfijpfhbcaaa
