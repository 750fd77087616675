/-
  A page cache of 24 pages as a finite map: what each operation does to it. No program.
-/
import Derived.Test.YtcicfijpfhbcaaaTp
import Derived.Test.YtcicfijpfhbcaaaFq
namespace Go.Proofs.Ytcicfijpfhbcaaa
set_option linter.unusedSimpArgs false
set_option linter.unusedVariables false
set_option linter.unusedSectionVars false
open Go.RowKit

/-- A page: its frame, its shadow, whether it is dirty. -/
abbrev Pg := Int × Int × Bool
def pg0 : Pg := (-1, -1, false)
def pgE (p : Pg) : Ent := if 0 ≤ p.1 then (p.1 + 1, p.2.2, false) else if 0 ≤ p.2.1 then (-1 - p.2.1, false, false) else e0
/-- A page as a script leaves it. -/
def okPg (p : Pg) : Prop := (p.1 = -1 ∨ 0 ≤ p.1 ∧ p.1 < 256) ∧ (p.2.1 = -1 ∨ 0 ≤ p.2.1 ∧ p.2.1 < 256 ∧ p.1 = -1) ∧ (p.2.2 = true → 0 ≤ p.1)
structure okM (m : Nat → Pg) : Prop where
  pg : ∀ i, okPg (m i)
  inj : ∀ i j, i < 24 → j < 24 → 0 ≤ (m i).1 → (m i).1 = (m j).1 → i = j
def mF (m : Nat → Pg) : Nat → Ent := fun j => if j < 24 then pgE (m j) else e0
def updM (m : Nat → Pg) (i : Nat) (p : Pg) : Nat → Pg := fun j => if j = i then p else m j
theorem updM_same (m : Nat → Pg) (i : Nat) (p : Pg) : updM m i p i = p := if_pos rfl
theorem updM_other (m : Nat → Pg) (i : Nat) (p : Pg) {j : Nat} (h : j ≠ i) : updM m i p j = m j := if_neg h
theorem mF_upd (m : Nat → Pg) {i : Nat} (hi : i < 24) (p : Pg) (j : Nat) : mF (updM m i p) j = if j = i then pgE p else mF m j := by
  unfold mF
  by_cases hj : j = i
  · subst hj; rw [if_pos hi, if_pos rfl, updM_same]
  · rw [if_neg hj, updM_other _ _ _ hj]
theorem ok0 : okPg pg0 := by unfold okPg pg0; simp
theorem okM0 : okM fun _ => pg0 := ⟨fun _ => ok0, fun i j _ _ h => absurd h (by decide)⟩
theorem mF0 (j : Nat) : mF (fun _ => pg0) j = e0 := by unfold mF; split <;> rfl
theorem okM.upd {m : Nat → Pg} (h : okM m) (i : Nat) {p : Pg} (hp : okPg p) (hn : 0 ≤ p.1 → ∀ j, j < 24 → j ≠ i → (m j).1 ≠ p.1) : okM (updM m i p) := by
  refine ⟨fun j => ?_, fun a b ha hb h0 he => ?_⟩
  · by_cases hj : j = i
    · subst hj; rw [updM_same]; exact hp
    · rw [updM_other _ _ _ hj]; exact h.pg j
  · by_cases ea : a = i
    · by_cases eb : b = i
      · rw [ea, eb]
      · subst ea
        rw [updM_same] at h0 he
        rw [updM_other _ _ _ eb] at he
        exact absurd he.symm (hn h0 b hb eb)
    · rw [updM_other _ _ _ ea] at h0 he
      by_cases eb : b = i
      · subst eb
        rw [updM_same] at he
        exact absurd he (hn (by rw [← he]; exact h0) a ha ea)
      · rw [updM_other _ _ _ eb] at he
        exact h.inj a b ha hb h0 he
theorem pgE_zero {p : Pg} (h : okPg p) : (pgE p).1 = 0 ↔ p.1 = -1 ∧ p.2.1 = -1 := by
  unfold pgE
  obtain ⟨h1, h2, -⟩ := h
  by_cases h0 : 0 ≤ p.1
  · rw [if_pos h0]; simp; omega
  · rw [if_neg h0]
    by_cases h3 : 0 ≤ p.2.1
    · rw [if_pos h3]; simp; omega
    · rw [if_neg h3]; simp [e0]; omega

section
variable {m : Nat → Pg} {t : Nat × RN}
theorem cm_get (hc : Cp (mF m) t) {i : Nat} (hi : i < 24) : getP t.1 t.2 i = (pgE (m i)).1 := by
  rw [get_tl hc.1 (by omega), hc.2 i]; unfold mF; rw [if_pos hi]
theorem cm_tl (hc : Cp (mF m) t) {i : Nat} (hi : i < 24) : tl t.1 t.2 i = pgE (m i) := by
  rw [hc.2 i]; unfold mF; rw [if_pos hi]
/-- The entries of the tree are pages. -/
theorem cm_mem (hm : okM m) (hc : Cp (mF m) t) {p : Int} (hp : p ∈ eachL t.1 t.2 (-1)) : ∃ i : Nat, p = i ∧ i < 24 ∧ getP t.1 t.2 p = (pgE (m i)).1 ∧ (pgE (m i)).1 ≠ 0 := by
  have ha := each_at hp
  obtain ⟨i, rfl⟩ : ∃ i : Nat, p = i := ⟨p.toNat, by omega⟩
  have h0 := (each_mem hc.1 i).1 hp
  rw [hc.2 i] at h0
  unfold mF at h0
  by_cases hi : i < 24
  · rw [if_pos hi] at h0
    exact ⟨i, rfl, hi, cm_get hc hi, h0⟩
  · rw [if_neg hi] at h0; exact absurd rfl h0
theorem cm_vOk (hm : okM m) (hc : Cp (mF m) t) : vOk t.1 t.2 := fun p => by
  by_cases hp : p ∈ eachL t.1 t.2 (-1)
  · obtain ⟨i, -, hi, hg, -⟩ := cm_mem hm hc hp
    rw [hg]
    have := hm.pg i
    unfold okPg at this
    unfold pgE
    split
    · simp; omega
    · split
      · simp; omega
      · simp [e0]
  · have : getP t.1 t.2 p = 0 := by
      by_cases hb : p < 0 ∨ 1073741824 ≤ p
      · exact get_out (by omega)
      · obtain ⟨i, rfl⟩ : ∃ i : Nat, p = i := ⟨p.toNat, by omega⟩
        rw [get_tl hc.1 (by omega)]
        exact Classical.not_not.1 fun h => hp ((each_mem hc.1 i).2 h)
    rw [this]; omega
theorem dup_none (hm : okM m) (hc : Cp (mF m) t) : ∀ k, k ≤ (eachL t.1 t.2 (-1)).length → dupL (((eachL t.1 t.2 (-1)).take k).map (getP t.1 t.2)) = false
  | 0, _ => by rw [List.take_zero]; rfl
  | k + 1, hk => by
    have ih := dup_none hm hc k (by omega)
    have hlt : k < (eachL t.1 t.2 (-1)).length := by omega
    have hg : (eachL t.1 t.2 (-1))[k]? = some (eachL t.1 t.2 (-1))[k] := List.getElem?_eq_getElem hlt
    have hnd := nodup_at (each_nodup t.1 t.2) hlt
    obtain ⟨i, hi1, hi2, hi3, hi4⟩ := cm_mem hm hc (List.getElem_mem hlt)
    rw [List.take_add_one, hg, Option.toList_some, List.map_append, List.map_singleton, dup_snoc, ih, Bool.false_or]
    cases hcon : (decide (0 < getP t.1 t.2 (eachL t.1 t.2 (-1))[k]) && (((eachL t.1 t.2 (-1)).take k).map (getP t.1 t.2)).contains (getP t.1 t.2 (eachL t.1 t.2 (-1))[k]))
    · rfl
    · exfalso
      rw [Bool.and_eq_true, decide_eq_true_eq, List.contains_iff_mem, List.mem_map] at hcon
      obtain ⟨hpos, q, hq, he⟩ := hcon
      have hq' : q ∈ eachL t.1 t.2 (-1) := List.mem_of_mem_take hq
      obtain ⟨j, hj1, hj2, hj3, hj4⟩ := cm_mem hm hc hq'
      rw [hj3, hi3] at he
      rw [hi3] at hpos
      have oki := hm.pg i
      have okj := hm.pg j
      have f : ∀ p : Pg, okPg p → 0 < (pgE p).1 → 0 ≤ p.1 ∧ (pgE p).1 = p.1 + 1 := fun p hp h => by
        unfold okPg at hp
        unfold pgE at h ⊢
        by_cases h0 : 0 ≤ p.1
        · rw [if_pos h0]; exact ⟨h0, rfl⟩
        · rw [if_neg h0] at h
          by_cases h1 : 0 ≤ p.2.1
          · rw [if_pos h1] at h; simp at h; omega
          · rw [if_neg h1] at h; simp [e0] at h
      have h1 := f _ oki hpos
      have h2 := f _ okj (by rw [he]; exact hpos)
      have : j = i := hm.inj j i hj2 hi2 h2.1 (by omega)
      subst this
      rw [hi1, ← hj1] at hnd
      exact hnd hq
theorem pg_tag (hm : okM m) (hc : Cp (mF m) t) {i : Nat} (hi : i < 24) : taggedP t.1 t.2 i 0 = (m i).2.2 ∧ taggedP t.1 t.2 i 1 = false := by
  have h0 := tagged_tl hc.1 (i := i) (by omega) (tag := 0) (by omega)
  have h1 := tagged_tl hc.1 (i := i) (by omega) (tag := 1) (by omega)
  have ok := hm.pg i
  rw [cm_tl hc hi] at h0 h1
  refine ⟨h0.trans ?_, h1.trans ?_⟩
  · unfold okPg at ok
    unfold pgE
    by_cases a : 0 ≤ (m i).1
    · rw [if_pos a]; simp [hasE]; omega
    · rw [if_neg a]
      have hd : (m i).2.2 = false := by
        cases hd : (m i).2.2
        · rfl
        · exact absurd (ok.2.2 hd) a
      rw [hd]
      split <;> simp [hasE, e0]
  · unfold pgE
    split
    · simp [hasE]
    · split <;> simp [hasE, e0]
theorem cm_check (hm : okM m) (hc : Cp (mF m) t) : fcP t.1 t.2 = 0 := by
  have h0 : checkP t.1 t.2 = 0 := check_iff.2 hc.1
  have hb : (eachL t.1 t.2 (-1)).any (badB t.1 t.2) = false := any_no _ _ fun p hp => by
    obtain ⟨i, rfl, hi, hg, -⟩ := cm_mem hm hc hp
    have ok := hm.pg i
    have ht := pg_tag hm hc hi
    unfold badB
    rw [hg, ht.1, ht.2, Bool.or_false]
    unfold okPg at ok
    unfold pgE
    by_cases a : 0 ≤ (m i).1
    · rw [if_pos a]; simp; omega
    · have hd : (m i).2.2 = false := by
        cases hd : (m i).2.2
        · rfl
        · exact absurd (ok.2.2 hd) a
      rw [if_neg a, hd]
      split
      · simp; omega
      · simp [e0]
  have hd := dup_none hm hc _ (Nat.le_refl _)
  rw [List.take_length] at hd
  unfold fcP
  rw [if_neg (by simp [h0]), hb, hd]
  rfl
theorem cm_fcI (hm : okM m) (hc : Cp (mF m) t) {i : Nat} (hi : i < 24) : fcI t.1 t.2 i = 0 := by
  unfold fcI
  rw [if_neg (by simp [cm_check hm hc]), if_neg (by omega)]
theorem cm_fr (hm : okM m) (hc : Cp (mF m) t) {i : Nat} (hi : i < 24) : frP t.1 t.2 i = (m i).1 := by
  unfold frP
  rw [cm_get hc hi]
  have ok := hm.pg i
  unfold okPg at ok
  unfold pgE
  by_cases a : 0 ≤ (m i).1
  · rw [if_pos a]; simp; omega
  · rw [if_neg a]
    by_cases b : 0 ≤ (m i).2.1
    · rw [if_pos b]; simp; omega
    · rw [if_neg b]; simp [e0]; omega
theorem cm_frame (hm : okM m) (hc : Cp (mF m) t) {i : Nat} (hi : i < 24) : frameP t.1 t.2 i = (m i).1 := by
  unfold frameP
  rw [if_neg (by simp [cm_fcI hm hc hi]), cm_fr hm hc hi]
theorem cm_shadow (hm : okM m) (hc : Cp (mF m) t) {i : Nat} (hi : i < 24) : shadowP t.1 t.2 i = (m i).2.1 := by
  unfold shadowP
  rw [if_neg (by simp [cm_fcI hm hc hi]), cm_get hc hi]
  have ok := hm.pg i
  unfold okPg at ok
  unfold pgE
  by_cases a : 0 ≤ (m i).1
  · rw [if_pos a]; simp; omega
  · rw [if_neg a]
    by_cases b : 0 ≤ (m i).2.1
    · rw [if_pos b]; simp; omega
    · rw [if_neg b]; simp [e0]; omega
/-- Whether a frame belongs to a page. -/
def takenB (m : Nat → Pg) (k : Nat) (f : Int) : Bool := (List.range k).any fun i => (m i).1 == f
theorem taken_succ (m : Nat → Pg) (k : Nat) (f : Int) : takenB m (k + 1) f = (takenB m k f || (m k).1 == f) := by
  unfold takenB
  rw [List.range_succ, List.any_append, List.any_cons, List.any_nil, Bool.or_false]
theorem cm_has (hm : okM m) (hc : Cp (mF m) t) {f : Int} (hf : 0 ≤ f) : hasP t.1 t.2 f = takenB m 24 f := by
  rw [Bool.eq_iff_iff]
  unfold hasP takenB
  rw [List.any_eq_true, List.any_eq_true]
  constructor
  · rintro ⟨p, hp, he⟩
    obtain ⟨i, rfl, hi, hg, -⟩ := cm_mem hm hc hp
    refine ⟨i, List.mem_range.2 hi, ?_⟩
    rw [hg] at he
    have ok := hm.pg i
    unfold okPg at ok
    unfold pgE at he
    by_cases a : 0 ≤ (m i).1
    · rw [if_pos a] at he; simp at he ⊢; omega
    · rw [if_neg a] at he
      by_cases b : 0 ≤ (m i).2.1
      · rw [if_pos b] at he; simp at he; omega
      · rw [if_neg b] at he; simp [e0] at he; omega
  · rintro ⟨i, hi, he⟩
    have hi' := List.mem_range.1 hi
    have he' : (m i).1 = f := by simpa using he
    have hE : pgE (m i) = ((m i).1 + 1, (m i).2.2, false) := if_pos (by omega)
    refine ⟨(i : Int), (each_mem hc.1 i).2 ?_, ?_⟩
    · rw [cm_tl hc hi', hE]; show (m i).1 + 1 ≠ 0; omega
    · rw [cm_get hc hi', hE]; simp [he']
theorem setE_pg {i : Nat} (hm : okM m) {v : Int} {p : Pg} (hd : p.2.2 = (m i).2.2) (hv : v = (pgE p).1) (h0 : v ≠ 0) (hp : okPg p) : setE v (pgE (m i)) = pgE p := by
  have ok := hm.pg i
  rw [setE, if_neg h0, hv]
  unfold okPg at ok hp
  have hd1 : (pgE (m i)).2 = ((m i).2.2, false) := by
    unfold pgE
    split
    · rfl
    · have hdd : (m i).2.2 = false := by
        cases hdd : (m i).2.2
        · rfl
        · rename_i a; exact absurd (ok.2.2 hdd) a
      rw [hdd]; split <;> rfl
  have hd2 : (pgE p).2 = (p.2.2, false) := by
    unfold pgE
    split
    · rfl
    · have hdd : p.2.2 = false := by
        cases hdd : p.2.2
        · rfl
        · rename_i a; exact absurd (hp.2.2 hdd) a
      rw [hdd]; split <;> rfl
  rw [hd1, ← hd, ← hd2]
/-- One set of the map. -/
theorem cm_set (hm : okM m) (hc : Cp (mF m) t) {i : Nat} (hi : i < 24) {p : Pg} (hd : p.2.2 = (m i).2.2) (hp : okPg p) (h0 : (pgE p).1 ≠ 0) :
    setP t.1 t.2 i (pgE p).1 = (((stepT t i (pgE p).1).1 : Int), (stepT t i (pgE p).1).2, 0) ∧ Cp (mF (updM m i p)) (stepT t i (pgE p).1) := by
  have hs := step_ok hc.1 (i := i) (by omega) (pgE p).1
  refine ⟨hs.2.2, hs.1, fun j => ?_⟩
  rw [hs.2.1 j, mF_upd m hi p j]
  by_cases hj : j = i
  · rw [if_pos hj, if_pos hj, cm_tl hc hi, setE_pg hm hd rfl h0 hp]
  · rw [if_neg hj, if_neg hj, hc.2 j]
theorem cm_del (hm : okM m) (hc : Cp (mF m) t) {i : Nat} (hi : i < 24) :
    setP t.1 t.2 i 0 = (((stepT t i 0).1 : Int), (stepT t i 0).2, 0) ∧ Cp (mF (updM m i pg0)) (stepT t i 0) := by
  have hs := step_ok hc.1 (i := i) (by omega) 0
  refine ⟨hs.2.2, hs.1, fun j => ?_⟩
  rw [hs.2.1 j, mF_upd m hi pg0 j]
  by_cases hj : j = i
  · rw [if_pos hj, if_pos hj, setE, if_pos rfl]; rfl
  · rw [if_neg hj, if_neg hj, hc.2 j]
theorem cm_dirty (hm : okM m) (hc : Cp (mF m) t) {i : Nat} (hi : i < 24) (h0 : 0 ≤ (m i).1) (on : Bool) :
    markP t.1 t.2 i 0 on = ((t.1 : Int), updN (markLeaf 0 on) i (t.1 - 1) t.2, 0) ∧ Cp (mF (updM m i ((m i).1, (m i).2.1, on))) (t.1, updN (markLeaf 0 on) i (t.1 - 1) t.2) := by
  have hE : pgE (m i) = ((m i).1 + 1, (m i).2.2, false) := if_pos h0
  have hs := mark_step hc.1 (i := i) (by omega) 0 (by omega) on (by rw [cm_tl hc hi, hE]; show (m i).1 + 1 ≠ 0; omega)
  refine ⟨hs.2.2, hs.1, fun j => ?_⟩
  rw [hs.2.1 j, mF_upd m hi _ j]
  by_cases hj : j = i
  · rw [if_pos hj, if_pos hj, cm_tl hc hi, hE]
    have : pgE ((m i).1, (m i).2.1, on) = ((m i).1 + 1, on, false) := if_pos h0
    rw [this]; rfl
  · rw [if_neg hj, if_neg hj, hc.2 j]
end
end Go.Proofs.Ytcicfijpfhbcaaa
