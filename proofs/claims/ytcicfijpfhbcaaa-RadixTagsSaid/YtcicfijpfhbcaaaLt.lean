/-
  Set and the reference's Set make the same tree.
-/
import Derived.Test.YtcicfijpfhbcaaaSs
import Derived.Test.YtcicfijpfhbcaaaEs
namespace Go.Proofs.Ytcicfijpfhbcaaa
set_option linter.unusedSimpArgs false
set_option linter.unusedVariables false
set_option linter.unusedSectionVars false
open Go.RowKit

theorem get_out {ht : Int} {x : RN} {i : Int} (h : checkP ht x ≠ 0 ∨ i < 0 ∨ 1073741824 ≤ i) : getP ht x i = 0 := by
  unfold getP
  cases hl : leafP ht x i with
  | none => rfl
  | some y =>
    exfalso
    have h1 := leafP_in hl
    unfold leafP at hl
    split at hl
    · rename_i hh; have := hh.1; omega
    · cases hl
theorem hit_mem {l : List E3} {i : Int} {e : E3} (h : hitE l i = some e) : e ∈ l ∧ e.1 = i := by
  unfold hitE at h
  cases hk : l[atP l i]? with
  | none => rw [hk] at h; cases h
  | some y =>
    rw [hk] at h
    dsimp only at h
    split at h
    · injection h with h; subst h
      exact ⟨List.mem_of_getElem? hk, by assumption⟩
    · cases h
theorem get_ref (ht : Int) (x : RN) (i : Int) : getP ht x i = valE (hitE (entT ht x) i) := by
  by_cases hc : checkP ht x = 0
  · have hb := check_neg hc
    obtain ⟨h, rfl⟩ : ∃ h : Nat, ht = h := ⟨ht.toNat, by omega⟩
    have hT := check_iff.1 hc
    rw [ent_ls hT]
    by_cases hi : i < 0 ∨ 1073741824 ≤ i
    · rw [get_out (.inr hi)]
      cases hh : hitE (lsE RM 0 (tl h x)) i with
      | none => rfl
      | some e =>
        have h1 := hit_mem hh
        have h2 := ls_low h1.1
        rw [RM_val] at h2
        omega
    · obtain ⟨n, rfl⟩ : ∃ n : Nat, i = n := ⟨i.toNat, by omega⟩
      have hn : n < RM := by rw [RM_val]; omega
      rw [hit_ls hn, get_tl hT (by omega)]
      split
      · rename_i h0; rw [h0]; rfl
      · rfl
  · rw [get_out (.inl hc), ent_bad hc]; rfl
theorem sameT_of {h h' : Nat} {x x' : RN} (h1 : h = h') (h2 : sameB x x' = true) : sameT h h' x x' = true := by
  unfold sameT
  rw [h1, h2]
  simp
/-- What Set leaves, and what the reference's Set leaves. -/
theorem sets_facts (ht : Int) (x : RN) (i v : Int) : ∃ (h1 : Int) (x1 : RN) (er : Int), setP ht x i v = (h1, x1, er) ∧
    (∀ cs W, RdVals W cs 12 (encR ht x) → Calls Try.prog 25 #[.agg cs, .int .i64 i, .int .i64 v] W fun e w' => ∃ (h2 : Int) (x2 : RN), TreePost (h2, x2, er) W e w' ∧ sameT h1 h2 x1 x2 = true) ∧
    (er = 0 → getP h1 x1 i = v) := by
  by_cases hbad : idxP ht x i ≠ 0
  · have hs : setP ht x i v = (0, zeroN, idxP ht x i) := by
      unfold setP idxP at *
      by_cases hc : checkP ht x ≠ 0
      · rw [if_pos hc, if_pos hc]
      · rw [if_neg hc] at hbad ⊢
        rw [if_neg hc]
        by_cases hi : i < 0 ∨ 1073741824 ≤ i
        · rw [if_pos hi, if_pos hi]
        · rw [if_neg hi] at hbad; exact absurd rfl hbad
    refine ⟨0, zeroN, idxP ht x i, hs, fun cs W hr => (r_Set_no cs ht x i v W hr [] hbad).mono fun e w' hp => ?_, fun h => absurd h hbad⟩
    rcases hp with ⟨-, hp⟩ | ⟨h0, -⟩
    · exact ⟨0, zeroN, hp, by decide⟩
    · exact absurd h0 hbad
  · have h0 : idxP ht x i = 0 := Classical.not_not.1 hbad
    have hcc : checkP ht x = 0 ∧ 0 ≤ i ∧ i < 1073741824 := by
      unfold idxP at h0
      by_cases hc : checkP ht x ≠ 0
      · rw [if_pos hc] at h0; exact absurd h0 hc
      · rw [if_neg hc] at h0
        by_cases hi : i < 0 ∨ 1073741824 ≤ i
        · rw [if_pos hi] at h0; cases h0
        · exact ⟨Classical.not_not.1 hc, by omega, by omega⟩
    obtain ⟨hc, hi0, hi1⟩ := hcc
    have hb := check_neg hc
    obtain ⟨h, rfl⟩ : ∃ h : Nat, ht = h := ⟨ht.toNat, by omega⟩
    obtain ⟨n, rfl⟩ : ∃ n : Nat, i = n := ⟨i.toNat, by omega⟩
    have hT := check_iff.1 hc
    have hn : n < 1073741824 := by omega
    have hnR : n < RM := by rw [RM_val]; exact hn
    have hst := step_ok (t := (h, x)) hT hn v
    have hL : setL (entT h x) n v = lsE RM 0 (updF (tl h x) n (setE v (tl h x n))) := by rw [ent_ls hT]; exact setL_ls (tl_wf hT) hnR v
    have hwf : wfE (updF (tl h x) n (setE v (tl h x n))) := updF_wf (tl_wf hT) n fun he => setE_wf he
    have hfar : ∀ j, RM ≤ j → updF (tl h x) n (setE v (tl h x n)) j = e0 := fun j hj => by rw [updF, if_neg (by omega)]; exact tl_far hT hj
    refine ⟨(stepT (h, x) n v).1, (stepT (h, x) n v).2, 0, hst.2.2, fun cs W hr => ?_, fun _ => ?_⟩
    · refine (r_Set_yes cs h x n v W hr h0 (by rw [hL]; exact ls_in _) (by rw [hL]; exact ls_asc _ _)).mono fun e w' hp => ?_
      rcases hp with ⟨hz, -⟩ | ⟨-, h2, x2, hp, hf⟩
      · exact absurd rfl hz
      · rw [hL] at hf
        have hbo := built_ok hwf hfar hf
        have hcn := tree_canon hst.1 hbo.1 fun j => by rw [hst.2.1 j, hbo.2 j]; rfl
        exact ⟨h2, x2, hp, sameT_of hcn.1 hcn.2⟩
    · have hg := get_tl hst.1 hn
      rw [hst.2.1 n, if_pos rfl] at hg
      refine hg.trans ?_
      unfold setE
      by_cases hv : v = 0
      · rw [if_pos hv, hv]; rfl
      · rw [if_neg hv]
end Go.Proofs.Ytcicfijpfhbcaaa
