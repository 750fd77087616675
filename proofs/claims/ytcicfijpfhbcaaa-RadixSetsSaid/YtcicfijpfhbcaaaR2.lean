/-
  The row RadixSets: for every tree, index and value the law answers true, and the tree reads as it did.
-/
import Derived.Test.YtcicfijpfhbcaaaLs
import Derived.Test.YtcicfijpfhbcaaaRo
namespace Go.Proofs.Ytcicfijpfhbcaaa
set_option linter.unusedSimpArgs false
set_option linter.unusedVariables false
set_option linter.unusedSectionVars false
open Go.RowKit Go.WideShapes Go.ChangeShapes Go.ChangeAt

set_option maxRecDepth 100000 in
theorem radixSets_lifted (os : Os) (started : os.Started) (H : Type) (enc : TypeId × Value → H) :
    ReturnsInHanded {} Try.checked os 4 .any (Rows.radixSetsSpec.pre6 enc Try.prog Try.f4 Rows.radixSetsRow.domain false) (Rows.radixSetsSpec.post enc Try.prog Try.f4 false true false false) := by
  refine returnsInHanded_of_change (C := Try.checked) own_ started (by kernel_rfl) Try.func4
    (ChangeSpec.witness6 (enc := enc) (C := Try.checked) false ⟨#[], #[.agg (cellsR 0 zeroN (.slice none 0 0)), .int .i64 0, .int .i64 0], []⟩ 8 (by kernel_rfl) (by kernel_rfl) (by kernel_rfl) (by kernel_rfl)) ?_
  intro W base args ds gs before hval0 hW hcnd _
  have hW' := hW
  obtain ⟨p, q, hA0, hV, rfl, hfz, hnd⟩ := hW
  have hA : DataW.TrodAll enc Try.prog W 0 (fun _ => true) true Try.f4.params.toList args.toList ds p := hA0
  rw [Try.params4] at hA
  obtain ⟨v0, v1, v2, d0, d1, d2, p0, p1, p2, rfl, rfl, rfl, h0, h1, h2⟩ := trodAll_three hA
  obtain ⟨rfl, rfl⟩ := trodVars_none hV
  obtain ⟨a1, rfl, rfl, rfl, hwf⟩ := open_int Try.underlying3 (hval0 1 3 v1 rfl rfl) h1
  obtain ⟨a2, rfl, rfl, rfl, hwf2⟩ := open_int Try.underlying3 (hval0 2 3 v2 rfl rfl) h2
  obtain ⟨g0, g1⟩ := wf_i64 hwf
  obtain ⟨k0, k1⟩ := wf_i64 hwf2
  obtain ⟨cs, ht, x, rfl, hr⟩ := open_R h0
  have hlt : ∀ y ∈ (p0 ++ [] ++ []) ++ [], y.block < W.heap.size := fun y hy => hW'.lt y hy
  refine (l_Sets cs ht x a1 a2 W hr g0 g1).mono fun e W' ⟨he, hb⟩ => ?_
  subst he
  refine ⟨_, rfl, post_of_below (pa := p0 ++ ([] ++ [])) (pv := []) hW' (fun _ _ _ => trodAll_mk1 (shut_bool Try.underlying4 _)) (fun sp hsp => trodAll_mk3 (WideElems.Trod_stays laidOut_ readR rowR h0 (fun y hy => hb.same (hlt y (by simpa using hy))) (fun y hy => hsp y (by simpa using hy))) (shut_int Try.underlying3 hwf) (shut_int Try.underlying3 hwf2))
    (fun _ _ => rfl) (by simp) hb (ok_one (by kernel_rfl) rfl (okWide_bool_mk Try.underlying4 _))⟩

set_option maxRecDepth 100000 in
theorem radixSets_holds : Rows.RadixSetsSaid :=
  OpenClaim.holds_of_wide 4 Try.f4 rfl rfl rfl rfl rfl rfl rfl ⟨rfl, rfl, rfl, rfl, rfl⟩ rfl rfl rfl rfl rfl (by kernel_rfl) Try.func4 (by kernel_rfl)
    (of_decide_eq_true (by kernel_rfl)) (by unfold Func.isWrapper; rw [if_neg (by decide +kernel)]; exact ⟨rfl, rfl⟩)
    (fun os started H enc _ => radixSets_lifted os started H enc)
end Go.Proofs.Ytcicfijpfhbcaaa
