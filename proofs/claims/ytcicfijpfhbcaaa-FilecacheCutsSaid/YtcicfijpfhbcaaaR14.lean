/-
  The row FilecacheCuts: for every list the law answers true, and the list reads as it did.
-/
import Derived.Test.YtcicfijpfhbcaaaLc
import Derived.Test.YtcicfijpfhbcaaaOv
import Derived.Test.YtcicfijpfhbcaaaRo
namespace Go.Proofs.Ytcicfijpfhbcaaa
set_option linter.unusedSimpArgs false
set_option linter.unusedVariables false
set_option linter.unusedSectionVars false
open Go.RowKit Go.WideShapes Go.ChangeShapes Go.ChangeAt

set_option maxRecDepth 100000 in
theorem filecacheCuts_lifted (os : Os) (started : os.Started) (H : Type) (enc : TypeId × Value → H) :
    ReturnsInHanded {} Try.checked os 16 .any (Rows.filecacheCutsSpec.pre6 enc Try.prog Try.f16 Rows.filecacheCutsRow.domain false) (Rows.filecacheCutsSpec.post enc Try.prog Try.f16 false true false false) := by
  refine returnsInHanded_of_change (C := Try.checked) own_ started (by kernel_rfl) Try.func16
    (ChangeSpec.witness6 (enc := enc) (C := Try.checked) false ⟨#[], #[.slice none 0 0, .int .i64 0], []⟩ 8 (by kernel_rfl) (by kernel_rfl) (by kernel_rfl) (by kernel_rfl)) ?_
  intro W base args ds gs before hval0 hW hcnd _
  have hW' := hW
  obtain ⟨p, q, hA0, hV, rfl, hfz, hnd⟩ := hW
  have hA : DataW.TrodAll enc Try.prog W 0 (fun _ => true) true Try.f16.params.toList args.toList ds p := hA0
  rw [Try.params16] at hA
  obtain ⟨v0, v1, d0, d1, p0, p1, rfl, rfl, rfl, h0, h1⟩ := trodAll_two hA
  obtain ⟨rfl, rfl⟩ := trodVars_none hV
  obtain ⟨tag, rfl, rfl, rfl, hwf⟩ := open_int Try.underlying3 (hval0 1 3 v1 rfl rfl) h1
  obtain ⟨g0, g1⟩ := wf_i64 hwf
  obtain ⟨A, n, cap, a, rfl, hr, -⟩ := open_ow (hval0 0 57 v0 rfl rfl) h0
  have hlt : ∀ y ∈ (p0 ++ []) ++ [], y.block < W.heap.size := fun y hy => hW'.lt y hy
  refine (m_Cuts A cap n a tag W hr).mono fun e W' ⟨he, hb⟩ => ?_
  subst he
  refine ⟨_, rfl, post_of_below (pa := p0 ++ []) (pv := []) hW' (fun _ _ _ => trodAll_mk1 (shut_bool Try.underlying4 _)) (fun sp hsp => trodAll_mk2 (WideElems.Trod_stays laidOut_ readW rowW h0 (fun y hy => hb.same (hlt y (by simpa using hy))) (fun y hy => hsp y (by simpa using hy))) (shut_int Try.underlying3 hwf))
    (fun _ _ => rfl) rfl hb (ok_one (by kernel_rfl) rfl (okWide_bool_mk Try.underlying4 _))⟩

set_option maxRecDepth 100000 in
theorem filecacheCuts_holds : Rows.FilecacheCutsSaid :=
  OpenClaim.holds_of_wide 16 Try.f16 rfl rfl rfl rfl rfl rfl rfl ⟨rfl, rfl, rfl, rfl, rfl⟩ rfl rfl rfl rfl rfl (by kernel_rfl) Try.func16 (by kernel_rfl)
    (of_decide_eq_true (by kernel_rfl)) (by unfold Func.isWrapper; rw [if_neg (by decide +kernel)]; exact ⟨rfl, rfl⟩)
    (fun os started H enc _ => filecacheCuts_lifted os started H enc)
end Go.Proofs.Ytcicfijpfhbcaaa
