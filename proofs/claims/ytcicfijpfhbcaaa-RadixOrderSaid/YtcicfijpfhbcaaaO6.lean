/-
  A slice of uint16 as it is handed in.
-/
import Derived.Test.YtcicfijpfhbcaaaRo
import Derived.Test.YtcicfijpfhbcaaaEs
import Derived.ChangeSlices
namespace Go.Proofs.Ytcicfijpfhbcaaa
set_option linter.unusedSimpArgs false
set_option linter.unusedVariables false
set_option linter.unusedSectionVars false
open Go.RowKit Go.WideShapes Go.ChangeShapes Go.ChangeAt

theorem read16 : Try.prog.readableRec 38 = true := by kernel_rfl
theorem row16 : 38 < Try.prog.types.size := by decide +kernel
theorem wf_u16 {n : Int} (h : (Lit.int .u16 n).wf = true) : 0 ≤ n ∧ n < 65536 := by
  simp only [Lit.wf, Bool.and_eq_true, decide_eq_true_eq] at h
  rw [show IntKind.min .u16 = 0 by decide, show IntKind.max .u16 = 65535 by decide] at h
  omega
set_option maxRecDepth 100000 in
theorem open16 {H : Type} {enc : TypeId × Value → H} {w : World} {sp : Nat → Bool} {r : Reach} {b0 : Nat} {v : Value} {d : DataW H} {ps : List MemPlace} (hval : Value.okWide Try.prog w r b0 38 v) (h : DataW.Trod enc Try.prog w 0 sp true 38 v d ps) :
    ∃ (A : Option Addr) (n cap : Nat) (a : Nat → Nat), v = .slice A n cap ∧ RdC w (d16 a n) (.slice A n cap) ∧ ∀ i, i < n → a i < 65536 := by
  obtain ⟨A0, len0, cap0, rfl⟩ := okWide_slice Try.underlying38 hval
  obtain ⟨fuel, h⟩ := h
  rcases Go.ChangeShapes.open_ints Try.underlying38 Try.underlying39 (by kernel_rfl) h with ⟨hcs, -⟩ | ⟨ad, len, cap, zs, hcs, -, hle, hmax, hlen, -, hcell, hwf⟩
  · simp [Value.cells] at hcs
    obtain ⟨rfl, rfl, rfl⟩ := hcs
    exact ⟨none, 0, 0, fun _ => 0, rfl, ⟨none, 0, rfl, Nat.le_refl 0, Nat.zero_le _, fun h => absurd h (Nat.lt_irrefl 0)⟩, fun i hi => absurd hi (Nat.not_lt_zero i)⟩
  · simp [Value.cells] at hcs
    obtain ⟨rfl, rfl, rfl⟩ := hcs
    have hz : ∀ i, i < len0 → i < zs.length := fun i hi => by rw [hlen]; split <;> omega
    have hb : ∀ i, i < len0 → 0 ≤ zs.getD i 0 ∧ zs.getD i 0 < 65536 := fun i hi => by
      have hi' := hz i hi
      rw [List.getD_eq_getElem?_getD, List.getElem?_eq_getElem hi']
      exact wf_u16 (hwf _ (List.getElem_mem hi'))
    refine ⟨some ad, len0, cap0, fun i => (zs.getD i 0).toNat, rfl, ⟨some ad, cap0, rfl, hle, hmax, fun _ => ⟨ad, rfl, fun i hi j hj => ⟨.int .u16 (zs.getD i 0), ?_, ?_⟩⟩⟩, fun i hi => by have := hb i hi; show (zs.getD i 0).toNat < 65536; omega⟩
    · have : j = 0 := by omega
      subst this
      rw [Nat.mul_one, Nat.add_zero]
      exact hcell i (hz i hi)
    · show Value.int .u16 (zs.getD i 0) = .int .u16 (((zs.getD i 0).toNat : Nat) : Int)
      rw [Int.toNat_of_nonneg (hb i hi).1]
end Go.Proofs.Ytcicfijpfhbcaaa
