/-
  A script of operations as it is handed in.
-/
import Derived.Test.YtcicfijpfhbcaaaRo
namespace Go.Proofs.Ytcicfijpfhbcaaa
set_option linter.unusedSimpArgs false
set_option linter.unusedVariables false
set_option linter.unusedSectionVars false
open Go.RowKit Go.WideShapes Go.ChangeShapes Go.ChangeAt

/-- One operation of a script: what, index, value, tag. -/
abbrev OpV := Int × Nat × Int × Int
def opCell (o : OpV) : Nat → Value
  | 0 => .int .i64 o.1
  | 1 => .int .u16 o.2.1
  | 2 => .int .i64 o.2.2.1
  | _ => .int .i64 o.2.2.2
def dOps (a : Nat → OpV) (n : Nat) : D := .s 4 n (fun i j => .v (opCell (a i) j))
def okOp (o : OpV) : Prop := o.2.1 < 65536 ∧ -9223372036854775808 ≤ o.2.2.1 ∧ o.2.2.1 ≤ 9223372036854775807
theorem cellsQ : Try.prog.cellsOf 48 = 4 := by kernel_rfl
theorem cellsU : Try.prog.cellsOf 39 = 1 := by kernel_rfl
theorem readQ : Try.prog.readableRec 45 = true := by kernel_rfl
theorem rowQ : 45 < Try.prog.types.size := by decide +kernel

section
variable {H : Type} {enc : TypeId × Value → H} {w : World} {sp : Nat → Bool}
theorem open_Op (fuel : Nat) (cs : List Value) (x : DataW H × List MemPlace) (h : DataW.trod enc Try.prog w 0 sp true fuel 48 cs = some x) : ∃ o : OpV, okOp o ∧ ∀ j, j < 4 → cs[j]? = some (opCell o j) := by
  obtain ⟨xs, n, rfl, -, hl, hxl, hf⟩ := DataW.trod_struct Try.underlying48 h
  rw [cellsQ] at hl
  have hget : ∀ i, i < 4 → ∃ y, xs[i]? = some y := fun i hi => ⟨_, List.getElem?_eq_getElem (by simp at hxl; omega)⟩
  obtain ⟨y0, e0⟩ := hget 0 (by omega)
  obtain ⟨y1, e1⟩ := hget 1 (by omega)
  obtain ⟨y2, e2⟩ := hget 2 (by omega)
  obtain ⟨y3, e3⟩ := hget 3 (by omega)
  have f0 : DataW.trod enc Try.prog w 0 sp true n 3 ((cs.drop 0).take (Try.prog.cellsOf 3)) = some y0 := (hf 0 _ rfl).trans e0
  have f1 : DataW.trod enc Try.prog w 0 sp true n 39 ((cs.drop 1).take (Try.prog.cellsOf 39)) = some y1 := (hf 1 _ rfl).trans e1
  have f2 : DataW.trod enc Try.prog w 0 sp true n 3 ((cs.drop 2).take (Try.prog.cellsOf 3)) = some y2 := (hf 2 _ rfl).trans e2
  have f3 : DataW.trod enc Try.prog w 0 sp true n 3 ((cs.drop 3).take (Try.prog.cellsOf 3)) = some y3 := (hf 3 _ rfl).trans e3
  rw [cellsInt] at f0 f2 f3
  rw [cellsU] at f1
  obtain ⟨z0, h0, -, -⟩ := DataW.trod_int Try.underlying3 f0
  obtain ⟨z1, h1, -, w1⟩ := DataW.trod_int Try.underlying39 f1
  obtain ⟨z2, h2, -, w2⟩ := DataW.trod_int Try.underlying3 f2
  obtain ⟨z3, h3, -, -⟩ := DataW.trod_int Try.underlying3 f3
  have hu : 0 ≤ z1 ∧ z1 < 65536 := by
    simp only [Lit.wf, Bool.and_eq_true, decide_eq_true_eq] at w1
    rw [show IntKind.min .u16 = 0 by decide, show IntKind.max .u16 = 65535 by decide] at w1
    omega
  have hc : ∀ (j : Nat) (v : Value), (cs.drop j).take 1 = [v] → cs[j]? = some v := fun j v hv => by
    have h0 : ((cs.drop j).take 1)[0]? = some v := by rw [hv]; rfl
    rwa [List.getElem?_take, if_pos (by omega), List.getElem?_drop, Nat.add_zero] at h0
  refine ⟨(z0, z1.toNat, z2, z3), ⟨by show z1.toNat < 65536; omega, wf_i64 w2⟩, fun j hj => ?_⟩
  match j, hj with
  | 0, _ => exact hc 0 _ h0
  | 1, _ => rw [hc 1 _ h1]; show some (Value.int .u16 z1) = some (.int .u16 ((z1.toNat : Nat) : Int)); rw [Int.toNat_of_nonneg hu.1]
  | 2, _ => exact hc 2 _ h2
  | 3, _ => exact hc 3 _ h3
set_option maxRecDepth 100000 in
set_option maxHeartbeats 1000000 in
theorem open_ops {v : Value} {d : DataW H} {ps : List MemPlace} {r : Reach} {b0 : Nat} (hval : Value.okWide Try.prog w r b0 45 v) (h : DataW.Trod enc Try.prog w 0 sp true 45 v d ps) :
    ∃ (A : Option Addr) (n cap : Nat) (a : Nat → OpV), v = .slice A n cap ∧ RdC w (dOps a n) (.slice A n cap) ∧ ∀ i, i < n → okOp (a i) := by
  obtain ⟨A0, len0, cap0, rfl⟩ := okWide_slice Try.underlying45 hval
  obtain ⟨fuel, h⟩ := h
  have hv : ∀ A n cap, (Value.slice A0 len0 cap0).cells.toList = [.slice A n cap] → Value.slice A0 len0 cap0 = .slice A n cap := fun A n cap he => by
    simpa [Value.cells] using he
  rcases DataW.trod_slice Try.underlying45 h with ⟨hs, -⟩ | ⟨a, len, cap, elems, rest, k, hk, hs, -, -, hle, hmax, hel, hat, -⟩
  · exact ⟨none, 0, 0, fun _ => (0, 0, 0, 0), hv _ _ _ hs, ⟨none, 0, rfl, Nat.le_refl 0, Nat.zero_le _, fun h => absurd h (Nat.lt_irrefl 0)⟩, fun i hi => absurd hi (Nat.not_lt_zero i)⟩
  · have hop : ∀ i : Nat, ∃ o : OpV, i < len → okOp o ∧ ∀ j, j < 4 → w.cell? (a.add (i * 4 + j)) = some (opCell o j) := fun i => by
      by_cases hi : i < len
      · have h1 := hat i hi
        rw [cellsQ, List.getElem?_eq_getElem (by omega)] at h1
        obtain ⟨ci, hc, ho⟩ := Option.bind_eq_some_iff.1 h1
        obtain ⟨o, ho1, ho2⟩ := open_Op k ci _ ho
        obtain ⟨hcl, hcc⟩ := cells_at hc
        refine ⟨o, fun _ => ⟨ho1, fun j hj => ?_⟩⟩
        rw [← addr_add_add, hcc j hj]
        exact ho2 j hj
      · exact ⟨(0, 0, 0, 0), fun h => absurd h hi⟩
    refine ⟨some a, len, cap, fun i => Classical.choose (hop i), hv _ _ _ hs, ⟨some a, cap, rfl, hle, hmax, fun _ => ⟨a, rfl, fun i hi j hj => ?_⟩⟩, fun i hi => (Classical.choose_spec (hop i) hi).1⟩
    exact ⟨_, (Classical.choose_spec (hop i) hi).2 j hj, rfl⟩
end
theorem at_ops {w : World} {a : Nat → OpV} {n cap : Nat} {A : Option Addr} (h : RdC w (dOps a n) (.slice A n cap)) {i : Nat} (hi : i < n) :
    ∃ g b, A = some ⟨g, b, none⟩ ∧ ∀ j, j < 4 → w.cell? ⟨g, b + (i * 4 + j), none⟩ = some (opCell (a i) j) := by
  obtain ⟨A', cap', hu, _, _, h3⟩ := h
  injection hu with h1 _ _
  subst h1
  obtain ⟨p, hp, hc⟩ := h3 (by omega)
  have hcell : ∀ i, i < n → ∀ j, j < 4 → w.cell? (p.add (i * 4 + j)) = some (opCell (a i) j) := fun i hi j hj => by
    obtain ⟨x, hx, hr⟩ := hc i hi j hj
    have : x = opCell (a i) j := hr
    rw [hx, this]
  have h0 := hcell 0 (by omega) 0 (by omega)
  rw [Nat.zero_mul, Nat.zero_add, addr_add_zero] at h0
  have hpl := addr_plain h0
  refine ⟨p.block, p.off, by rw [hp, ← hpl], fun j hj => ?_⟩
  have := hcell i hi j hj
  rw [hpl, addr_add_mk] at this
  exact this
theorem ops_cap {w : World} {a : Nat → OpV} {n cap : Nat} {A : Option Addr} (h : RdC w (dOps a n) (.slice A n cap)) : n ≤ cap ∧ cap ≤ maxLen := by
  obtain ⟨A', cap', hu, h1, h2, _⟩ := h
  injection hu with _ _ h3
  subst h3
  exact ⟨h1, h2⟩
end Go.Proofs.Ytcicfijpfhbcaaa
