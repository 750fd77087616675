/-
  A script of operations as it is handed in.
-/
import Derived.Test.YtcicfijpfhbcaaaRo
namespace Go.Proofs.Ytcicfijpfhbcaaa
set_option linter.unusedSimpArgs false
set_option linter.unusedVariables false
set_option linter.unusedSectionVars false
open Go.RowKit Go.WideShapes Go.ChangeShapes Go.ChangeAt

/-- One operation of a script: what, index, value. -/
abbrev OpW := Int × Int × Int
def owCell (o : OpW) : Nat → Value
  | 0 => .int .i64 o.1
  | 1 => .int .i64 o.2.1
  | _ => .int .i64 o.2.2
def dOw (a : Nat → OpW) (n : Nat) : D := .s 3 n (fun i j => .v (owCell (a i) j))
def in64 (i : Int) : Prop := -9223372036854775808 ≤ i ∧ i ≤ 9223372036854775807
def okOw (o : OpW) : Prop := in64 o.1 ∧ in64 o.2.1 ∧ in64 o.2.2
theorem cellsW : Try.prog.cellsOf 62 = 3 := by kernel_rfl
theorem readW : Try.prog.readableRec 57 = true := by kernel_rfl
theorem rowW : 57 < Try.prog.types.size := by decide +kernel

section
variable {H : Type} {enc : TypeId × Value → H} {w : World} {sp : Nat → Bool}
theorem open_Ow1 (fuel : Nat) (cs : List Value) (x : DataW H × List MemPlace) (h : DataW.trod enc Try.prog w 0 sp true fuel 62 cs = some x) : ∃ o : OpW, okOw o ∧ ∀ j, j < 3 → cs[j]? = some (owCell o j) := by
  obtain ⟨xs, n, rfl, -, hl, hxl, hf⟩ := DataW.trod_struct Try.underlying62 h
  rw [cellsW] at hl
  have hget : ∀ i, i < 3 → ∃ y, xs[i]? = some y := fun i hi => ⟨_, List.getElem?_eq_getElem (by simp at hxl; omega)⟩
  obtain ⟨y0, e0⟩ := hget 0 (by omega)
  obtain ⟨y1, e1⟩ := hget 1 (by omega)
  obtain ⟨y2, e2⟩ := hget 2 (by omega)
  have f0 : DataW.trod enc Try.prog w 0 sp true n 3 ((cs.drop 0).take (Try.prog.cellsOf 3)) = some y0 := (hf 0 _ rfl).trans e0
  have f1 : DataW.trod enc Try.prog w 0 sp true n 3 ((cs.drop 1).take (Try.prog.cellsOf 3)) = some y1 := (hf 1 _ rfl).trans e1
  have f2 : DataW.trod enc Try.prog w 0 sp true n 3 ((cs.drop 2).take (Try.prog.cellsOf 3)) = some y2 := (hf 2 _ rfl).trans e2
  rw [cellsInt] at f0 f1 f2
  obtain ⟨z0, h0, -, w0⟩ := DataW.trod_int Try.underlying3 f0
  obtain ⟨z1, h1, -, w1⟩ := DataW.trod_int Try.underlying3 f1
  obtain ⟨z2, h2, -, w2⟩ := DataW.trod_int Try.underlying3 f2
  have hc : ∀ (j : Nat) (v : Value), (cs.drop j).take 1 = [v] → cs[j]? = some v := fun j v hv => by
    have h0 : ((cs.drop j).take 1)[0]? = some v := by rw [hv]; rfl
    rwa [List.getElem?_take, if_pos (by omega), List.getElem?_drop, Nat.add_zero] at h0
  refine ⟨(z0, z1, z2), ⟨wf_i64 w0, wf_i64 w1, wf_i64 w2⟩, fun j hj => ?_⟩
  match j, hj with
  | 0, _ => exact hc 0 _ h0
  | 1, _ => exact hc 1 _ h1
  | 2, _ => exact hc 2 _ h2
set_option maxRecDepth 100000 in
set_option maxHeartbeats 1000000 in
theorem open_ow {v : Value} {d : DataW H} {ps : List MemPlace} {r : Reach} {b0 : Nat} (hval : Value.okWide Try.prog w r b0 57 v) (h : DataW.Trod enc Try.prog w 0 sp true 57 v d ps) :
    ∃ (A : Option Addr) (n cap : Nat) (a : Nat → OpW), v = .slice A n cap ∧ RdC w (dOw a n) (.slice A n cap) ∧ ∀ i, i < n → okOw (a i) := by
  obtain ⟨A0, len0, cap0, rfl⟩ := okWide_slice Try.underlying57 hval
  obtain ⟨fuel, h⟩ := h
  have hv : ∀ A n cap, (Value.slice A0 len0 cap0).cells.toList = [.slice A n cap] → Value.slice A0 len0 cap0 = .slice A n cap := fun A n cap he => by
    simpa [Value.cells] using he
  rcases DataW.trod_slice Try.underlying57 h with ⟨hs, -⟩ | ⟨a, len, cap, elems, rest, k, hk, hs, -, -, hle, hmax, hel, hat, -⟩
  · exact ⟨none, 0, 0, fun _ => (0, 0, 0), hv _ _ _ hs, ⟨none, 0, rfl, Nat.le_refl 0, Nat.zero_le _, fun h => absurd h (Nat.lt_irrefl 0)⟩, fun i hi => absurd hi (Nat.not_lt_zero i)⟩
  · have hop : ∀ i : Nat, ∃ o : OpW, i < len → okOw o ∧ ∀ j, j < 3 → w.cell? (a.add (i * 3 + j)) = some (owCell o j) := fun i => by
      by_cases hi : i < len
      · have h1 := hat i hi
        rw [cellsW, List.getElem?_eq_getElem (by omega)] at h1
        obtain ⟨ci, hc, ho⟩ := Option.bind_eq_some_iff.1 h1
        obtain ⟨o, ho1, ho2⟩ := open_Ow1 k ci _ ho
        obtain ⟨hcl, hcc⟩ := cells_at hc
        refine ⟨o, fun _ => ⟨ho1, fun j hj => ?_⟩⟩
        rw [← addr_add_add, hcc j hj]
        exact ho2 j hj
      · exact ⟨(0, 0, 0), fun h => absurd h hi⟩
    refine ⟨some a, len, cap, fun i => Classical.choose (hop i), hv _ _ _ hs, ⟨some a, cap, rfl, hle, hmax, fun _ => ⟨a, rfl, fun i hi j hj => ?_⟩⟩, fun i hi => (Classical.choose_spec (hop i) hi).1⟩
    exact ⟨_, (Classical.choose_spec (hop i) hi).2 j hj, rfl⟩
end
theorem at_ow {w : World} {a : Nat → OpW} {n cap : Nat} {A : Option Addr} (h : RdC w (dOw a n) (.slice A n cap)) {i : Nat} (hi : i < n) :
    ∃ g b, A = some ⟨g, b, none⟩ ∧ ∀ j, j < 3 → w.cell? ⟨g, b + (i * 3 + j), none⟩ = some (owCell (a i) j) := by
  obtain ⟨A', cap', hu, _, _, h3⟩ := h
  injection hu with h1 _ _
  subst h1
  obtain ⟨p, hp, hc⟩ := h3 (by omega)
  have hcell : ∀ i, i < n → ∀ j, j < 3 → w.cell? (p.add (i * 3 + j)) = some (owCell (a i) j) := fun i hi j hj => by
    obtain ⟨x, hx, hr⟩ := hc i hi j hj
    have : x = owCell (a i) j := hr
    rw [hx, this]
  have h0 := hcell 0 (by omega) 0 (by omega)
  rw [Nat.zero_mul, Nat.zero_add, addr_add_zero] at h0
  have hpl := addr_plain h0
  refine ⟨p.block, p.off, by rw [hp, ← hpl], fun j hj => ?_⟩
  have := hcell i hi j hj
  rw [hpl, addr_add_mk] at this
  exact this
theorem ow_cap {w : World} {a : Nat → OpW} {n cap : Nat} {A : Option Addr} (h : RdC w (dOw a n) (.slice A n cap)) : n ≤ cap ∧ cap ≤ maxLen := by
  obtain ⟨A', cap', hu, h1, h2, _⟩ := h
  injection hu with _ _ h3
  subst h3
  exact ⟨h1, h2⟩
end Go.Proofs.Ytcicfijpfhbcaaa
