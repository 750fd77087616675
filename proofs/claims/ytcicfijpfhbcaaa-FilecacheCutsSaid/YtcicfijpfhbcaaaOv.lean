/-
  A tree as it is handed in: its values are within their range.
-/
import Derived.Test.YtcicfijpfhbcaaaRo
import Derived.Test.YtcicfijpfhbcaaaFs
namespace Go.Proofs.Ytcicfijpfhbcaaa
set_option linter.unusedSimpArgs false
set_option linter.unusedVariables false
set_option linter.unusedSectionVars false
open Go.RowKit

/-- The values of a node, and of the nodes below it, are within their range. -/
def vN : RN → Prop
  | .mk v _ _ n kid => (∀ i, i < 8 → -9223372036854775808 ≤ v i ∧ v i ≤ 9223372036854775807) ∧ ∀ j : Fin n, vN (kid j)
theorem vN.v {x : RN} (h : vN x) {i : Nat} (hi : i < 8) : -9223372036854775808 ≤ x.v i ∧ x.v i ≤ 9223372036854775807 := by
  cases x with
  | mk v t0 t1 n kid => rw [vN] at h; exact h.1 i hi
theorem vN_zero : vN zeroN := by
  unfold zeroN
  rw [vN]
  exact ⟨fun i _ => by constructor <;> omega, fun j => absurd j.2 (by omega)⟩
theorem vN.kid {x : RN} (h : vN x) (i : Nat) : vN (x.kid i) := by
  cases x with
  | mk v t0 t1 n kid =>
    rw [vN] at h
    by_cases hi : i < n
    · rw [RN.kid_mk v t0 t1 n kid i hi]; exact h.2 ⟨i, hi⟩
    · have : (RN.mk v t0 t1 n kid).kid i = zeroN := by simp [RN.kid, hi]
      rw [this]; exact vN_zero

section
variable {H : Type} {enc : TypeId × Value → H} {w : World} {sp : Nat → Bool}
theorem ints_openV {t : TypeId} {n : Nat} {cs : List Value} {x : DataW H × List MemPlace} {fuel : Nat} (ht : Try.prog.underlying t = some (.array n 3)) (hc : Try.prog.cellsOf t = n) (h : DataW.trod enc Try.prog w 0 sp true fuel t cs = some x) :
    cs.length = n ∧ ∃ f : Nat → Int, ∀ i, i < n → cs[i]? = some (.int .i64 (f i)) ∧ -9223372036854775808 ≤ f i ∧ f i ≤ 9223372036854775807 := by
  obtain ⟨hl, k, hk⟩ := trod_arr ht h
  have hex : ∀ i, ∃ z : Int, i < n → cs[i]? = some (.int .i64 z) ∧ -9223372036854775808 ≤ z ∧ z ≤ 9223372036854775807 := fun i => by
    by_cases hi : i < n
    · obtain ⟨y, hy⟩ := hk i hi
      obtain ⟨z, hz, -, hwf⟩ := DataW.trod_int Try.underlying3 hy
      refine ⟨z, fun _ => ⟨?_, ?_⟩⟩
      · rw [cellsInt, Nat.mul_one] at hz
        have h0 : ((cs.drop i).take 1)[0]? = some (.int .i64 z) := by rw [hz]; rfl
        rwa [List.getElem?_take, if_pos (by omega), List.getElem?_drop, Nat.add_zero] at h0
      · simp only [Lit.wf, Bool.and_eq_true, decide_eq_true_eq] at hwf
        rw [show IntKind.min .i64 = -9223372036854775808 by decide, show IntKind.max .i64 = 9223372036854775807 by decide] at hwf
        exact hwf
    · exact ⟨0, fun h => absurd h hi⟩
  exact ⟨by rw [hl, hc], fun i => Classical.choose (hex i), fun i hi => Classical.choose_spec (hex i) hi⟩
theorem open_NV : ∀ (fuel : Nat) (cs : List Value) (x : DataW H × List MemPlace), DataW.trod enc Try.prog w 0 sp true fuel 26 cs = some x → ∃ y : RN, RdVals w cs.toArray 11 (encN y) ∧ vN y
  | fuel, cs, x, h => by
    obtain ⟨xs, n, rfl, -, hl, hxl, hf⟩ := DataW.trod_struct Try.underlying26 h
    rw [cellsK] at hl
    have hget : ∀ i, i < 3 → ∃ y, xs[i]? = some y := fun i hi => ⟨_, List.getElem?_eq_getElem (by simp at hxl; omega)⟩
    obtain ⟨y0, e0⟩ := hget 0 (by omega)
    obtain ⟨y1, e1⟩ := hget 1 (by omega)
    obtain ⟨y2, e2⟩ := hget 2 (by omega)
    have f0 : DataW.trod enc Try.prog w 0 sp true n 22 ((cs.drop 0).take (Try.prog.cellsOf 22)) = some y0 := (hf 0 _ rfl).trans e0
    have f1 : DataW.trod enc Try.prog w 0 sp true n 23 ((cs.drop 8).take (Try.prog.cellsOf 23)) = some y1 := (hf 1 _ rfl).trans e1
    have f2 : DataW.trod enc Try.prog w 0 sp true n 24 ((cs.drop 10).take (Try.prog.cellsOf 24)) = some y2 := (hf 2 _ rfl).trans e2
    rw [cells8] at f0
    rw [cells2] at f1
    rw [cells1] at f2
    obtain ⟨-, v, hv⟩ := ints_openV Try.underlying22 cells8 f0
    obtain ⟨-, t, ht⟩ := ints_open Try.underlying23 cells2 f1
    have hv' : ∀ j, j < 8 → cs[j]? = some (.int .i64 (v j)) := fun j hj => by
      have := (hv j hj).1
      rwa [List.getElem?_take, if_pos hj, List.getElem?_drop, Nat.zero_add] at this
    have ht' : ∀ j, j < 2 → cs[8 + j]? = some (.int .i64 (t j)) := fun j hj => by
      have := ht j hj
      rwa [List.getElem?_take, if_pos hj, List.getElem?_drop] at this
    have key : ∃ (m : Nat) (kid : Fin m → RN) (s : Value), cs[10]? = some s ∧ RdC w (encK (.mk v (t 0) (t 1) m kid)) s ∧ ∀ j, vN (kid j) := by
      have h10 : ∀ s, (cs.drop 10).take 1 = [s] → cs[10]? = some s := fun s hs => by
        have h0 : ((cs.drop 10).take 1)[0]? = some s := by rw [hs]; rfl
        rwa [List.getElem?_take, if_pos (by omega), List.getElem?_drop] at h0
      rcases DataW.trod_slice Try.underlying24 f2 with ⟨hs, -⟩ | ⟨a, len, cap, elems, rest, k, hk, hs, -, -, hle, hmax, hel, hat, -⟩
      · exact ⟨0, fun i => absurd i.2 (by omega), _, h10 _ hs, ⟨none, 0, rfl, by show 0 ≤ 0; omega, by decide, fun h => absurd h (by show ¬ 0 < 0; omega)⟩, fun i => absurd i.2 (by omega)⟩
      · have hkid : ∀ i : Fin len, ∃ y : RN, RdRow w (a.add (i.1 * 11)) 11 (encN y) ∧ vN y := fun i => by
          have h1 := hat i.1 i.2
          rw [cellsK, List.getElem?_eq_getElem (by omega)] at h1
          obtain ⟨ci, hc, ho⟩ := Option.bind_eq_some_iff.1 h1
          have hk' : k < n + 1 := by omega
          obtain ⟨y, hy, hyv⟩ := open_NV k ci _ ho
          obtain ⟨hcl, hcc⟩ := cells_at hc
          refine ⟨y, fun j hj => ?_, hyv⟩
          obtain ⟨u, hu, hr⟩ := hy.2 j hj
          exact ⟨u, by rw [hcc j hj]; simpa using hu, hr⟩
        refine ⟨len, fun i => Classical.choose (hkid i), _, h10 _ hs, ⟨some a, cap, rfl, hle, hmax, fun _ => ⟨a, rfl, fun i hi j hj => ?_⟩⟩, fun i => (Classical.choose_spec (hkid i)).2⟩
        have hi' : i < len := hi
        obtain ⟨u, hu, hr⟩ := (Classical.choose_spec (hkid ⟨i, hi'⟩)).1 j hj
        rw [addr_add_add] at hu
        refine ⟨u, hu, ?_⟩
        show RdC w (if i < len then encN ((RN.mk v (t 0) (t 1) len _).kid i) j else _) u
        rw [if_pos hi', RN.kid_mk _ _ _ _ _ _ hi']
        exact hr
    obtain ⟨m, kid, s, hs, hr, hkv⟩ := key
    have e : cs.toArray = cellsN (.mk v (t 0) (t 1) m kid) s := by
      apply Array.ext_getElem?
      intro i
      rw [List.getElem?_toArray]
      by_cases h8 : i < 8
      · rw [hv' i h8, cellsN_v _ _ _ h8]; rfl
      · match i, h8 with
        | 8, _ => exact ht' 0 (by omega)
        | 9, _ => exact ht' 1 (by omega)
        | 10, _ => exact hs
        | i + 11, _ => rw [List.getElem?_eq_none (by omega), Array.getElem?_eq_none (by show 11 ≤ i + 11; omega)]
    exact ⟨_, by rw [e]; exact rdN_shut hr, by rw [vN]; exact ⟨fun i hi => (hv i hi).2, hkv⟩⟩
  termination_by fuel => fuel
theorem desc_vN : ∀ (m : Nat) (x : RN) (i : Int) (y : RN), descP m x i = some y → vN x → vN y
  | 0, x, i, y, h, hx => by
    rw [descP] at h; injection h with h; subst h; exact hx
  | l + 1, x, i, y, h, hx => by
    rw [descP] at h
    split at h
    · injection h with h; subst h; exact hx
    · split at h
      · cases h
      · exact desc_vN l _ i y h (hx.kid _)
theorem vOk_of {ht : Int} {x : RN} (h : vN x) : vOk ht x := fun i => by
  unfold getP
  cases hl : leafP ht x i with
  | none => exact ⟨(by decide : (-9223372036854775808 : Int) ≤ 0), (by decide : (0 : Int) ≤ 9223372036854775807)⟩
  | some y =>
    have hy : vN y := by
      unfold leafP at hl
      split at hl
      · exact desc_vN _ _ _ _ hl h
      · cases hl
    have hd : (digB i 1).toNat < 8 := by unfold digB; omega
    exact hy.v hd
theorem open_RV {v : Value} {d : DataW H} {ps : List MemPlace} (h : DataW.Trod enc Try.prog w 0 sp true 28 v d ps) : ∃ (cs : Array Value) (ht : Int) (y : RN), v = .agg cs ∧ RdVals w cs 12 (encR ht y) ∧ vOk ht y := by
  obtain ⟨fuel, h⟩ := h
  have hagg : ∃ cs, v = .agg cs := by
    obtain ⟨xs, n, -, -, hl, -⟩ := DataW.trod_struct Try.underlying28 h
    rw [cells12] at hl
    cases v <;> first | exact ⟨_, rfl⟩ | (simp [Value.cells] at hl)
  obtain ⟨cs, rfl⟩ := hagg
  have h' : DataW.trod enc Try.prog w 0 sp true fuel 28 cs.toList = some (d, ps) := h
  obtain ⟨xs, n, rfl, -, hl, hxl, hf⟩ := DataW.trod_struct Try.underlying28 h'
  rw [cells12] at hl
  have hget : ∀ i, i < 2 → ∃ y, xs[i]? = some y := fun i hi => ⟨_, List.getElem?_eq_getElem (by simp at hxl; omega)⟩
  obtain ⟨y0, e0⟩ := hget 0 (by omega)
  obtain ⟨y1, e1⟩ := hget 1 (by omega)
  have f0 : DataW.trod enc Try.prog w 0 sp true n 3 ((cs.toList.drop 0).take (Try.prog.cellsOf 3)) = some y0 := (hf 0 _ rfl).trans e0
  have f1 : DataW.trod enc Try.prog w 0 sp true n 26 ((cs.toList.drop 1).take (Try.prog.cellsOf 26)) = some y1 := (hf 1 _ rfl).trans e1
  rw [cellsInt] at f0
  rw [cellsK] at f1
  obtain ⟨z, hz, -⟩ := DataW.trod_int Try.underlying3 f0
  obtain ⟨y, hy, hyv⟩ := open_NV _ _ _ f1
  refine ⟨cs, z, y, rfl, ⟨by simpa using hl, fun j hj => ?_⟩, vOk_of hyv⟩
  match j, hj with
  | 0, _ =>
    refine ⟨.int .i64 z, ?_, by simp [encR, RdC]⟩
    have h0 : ((cs.toList.drop 0).take 1)[0]? = some (.int .i64 z) := by rw [hz]; rfl
    rw [List.getElem?_take, if_pos (by omega), List.getElem?_drop] at h0
    simpa using h0
  | j + 1, hj =>
    obtain ⟨u, hu, hr⟩ := hy.2 j (by omega)
    refine ⟨u, ?_, by simpa [encR] using hr⟩
    rw [List.getElem?_toArray, List.getElem?_take, if_pos (by omega), List.getElem?_drop] at hu
    rw [show 1 + j = j + 1 by omega] at hu
    simpa using hu
end
end Go.Proofs.Ytcicfijpfhbcaaa
