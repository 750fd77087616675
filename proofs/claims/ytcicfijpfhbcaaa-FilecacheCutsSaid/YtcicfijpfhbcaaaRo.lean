/-
  The arguments opened: a tree as it is handed in reads as a tree.
-/
/-
  What every row needs: a law that adds memory only leaves its arguments as they read.
-/
import Derived.Test.YtcicfijpfhbcaaaSt
import Derived.ChangeArms
import Derived.ProofKit
import Derived.Carry
import Derived.OpenShut
import Derived.Below
import Derived.ChangeSame
namespace Go.Proofs.Ytcicfijpfhbcaaa
set_option linter.unusedSimpArgs false
set_option linter.unusedVariables false
set_option linter.unusedSectionVars false
open Go.RowKit

section
variable {H : Type} {enc : TypeId × Value → H} {w : World} {sp : Nat → Bool}

theorem trod_arr {P : Program} {base : Nat} {held : Bool} {t e : TypeId} {n : Nat} {cs : List Value} {x : DataW H × List MemPlace} {fuel : Nat} (ht : P.underlying t = some (.array n e)) (h : DataW.trod enc P w base sp held fuel t cs = some x) :
    cs.length = P.cellsOf t ∧ ∃ k, ∀ i, i < n → ∃ y, DataW.trod enc P w base sp held k e ((cs.drop (i * P.cellsOf e)).take (P.cellsOf e)) = some y := by
  obtain ⟨xs, m, rfl, -, hl, hxl, hat⟩ := DataW.trod_array ht h
  exact ⟨hl, m, fun i hi => ⟨_, (hat i hi).trans (List.getElem?_eq_getElem (by omega))⟩⟩

theorem ints_open {t : TypeId} {n : Nat} {cs : List Value} {x : DataW H × List MemPlace} {fuel : Nat} (ht : Try.prog.underlying t = some (.array n 3)) (hc : Try.prog.cellsOf t = n) (h : DataW.trod enc Try.prog w 0 sp true fuel t cs = some x) :
    cs.length = n ∧ ∃ f : Nat → Int, ∀ i, i < n → cs[i]? = some (.int .i64 (f i)) := by
  obtain ⟨hl, k, hk⟩ := trod_arr ht h
  have hex : ∀ i, ∃ z : Int, i < n → cs[i]? = some (.int .i64 z) := fun i => by
    by_cases hi : i < n
    · obtain ⟨y, hy⟩ := hk i hi
      obtain ⟨z, hz, -⟩ := DataW.trod_int Try.underlying3 hy
      refine ⟨z, fun _ => ?_⟩
      rw [cellsInt, Nat.mul_one] at hz
      have h0 : ((cs.drop i).take 1)[0]? = some (.int .i64 z) := by rw [hz]; rfl
      rwa [List.getElem?_take, if_pos (by omega), List.getElem?_drop, Nat.add_zero] at h0
    · exact ⟨0, fun h => absurd h hi⟩
  exact ⟨by rw [hl, hc], fun i => Classical.choose (hex i), fun i hi => Classical.choose_spec (hex i) hi⟩

theorem cells_at {a : Addr} {n : Nat} {cs : List Value} (h : w.cells? 0 a n = some cs) : cs.length = n ∧ ∀ j, j < n → w.cell? (a.add j) = cs[j]? := by
  unfold World.cells? at h
  rw [if_pos (by omega)] at h
  exact ⟨by simpa using mapM_some_length h, fun j hj => mapM_some_get h j j (by simp [hj])⟩

theorem cellsK : Try.prog.cellsOf 26 = 11 := by kernel_rfl
theorem cells8 : Try.prog.cellsOf 22 = 8 := by kernel_rfl
theorem cells2 : Try.prog.cellsOf 23 = 2 := by kernel_rfl
theorem cells1 : Try.prog.cellsOf 24 = 1 := by kernel_rfl
theorem cells12 : Try.prog.cellsOf 28 = 12 := by kernel_rfl

theorem open_N : ∀ (fuel : Nat) (cs : List Value) (x : DataW H × List MemPlace), DataW.trod enc Try.prog w 0 sp true fuel 26 cs = some x → ∃ y : RN, RdVals w cs.toArray 11 (encN y)
  | fuel, cs, x, h => by
    obtain ⟨xs, n, rfl, -, hl, hxl, hf⟩ := DataW.trod_struct Try.underlying26 h
    rw [cellsK] at hl
    have hget : ∀ i, i < 3 → ∃ y, xs[i]? = some y := fun i hi => ⟨_, List.getElem?_eq_getElem (by simp at hxl; omega)⟩
    obtain ⟨y0, e0⟩ := hget 0 (by omega)
    obtain ⟨y1, e1⟩ := hget 1 (by omega)
    obtain ⟨y2, e2⟩ := hget 2 (by omega)
    have f0 : DataW.trod enc Try.prog w 0 sp true n 22 ((cs.drop 0).take (Try.prog.cellsOf 22)) = some y0 := (hf 0 _ rfl).trans e0
    have f1 : DataW.trod enc Try.prog w 0 sp true n 23 ((cs.drop 8).take (Try.prog.cellsOf 23)) = some y1 := (hf 1 _ rfl).trans e1
    have f2 : DataW.trod enc Try.prog w 0 sp true n 24 ((cs.drop 10).take (Try.prog.cellsOf 24)) = some y2 := (hf 2 _ rfl).trans e2
    rw [cells8] at f0
    rw [cells2] at f1
    rw [cells1] at f2
    obtain ⟨-, v, hv⟩ := ints_open Try.underlying22 cells8 f0
    obtain ⟨-, t, ht⟩ := ints_open Try.underlying23 cells2 f1
    have hv' : ∀ j, j < 8 → cs[j]? = some (.int .i64 (v j)) := fun j hj => by
      have := hv j hj
      rwa [List.getElem?_take, if_pos hj, List.getElem?_drop, Nat.zero_add] at this
    have ht' : ∀ j, j < 2 → cs[8 + j]? = some (.int .i64 (t j)) := fun j hj => by
      have := ht j hj
      rwa [List.getElem?_take, if_pos hj, List.getElem?_drop] at this
    have key : ∃ (m : Nat) (kid : Fin m → RN) (s : Value), cs[10]? = some s ∧ RdC w (encK (.mk v (t 0) (t 1) m kid)) s := by
      have h10 : ∀ s, (cs.drop 10).take 1 = [s] → cs[10]? = some s := fun s hs => by
        have h0 : ((cs.drop 10).take 1)[0]? = some s := by rw [hs]; rfl
        rwa [List.getElem?_take, if_pos (by omega), List.getElem?_drop] at h0
      rcases DataW.trod_slice Try.underlying24 f2 with ⟨hs, -⟩ | ⟨a, len, cap, elems, rest, k, hk, hs, -, -, hle, hmax, hel, hat, -⟩
      · exact ⟨0, fun i => absurd i.2 (by omega), _, h10 _ hs, none, 0, rfl, by show 0 ≤ 0; omega, by decide, fun h => absurd h (by show ¬ 0 < 0; omega)⟩
      · have hkid : ∀ i : Fin len, ∃ y : RN, RdRow w (a.add (i.1 * 11)) 11 (encN y) := fun i => by
          have h1 := hat i.1 i.2
          rw [cellsK, List.getElem?_eq_getElem (by omega)] at h1
          obtain ⟨ci, hc, ho⟩ := Option.bind_eq_some_iff.1 h1
          have hk' : k < n + 1 := by omega
          obtain ⟨y, hy⟩ := open_N k ci _ ho
          obtain ⟨hcl, hcc⟩ := cells_at hc
          refine ⟨y, fun j hj => ?_⟩
          obtain ⟨u, hu, hr⟩ := hy.2 j hj
          exact ⟨u, by rw [hcc j hj]; simpa using hu, hr⟩
        refine ⟨len, fun i => Classical.choose (hkid i), _, h10 _ hs, some a, cap, rfl, hle, hmax, fun _ => ⟨a, rfl, fun i hi j hj => ?_⟩⟩
        have hi' : i < len := hi
        obtain ⟨u, hu, hr⟩ := Classical.choose_spec (hkid ⟨i, hi'⟩) j hj
        rw [addr_add_add] at hu
        refine ⟨u, hu, ?_⟩
        show RdC w (if i < len then encN ((RN.mk v (t 0) (t 1) len _).kid i) j else _) u
        rw [if_pos hi', RN.kid_mk _ _ _ _ _ _ hi']
        exact hr
    obtain ⟨m, kid, s, hs, hr⟩ := key
    have e : cs.toArray = cellsN (.mk v (t 0) (t 1) m kid) s := by
      apply Array.ext_getElem?
      intro i
      rw [List.getElem?_toArray]
      by_cases h8 : i < 8
      · rw [hv' i h8, cellsN_v _ _ _ h8]; rfl
      · match i, h8 with
        | 8, _ => exact ht' 0 (by omega)
        | 9, _ => exact ht' 1 (by omega)
        | 10, _ => exact hs
        | i + 11, _ => rw [List.getElem?_eq_none (by omega), Array.getElem?_eq_none (by show 11 ≤ i + 11; omega)]
    exact ⟨_, by rw [e]; exact rdN_shut hr⟩
  termination_by fuel => fuel

theorem open_R {v : Value} {d : DataW H} {ps : List MemPlace} (h : DataW.Trod enc Try.prog w 0 sp true 28 v d ps) : ∃ (cs : Array Value) (ht : Int) (y : RN), v = .agg cs ∧ RdVals w cs 12 (encR ht y) := by
  obtain ⟨fuel, h⟩ := h
  have hagg : ∃ cs, v = .agg cs := by
    obtain ⟨xs, n, -, -, hl, -⟩ := DataW.trod_struct Try.underlying28 h
    rw [cells12] at hl
    cases v <;> first | exact ⟨_, rfl⟩ | (simp [Value.cells] at hl)
  obtain ⟨cs, rfl⟩ := hagg
  have h' : DataW.trod enc Try.prog w 0 sp true fuel 28 cs.toList = some (d, ps) := h
  obtain ⟨xs, n, rfl, -, hl, hxl, hf⟩ := DataW.trod_struct Try.underlying28 h'
  rw [cells12] at hl
  have hget : ∀ i, i < 2 → ∃ y, xs[i]? = some y := fun i hi => ⟨_, List.getElem?_eq_getElem (by simp at hxl; omega)⟩
  obtain ⟨y0, e0⟩ := hget 0 (by omega)
  obtain ⟨y1, e1⟩ := hget 1 (by omega)
  have f0 : DataW.trod enc Try.prog w 0 sp true n 3 ((cs.toList.drop 0).take (Try.prog.cellsOf 3)) = some y0 := (hf 0 _ rfl).trans e0
  have f1 : DataW.trod enc Try.prog w 0 sp true n 26 ((cs.toList.drop 1).take (Try.prog.cellsOf 26)) = some y1 := (hf 1 _ rfl).trans e1
  rw [cellsInt] at f0
  rw [cellsK] at f1
  obtain ⟨z, hz, -⟩ := DataW.trod_int Try.underlying3 f0
  obtain ⟨y, hy⟩ := open_N _ _ _ f1
  refine ⟨cs, z, y, rfl, by simpa using hl, fun j hj => ?_⟩
  match j, hj with
  | 0, _ =>
    refine ⟨.int .i64 z, ?_, by simp [encR, RdC]⟩
    have h0 : ((cs.toList.drop 0).take 1)[0]? = some (.int .i64 z) := by rw [hz]; rfl
    rw [List.getElem?_take, if_pos (by omega), List.getElem?_drop] at h0
    simpa using h0
  | j + 1, hj =>
    obtain ⟨u, hu, hr⟩ := hy.2 j (by omega)
    refine ⟨u, ?_, by simpa [encR] using hr⟩
    rw [List.getElem?_toArray, List.getElem?_take, if_pos (by omega), List.getElem?_drop] at hu
    rw [show 1 + j = j + 1 by omega] at hu
    simpa using hu
end
end Go.Proofs.Ytcicfijpfhbcaaa
namespace Go.Proofs.Ytcicfijpfhbcaaa
set_option linter.unusedSimpArgs false
set_option linter.unusedVariables false
set_option linter.unusedSectionVars false
open Go.RowKit Go.WideShapes Go.ChangeShapes Go.ChangeAt

section
variable {H : Type} {enc : TypeId × Value → H} {P : Program}
theorem post_of_below {f : Func} {s : ChangeSpec} {apart fresh handsOn again : Bool} {W W' : World} {args : Array Value} {v : Value} {ds gs : List (DataW H)} {before pa pv : List MemPlace}
    (hW : DataW.Whole enc P f.params.toList s.vars apart W args.toList ds gs before)
    (hres : ∀ (b : Nat) (sp : Nat → Bool) (hd : Bool), DataW.TrodAll enc P W' b sp hd f.resultTypes.toList (v.resultList f.resultTypes.size) (s.fn H (ds ++ gs)).results [])
    (hargs : ∀ sp : Nat → Bool, (∀ p ∈ before, sp p.block = true) → DataW.TrodAll enc P W' 0 sp true f.params.toList args.toList (s.fn H (ds ++ gs)).args pa)
    (hvars : ∀ sp : Nat → Bool, (∀ p ∈ before, sp p.block = true) → DataW.TrodVars enc P W' sp s.vars (s.fn H (ds ++ gs)).vars pv)
    (hps : before = pa ++ pv) (hb : Below W.heap.size W W')
    (hok : ∀ (j : Nat) (t : TypeId) (r : Value), f.resultTypes[j]? = some t → (v.resultList f.resultTypes.size)[j]? = some r → Value.okWide P W' .any 0 t r) :
    s.post enc P f apart fresh handsOn again W args v W' := by
  have hlt : ∀ p ∈ before, p.block < W.heap.size := fun p hp => hW.lt p hp
  have hold : ∀ p ∈ before, (fun b => decide (b < W.heap.size)) p.block = true := fun p hp => by simpa using hlt p hp
  refine ⟨ds, gs, before, [], pa, pv, hW, hres _ _ _, hargs _ hold, hvars _ hold, World.keptBut_mono (fun p hp => ⟨hp, ?_⟩) (hb.frame (· ∈ before)), fun _ => ?_⟩
  · rw [hps, List.mem_append] at hp
    exact Or.inr hp
  · obtain ⟨_, _, _, _, _, hz, hn⟩ := hW
    refine ⟨hok, _, _, ([] ++ pa) ++ pv, ⟨[] ++ pa, pv, trodAll_append (hargs _ (fun _ _ => rfl)) (hres _ _ _), hvars _ (fun _ _ => rfl), rfl, ?_, ?_⟩, ?_⟩
    · intro b off hp
      have hin : MemPlace.cell b off ∈ before := by rw [hps]; simpa using hp
      rw [hb.frozen (hlt _ hin)]
      exact hz b off hin
    · intro ha
      have := hn ha
      rw [hps] at this
      simpa using this
    · intro p hp _
      rw [hps]
      simpa using hp
end

theorem own_ : ownKnob Try.prog.godebug = none := by kernel_rfl
theorem laidOut_ : laidOutB Try.prog = true := by kernel_rfl
theorem readR : Try.prog.readableRec 28 = true := by kernel_rfl
theorem rowR : 28 < Try.prog.types.size := by decide +kernel
theorem wf_i64 {n : Int} (h : (Lit.int .i64 n).wf = true) : -9223372036854775808 ≤ n ∧ n ≤ 9223372036854775807 := by
  simp only [Lit.wf, Bool.and_eq_true, decide_eq_true_eq] at h
  rw [show IntKind.min .i64 = -9223372036854775808 by decide, show IntKind.max .i64 = 9223372036854775807 by decide] at h
  exact h
end Go.Proofs.Ytcicfijpfhbcaaa
