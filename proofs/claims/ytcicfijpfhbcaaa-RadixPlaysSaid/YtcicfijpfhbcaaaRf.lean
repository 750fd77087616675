/-
  radix.refresh; what a store into a row leaves.
-/
import Derived.Test.YtcicfijpfhbcaaaOwn
import Derived.StillTailTactics
namespace Go.Proofs.Ytcicfijpfhbcaaa
set_option linter.unusedSimpArgs false
set_option linter.unusedVariables false
set_option linter.unusedSectionVars false
open Go.RowKit

/-- From w to w' nothing has turned but the eleven cells from o on in block g, which now hold 'row'; cs' is the block. -/
structure RowPut (w w' : World) (g o : Nat) (t : TypeId) (cs row cs' : Array Value) : Prop where
  os : w'.os = w.os
  tape : w'.tape = w.tape
  output : w'.output = w.output
  size : w'.heap.size = w.heap.size
  blk : w'.heap[g]? = some (.cells cs' t (0, 0))
  len : cs'.size = cs.size
  rowsz : row.size = 11
  fits : o + 11 ≤ cs.size
  inn : ∀ j, j < 11 → cs'[o + j]? = row[j]?
  out : ∀ j, j < o ∨ o + 11 ≤ j → cs'[j]? = cs[j]?
  oth : ∀ q, q ≠ g → w'.heap[q]? = w.heap[q]?
theorem RowPut.start {w : World} {g o : Nat} {t : TypeId} {cs row : Array Value} (hb : w.heap[g]? = some (.cells cs t (0, 0))) (hr : row.size = 11) (hf : o + 11 ≤ cs.size) (h : ∀ j, j < 11 → cs[o + j]? = row[j]?) : RowPut w w g o t cs row cs :=
  ⟨rfl, rfl, rfl, rfl, hb, rfl, hr, hf, h, fun _ _ => rfl, fun _ _ => rfl⟩
theorem RowPut.drew {w w' : World} {g o : Nat} {t : TypeId} {cs row cs' : Array Value} (h : RowPut w w' g o t cs row cs') : RowPut w w'.drew g o t cs row cs' :=
  ⟨h.os, h.tape, h.output, h.size, h.blk, h.len, h.rowsz, h.fits, h.inn, h.out, h.oth⟩
theorem RowPut.drewN {w w' : World} {g o : Nat} {t : TypeId} {cs row cs' : Array Value} (h : RowPut w w' g o t cs row cs') (n : Nat) : RowPut w (w'.drewN n) g o t cs row cs' :=
  ⟨h.os, h.tape, h.output, h.size, h.blk, h.len, h.rowsz, h.fits, h.inn, h.out, h.oth⟩
theorem RowPut.set {w w' : World} {g o : Nat} {t : TypeId} {cs row cs' : Array Value} (h : RowPut w w' g o t cs row cs') {j p : Nat} (hj : j < 11) (hp : p = o + j) (u : Value) :
    RowPut w (w'.setCell ⟨g, p, none⟩ u) g o t cs (row.setIfInBounds j u) (cs'.setIfInBounds p u) := by
  subst hp
  refine ⟨h.os, h.tape, h.output, by simp [h.size], heap_setCell_same _ _ _ _ _ _ h.blk, by simp [h.len], by simp [h.rowsz], h.fits, fun i hi => ?_, fun i hi => ?_, fun q hq => by rw [heap_setCell_other w' _ q _ hq]; exact h.oth q hq⟩
  · have hf := h.fits
    have hl := h.len
    have hrz := h.rowsz
    rw [Array.getElem?_setIfInBounds, Array.getElem?_setIfInBounds]
    by_cases hij : j = i
    · subst hij
      rw [if_pos rfl, if_pos rfl, if_pos (by omega), if_pos (by omega)]
    · rw [if_neg (by omega), if_neg hij]; exact h.inn i hi
  · rw [Array.getElem?_setIfInBounds, if_neg (by omega)]
    exact h.out i hi
theorem RowPut.cell {w w' : World} {g o : Nat} {t : TypeId} {cs row cs' : Array Value} (h : RowPut w w' g o t cs row cs') {j : Nat} (hj : j < 11) : w'.cell? ⟨g, o + j, none⟩ = row[j]? := by
  rw [cell_of_row _ _ _ _ _ _ h.blk, h.inn j hj]

theorem RowPut.cast {w w' : World} {g o : Nat} {t : TypeId} {cs row row' cs' : Array Value} (h : RowPut w w' g o t cs row cs') (e : row = row') : RowPut w w' g o t cs row' cs' := e ▸ h
theorem RowPut.set8 {w w' : World} {g o : Nat} {t : TypeId} {cs row cs' : Array Value} {u : Value} (h : RowPut w w' g o t cs row cs') :
    RowPut w (w'.setCell ⟨g, o + 8, none⟩ u) g o t cs (row.setIfInBounds 8 u) (cs'.setIfInBounds (o + 8) u) := h.set (j := 8) (by omega) rfl u
theorem RowPut.set9 {w w' : World} {g o : Nat} {t : TypeId} {cs row cs' : Array Value} {u : Value} (h : RowPut w w' g o t cs row cs') :
    RowPut w (w'.setCell ⟨g, o + 8 + 1, none⟩ u) g o t cs (row.setIfInBounds 9 u) (cs'.setIfInBounds (o + 8 + 1) u) := h.set (j := 9) (by omega) (by omega) u
theorem RowPut.ex {w w' : World} {g o : Nat} {t : TypeId} {cs row row' cs' : Array Value} (h : RowPut w w' g o t cs row cs') (e : row = row') : ∃ cs', RowPut w w' g o t cs row' cs' := ⟨cs', e ▸ h⟩

/-- Tag j of the node, computed anew for child d. -/
def refT (d : Nat) (kt t : Int) : Int := if kt != 0 then bits .or .i64 (bits .andNot .i64 t (wrap64 (2 ^ d))) (wrap64 (2 ^ d)) else bits .andNot .i64 t (wrap64 (2 ^ d))
def refreshN : RN → Nat → RN
  | .mk v t0 t1 n kid, d => .mk v (refT d ((RN.mk v t0 t1 n kid).kid d).t0 t0) (refT d ((RN.mk v t0 t1 n kid).kid d).t1 t1) n kid
theorem cellsN_refresh (x : RN) (d : Nat) (s : Value) : cellsN (refreshN x d) s = ((cellsN x s).setIfInBounds 8 (.int .i64 (refT d (x.kid d).t0 x.t0))).setIfInBounds 9 (.int .i64 (refT d (x.kid d).t1 x.t1)) := by cases x; rfl

/-- The first k tags computed anew. -/
def refTo (x : RN) (d k : Nat) : RN := .mk x.v (if 1 ≤ k then refT d (x.kid d).t0 x.t0 else x.t0) (if 2 ≤ k then refT d (x.kid d).t1 x.t1 else x.t1) 0 (fun i => absurd i.2 (by omega))
theorem refTo_0 (x : RN) (d : Nat) (s : Value) : cellsN (refTo x d 0) s = cellsN x s := rfl
theorem refTo_1 (x : RN) (d : Nat) (s : Value) : cellsN (refTo x d 1) s = (cellsN x s).setIfInBounds 8 (.int .i64 (refT d (x.kid d).t0 x.t0)) := rfl
theorem refTo_2 (x : RN) (d : Nat) (s : Value) : cellsN (refTo x d 2) s = (cellsN (refTo x d 1) s).setIfInBounds 9 (.int .i64 (refT d (x.kid d).t1 x.t1)) := rfl
theorem refTo_end (x : RN) (d : Nat) (s : Value) : cellsN (refTo x d 2) s = cellsN (refreshN x d) s := by cases x; rfl

theorem RowPut.cell_other {w w' : World} {g o : Nat} {t : TypeId} {cs row cs' : Array Value} (h : RowPut w w' g o t cs row cs') {q j : Nat} (hq : q ≠ g) : w'.cell? ⟨q, j, none⟩ = w.cell? ⟨q, j, none⟩ :=
  World.cell?_of_block (a := ⟨q, j, none⟩) (h.oth q hq)
theorem RowPut.frozen {w w' : World} {g o : Nat} {t : TypeId} {cs row cs' : Array Value} (h : RowPut w w' g o t cs row cs') (j : Nat) : w'.frozen? ⟨g, j, none⟩ = false := frozen_of_row w' g j cs' t h.blk

set_option maxRecDepth 100000 in
set_option maxHeartbeats 1000000 in
theorem p_refresh (x : RN) (d g o gk cap : Nat) (t : TypeId) (cs : Array Value) (w : World) (hd : d < 8) (hdn : d < x.n) (hn : x.n ≤ 9223372036854775807)
    (h : RowPut w w g o t cs (cellsN x (.slice (some ⟨gk, 0, none⟩) x.n cap)) cs) (hg : gk ≠ g)
    (k8 : w.cell? ⟨gk, d * 11 + 8, none⟩ = some (.int .i64 (x.kid d).t0)) (k9 : w.cell? ⟨gk, d * 11 + 9, none⟩ = some (.int .i64 (x.kid d).t1)) :
    Calls Try.prog 73 #[.pointer (some ⟨g, o, none⟩), .int .i64 d] w fun e w' => e = .returned (.tuple #[]) ∧ ∃ cs', RowPut w w' g o t cs (cellsN (refreshN x d) (.slice (some ⟨gk, 0, none⟩) x.n cap)) cs' := by
  have H := Lib.hid h
  have K8 := Lib.hid k8
  have K9 := Lib.hid k9
  have hd2 : (d : Int) < (x.n : Int) := by omega
  clear h k8 k9
  go_enter Try.func73, Try.ntmps73
  go_wp2_with fail
  go_loopw [5] (fun i wr => ∃ k : Nat, k ≤ 2 ∧ i = .int .i64 k ∧ ∃ cs', RowPut w wr g o t cs (cellsN (refTo x d k) (.slice (some ⟨gk, 0, none⟩) x.n cap)) cs') (fun i _ => 2 - (intOf i).toNat)
  case atStart => exact ⟨0, by omega, rfl, cs, H.out⟩
  case round =>
    obtain ⟨k, hk, rfl, cs', hp⟩ := hrel
    have k8 := (hp.cell_other hg).trans K8.out
    have k9 := (hp.cell_other hg).trans K9.out
    have c8 := hp.cell (j := 8) (by omega)
    have c9 := hp.cell (j := 9) (by omega)
    have c10 := hp.cell (j := 10) (by omega)
    have f8 := hp.frozen (o + 8)
    have f9 := hp.frozen (o + 9)
    have f9' := hp.frozen (o + 8 + 1)
    have HP := Lib.hid hp
    clear hp
    obtain rfl | rfl | rfl : k = 0 ∨ k = 1 ∨ k = 2 := by omega
    · rw [refTo_0] at c8 c9 c10
      cases b : ((x.kid d).t0 != 0)
      · go_wp2_with fail
        (refine wp_region_still_tail 12 (by kernel_rfl) (by kernel_rfl) ?_; simp only [World.drew_eq, plus_drew, List.take_succ_cons, List.take_zero, List.drop_succ_cons, List.drop_zero]; (repeat still_step); refine wpStill_nil ?_)
        go_wp2_with fail
        refine ⟨⟨1, by omega, rfl, _, ((HP.out.set8).drew).cast ?_⟩, by simp [intOf]⟩
        rw [refTo_1, refT, b]; rfl
      · go_wp2_with fail
        (refine wp_region_still_tail 12 (by kernel_rfl) (by kernel_rfl) ?_; simp only [World.drew_eq, plus_drew, List.take_succ_cons, List.take_zero, List.drop_succ_cons, List.drop_zero]; (repeat still_step); refine wpStill_nil ?_)
        go_wp2_with fail
        have e8 := (HP.out.set8 (u := .int .i64 (bits BinOp.andNot IntKind.i64 x.t0 (wrap64 (2 ^ d))))).drew
        have d8 : (wr.setCell ⟨g, o + 8, none⟩ (.int .i64 (bits BinOp.andNot IntKind.i64 x.t0 (wrap64 (2 ^ d))))).drew.cell? ⟨g, o + 8, none⟩ = some (.int .i64 (bits BinOp.andNot IntKind.i64 x.t0 (wrap64 (2 ^ d)))) := e8.cell (j := 8) (by omega)
        have g8 := e8.frozen (o + 8)
        have E8 := Lib.hid e8
        clear e8
        generalize World.drew (World.setCell wr _ _) = W at *
        generalize hq : bits BinOp.andNot IntKind.i64 x.t0 (wrap64 (2 ^ d)) = q at *
        (refine wp_region_still_tail 12 (by kernel_rfl) (by kernel_rfl) ?_; simp only [World.drew_eq, plus_drew, List.take_succ_cons, List.take_zero, List.drop_succ_cons, List.drop_zero]; (repeat still_step); refine wpStill_nil ?_)
        go_wp2_with fail
        refine ⟨⟨1, by omega, rfl, _, ((E8.out.set8).drew).cast ?_⟩, by simp [intOf]⟩
        rw [refTo_1, refT, b, if_pos rfl, hq]; rfl
    · clear c8 c9 c10
      have c9 : wr.cell? ⟨g, o + 9, none⟩ = some (.int .i64 x.t1) := HP.out.cell (j := 9) (by omega)
      have c9' : wr.cell? ⟨g, o + 8 + 1, none⟩ = some (.int .i64 x.t1) := c9
      have c10 : wr.cell? ⟨g, o + 10, none⟩ = some (.slice (some ⟨gk, 0, none⟩) x.n cap) := HP.out.cell (j := 10) (by omega)
      cases b : ((x.kid d).t1 != 0)
      · go_wp2_with fail
        (refine wp_region_still_tail 12 (by kernel_rfl) (by kernel_rfl) ?_; simp only [World.drew_eq, plus_drew, List.take_succ_cons, List.take_zero, List.drop_succ_cons, List.drop_zero]; (repeat still_step); refine wpStill_nil ?_)
        go_wp2_with fail
        refine ⟨⟨2, by omega, rfl, _, ((HP.out.set9).drew).cast ?_⟩, by simp [intOf]⟩
        rw [refTo_2, refT, b]; rfl
      · go_wp2_with fail
        (refine wp_region_still_tail 12 (by kernel_rfl) (by kernel_rfl) ?_; simp only [World.drew_eq, plus_drew, List.take_succ_cons, List.take_zero, List.drop_succ_cons, List.drop_zero]; (repeat still_step); refine wpStill_nil ?_)
        go_wp2_with fail
        have e8 := (HP.out.set9 (u := .int .i64 (bits BinOp.andNot IntKind.i64 x.t1 (wrap64 (2 ^ d))))).drew
        have d8 : (wr.setCell ⟨g, o + 8 + 1, none⟩ (.int .i64 (bits BinOp.andNot IntKind.i64 x.t1 (wrap64 (2 ^ d))))).drew.cell? ⟨g, o + 8 + 1, none⟩ = some (.int .i64 (bits BinOp.andNot IntKind.i64 x.t1 (wrap64 (2 ^ d)))) := e8.cell (j := 9) (by omega)
        have g8 := e8.frozen (o + 8 + 1)
        have E8 := Lib.hid e8
        clear e8
        generalize World.drew (World.setCell wr _ _) = W at *
        generalize hq : bits BinOp.andNot IntKind.i64 x.t1 (wrap64 (2 ^ d)) = q at *
        (refine wp_region_still_tail 12 (by kernel_rfl) (by kernel_rfl) ?_; simp only [World.drew_eq, plus_drew, List.take_succ_cons, List.take_zero, List.drop_succ_cons, List.drop_zero]; (repeat still_step); refine wpStill_nil ?_)
        go_wp2_with fail
        refine ⟨⟨2, by omega, rfl, _, ((E8.out.set9).drew).cast ?_⟩, by simp [intOf]⟩
        rw [refTo_2, refT, b, if_pos rfl, hq]; rfl
    · go_wp2_with fail
      go_end0
      exact ⟨rfl, cs', by rw [← refTo_end]; exact HP.out⟩
end Go.Proofs.Ytcicfijpfhbcaaa
