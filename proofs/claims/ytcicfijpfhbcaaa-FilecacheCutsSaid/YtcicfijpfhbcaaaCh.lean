/-
  The two changes of a leaf: radix.Set$1, radix.mark$1.
-/
import Derived.Test.YtcicfijpfhbcaaaUp
import Derived.StillTailTactics
namespace Go.Proofs.Ytcicfijpfhbcaaa
set_option linter.unusedSimpArgs false
set_option linter.unusedVariables false
set_option linter.unusedSectionVars false
open Go.RowKit

/-- Function f, called with a pointer to a node, a place, and what it has captured, makes 'ch x d' of the node x; C: the captured blocks. -/
structure ChOk (f : FuncId) (caps : Array Value) (C : Nat → Prop) (K : World → Prop) (ch : RN → Nat → RN) : Prop where
  enter : ∀ (args : Array Value) (w : World), (callFunc f args).run Try.prog w = .ok (.enter f args) w
  keep : ∀ w w' : World, (∀ b, C b → w'.heap[b]? = w.heap[b]?) → K w → K w'
  calls : ∀ (x : RN) (d g o : Nat) (t : TypeId) (cs : Array Value) (s : Value) (S : Nat → Prop) (w : World), d < 8 → K w → (∀ b, C b → b < w.heap.size ∧ b ≠ g ∧ ¬ S b) → NodeIn w g o t cs x s S →
    Calls Try.prog f (#[.pointer (some ⟨g, o, none⟩), .int .i64 d] ++ caps) w (Turned w g o t cs S (ch x d))

def updV (f : Nat → Int) (d : Nat) (v : Int) : Nat → Int := fun i => if i = d then v else f i
def clr (t : Int) (d : Nat) : Int := bits .andNot .i64 t (wrap64 (2 ^ d))
def put1 (t : Int) (d : Nat) : Int := bits .or .i64 t (wrap64 (2 ^ d))
/-- What Set's change makes of a leaf. -/
def setLeaf (v : Int) : RN → Nat → RN
  | .mk vs t0 t1 n kid, d => if v = 0 then .mk (updV vs d v) (clr t0 d) (clr t1 d) n kid else .mk (updV vs d v) t0 t1 n kid
theorem OwnK.same {w : World} {v v' : Nat → Int} {t0 t1 t0' t1' : Int} {n : Nat} {kid : Fin n → RN} {s : Value} {S : Nat → Prop} (h : OwnK w (.mk v t0 t1 n kid) s S) : OwnK w (.mk v' t0' t1' n kid) s S := by
  rw [OwnK] at h ⊢; exact h
theorem updV_row (v : Nat → Int) (t0 t1 : Int) (n : Nat) (kid : Fin n → RN) (s : Value) (a : Int) : ∀ d, d < 8 → (cellsN (.mk v t0 t1 n kid) s).setIfInBounds d (.int .i64 a) = cellsN (.mk (updV v d a) t0 t1 n kid) s
  | 0, _ => rfl
  | 1, _ => rfl
  | 2, _ => rfl
  | 3, _ => rfl
  | 4, _ => rfl
  | 5, _ => rfl
  | 6, _ => rfl
  | 7, _ => rfl
  | _ + 8, h => absurd h (by omega)
theorem set8_row (v : Nat → Int) (t0 t1 : Int) (n : Nat) (kid : Fin n → RN) (s : Value) (a : Int) : (cellsN (.mk v t0 t1 n kid) s).setIfInBounds 8 (.int .i64 a) = cellsN (.mk v a t1 n kid) s := rfl
theorem set9_row (v : Nat → Int) (t0 t1 : Int) (n : Nat) (kid : Fin n → RN) (s : Value) (a : Int) : (cellsN (.mk v t0 t1 n kid) s).setIfInBounds 9 (.int .i64 a) = cellsN (.mk v t0 a n kid) s := rfl
theorem tag_row (v : Nat → Int) (t0 t1 : Int) (n : Nat) (kid : Fin n → RN) (s : Value) (a b : Int) : ((cellsN (.mk v t0 t1 n kid) s).setIfInBounds 8 (.int .i64 a)).setIfInBounds 9 (.int .i64 b) = cellsN (.mk v a b n kid) s := rfl

set_option maxRecDepth 100000 in
set_option maxHeartbeats 1000000 in
theorem p_Set1 (v : Int) (gv : Nat) : ChOk 75 #[.pointer (some ⟨gv, 0, none⟩)] (fun b => b = gv) (fun w => w.cell? ⟨gv, 0, none⟩ = some (.int .i64 v)) (setLeaf v) where
  enter args w := rfl
  keep w w' hb h := by rw [World.cell?_of_block (a := ⟨gv, 0, none⟩) (hb gv rfl)]; exact h
  calls x d g o t cs s S w hd cv hC h := by
    obtain ⟨hgl, hgv, hgS⟩ := hC gv rfl
    obtain ⟨vs, t0, t1, n, kid⟩ := x
    have cd : w.cell? ⟨g, o + d, none⟩ = some (.int .i64 (vs d)) := (h.cell (j := d) (by omega)).trans (cellsN_v _ _ d hd)
    have fd := h.frozen (o + d)
    have hgg : gv ≠ g := hgv
    have d0 : (0 : Int) ≤ (d : Int) := by omega
    have d8 : (d : Int) < 8 := by omega
    have hp := h.put
    have HO := Lib.hid h.own
    have HS := Lib.hid h.out
    have HP := Lib.hid hp
    clear h hp hC
    have e1 := ((HP.out.set (j := d) (by omega) rfl (.int .i64 v)).cast (updV_row vs t0 t1 n kid s v d hd)).drew
    have hw : v = 0 ∨ v ≠ 0 := by omega
    rcases hw with rfl | hw
    · have E1 := Lib.hid e1
      clear e1
      go_enter Try.func75, Try.ntmps75
      go_wp2_with fail
      (refine wp_region_still_tail 6 (by kernel_rfl) (by kernel_rfl) ?_; simp only [World.drew_eq, plus_drew, List.take_succ_cons, List.take_zero, List.drop_succ_cons, List.drop_zero]; (repeat still_step); refine wpStill_nil ?_)
      go_wp2_with fail
      have e1 := E1.out
      clear E1
      generalize World.drew (World.setCell w _ _) = W1 at e1 ⊢
      have c8 : W1.cell? ⟨g, o + 8, none⟩ = some (.int .i64 t0) := e1.cell (j := 8) (by omega)
      have f8 := e1.frozen (o + 8)
      have e2 : RowPut w (W1.setCell ⟨g, o + 8, none⟩ (.int .i64 (clr t0 d))).drew g o t cs (cellsN (.mk (updV vs d 0) (clr t0 d) t1 n kid) s) _ := (e1.set8.cast (set8_row ..)).drew
      have E2 := Lib.hid e2
      clear e1 e2
      (refine wp_region_still_tail 11 (by kernel_rfl) (by kernel_rfl) ?_; simp only [World.drew_eq, plus_drew, List.take_succ_cons, List.take_zero, List.drop_succ_cons, List.drop_zero]; (repeat still_step); refine wpStill_nil ?_)
      go_wp2_with fail
      have e2 := E2.out
      clear E2 c8 f8
      unfold clr at e2
      generalize World.drew (World.setCell W1 _ _) = W2 at e2 ⊢
      have c9 : W2.cell? ⟨g, o + 9, none⟩ = some (.int .i64 t1) := e2.cell (j := 9) (by omega)
      have c9' : W2.cell? ⟨g, o + 8 + 1, none⟩ = some (.int .i64 t1) := c9
      have f9 := e2.frozen (o + 9)
      have f9' := e2.frozen (o + 8 + 1)
      have E2 := Lib.hid e2
      clear e2
      (refine wp_region_still_tail 11 (by kernel_rfl) (by kernel_rfl) ?_; simp only [World.drew_eq, plus_drew, List.take_succ_cons, List.take_zero, List.drop_succ_cons, List.drop_zero]; (repeat still_step); refine wpStill_nil ?_)
      go_wp2_with fail
      go_end0
      refine ⟨rfl, _, s, S, RowPut.turn (RowPut.cast (E2.out.set9.cast (set9_row ..)).drew ?_) ?_ HS.out⟩
      · rw [setLeaf, if_pos rfl, clr, clr]
      · rw [setLeaf, if_pos rfl]; exact HO.out.same
    · have b0 : (v == 0) = false := by simp [hw]
      have E1 := Lib.hid e1
      clear e1
      go_enter Try.func75, Try.ntmps75
      go_wp2_with fail
      (refine wp_region_still_tail 6 (by kernel_rfl) (by kernel_rfl) ?_; simp only [World.drew_eq, plus_drew, List.take_succ_cons, List.take_zero, List.drop_succ_cons, List.drop_zero]; (repeat still_step); refine wpStill_nil ?_)
      go_wp2_with fail
      go_end0
      refine ⟨rfl, _, s, S, RowPut.turn (RowPut.cast E1.out ?_) ?_ HS.out⟩
      · rw [setLeaf, if_neg hw]
      · rw [setLeaf, if_neg hw]; exact HO.out.same

/-- What mark's change makes of a leaf: tag number j is set or cleared. -/
def markT (on : Bool) (t : Int) (d : Nat) : Int := if on then put1 (clr t d) d else clr t d
def markLeaf (tag : Nat) (on : Bool) : RN → Nat → RN
  | .mk vs t0 t1 n kid, d => if tag = 0 then .mk vs (markT on t0 d) t1 n kid else .mk vs t0 (markT on t1 d) n kid

set_option maxRecDepth 100000 in
set_option maxHeartbeats 1000000 in
theorem p_mark1 (tag : Nat) (on : Bool) (gt gn : Nat) (htag : tag < 2) : ChOk 106 #[.pointer (some ⟨gt, 0, none⟩), .pointer (some ⟨gn, 0, none⟩)] (fun b => b = gt ∨ b = gn)
    (fun w => w.cell? ⟨gt, 0, none⟩ = some (.int .i64 tag) ∧ w.cell? ⟨gn, 0, none⟩ = some (.bool on)) (markLeaf tag on) where
  enter args w := rfl
  keep w w' hb h := ⟨by rw [World.cell?_of_block (a := ⟨gt, 0, none⟩) (hb gt (.inl rfl))]; exact h.1, by rw [World.cell?_of_block (a := ⟨gn, 0, none⟩) (hb gn (.inr rfl))]; exact h.2⟩
  calls x d g o t cs s S w hd cv hC h := by
    obtain ⟨ct, cn⟩ := cv
    have hgt := hC gt (.inl rfl)
    have hgn := hC gn (.inr rfl)
    obtain ⟨vs, t0, t1, n, kid⟩ := x
    have g1 : gt ≠ g := hgt.2.1
    have g2 : gn ≠ g := hgn.2.1
    have d0 : (0 : Int) ≤ (d : Int) := by omega
    have d8 : (d : Int) < 8 := by omega
    have hp := h.put
    have HO := Lib.hid h.own
    have HS := Lib.hid h.out
    have HP := Lib.hid hp
    have f8 := h.frozen (o + 8)
    clear hp hC hgt hgn
    obtain rfl | rfl : tag = 0 ∨ tag = 1 := by omega
    · have c8 : w.cell? ⟨g, o + 8, none⟩ = some (.int .i64 t0) := h.cell (by omega)
      have e1 : RowPut w (w.setCell ⟨g, o + 8, none⟩ (.int .i64 (clr t0 d))).drew g o t cs (cellsN (.mk vs (clr t0 d) t1 n kid) s) _ := (HP.out.set8.cast (set8_row ..)).drew
      have E1 := Lib.hid e1
      clear e1 h
      cases on
      · go_enter Try.func106, Try.ntmps106
        go_wp2_with fail
        (refine wp_region_still_tail 12 (by kernel_rfl) (by kernel_rfl) ?_; simp only [World.drew_eq, plus_drew, List.take_succ_cons, List.take_zero, List.drop_succ_cons, List.drop_zero]; (repeat still_step); refine wpStill_nil ?_)
        go_wp2_with fail
        go_end0
        refine ⟨rfl, _, s, S, RowPut.turn (RowPut.cast E1.out ?_) ?_ HS.out⟩
        · rw [markLeaf, if_pos rfl, markT, if_neg (by decide)]
        · rw [markLeaf, if_pos rfl]; exact HO.out.same
      · go_enter Try.func106, Try.ntmps106
        go_wp2_with fail
        (refine wp_region_still_tail 12 (by kernel_rfl) (by kernel_rfl) ?_; simp only [World.drew_eq, plus_drew, List.take_succ_cons, List.take_zero, List.drop_succ_cons, List.drop_zero]; (repeat still_step); refine wpStill_nil ?_)
        go_wp2_with fail
        have e1 := E1.out
        have ct' := (e1.cell_other (j := 0) g1).trans ct
        clear E1 c8 f8 ct cn
        unfold clr at e1 ct'
        generalize World.drew (World.setCell w _ _) = W1 at e1 ct' ⊢
        have c8 : W1.cell? ⟨g, o + 8, none⟩ = some (.int .i64 (bits .andNot .i64 t0 (wrap64 (2 ^ d)))) := e1.cell (j := 8) (by omega)
        have f8 := e1.frozen (o + 8)
        have E1 := Lib.hid e1
        clear e1
        generalize hq : bits .andNot .i64 t0 (wrap64 (2 ^ d)) = q at *
        (refine wp_region_still_tail 12 (by kernel_rfl) (by kernel_rfl) ?_; simp only [World.drew_eq, plus_drew, List.take_succ_cons, List.take_zero, List.drop_succ_cons, List.drop_zero]; (repeat still_step); refine wpStill_nil ?_)
        go_wp2_with fail
        go_end0
        refine ⟨rfl, _, s, S, RowPut.turn (RowPut.cast (E1.out.set8.cast (set8_row ..)).drew ?_) ?_ HS.out⟩
        · rw [markLeaf, if_pos rfl, markT, if_pos rfl, put1, clr, hq]
        · rw [markLeaf, if_pos rfl]; exact HO.out.same
    · have c9 : w.cell? ⟨g, o + 9, none⟩ = some (.int .i64 t1) := h.cell (by omega)
      have c9' : w.cell? ⟨g, o + 8 + 1, none⟩ = some (.int .i64 t1) := c9
      have f9 := h.frozen (o + 9)
      have f9' := h.frozen (o + 8 + 1)
      have e1 : RowPut w (w.setCell ⟨g, o + 8 + 1, none⟩ (.int .i64 (clr t1 d))).drew g o t cs (cellsN (.mk vs t0 (clr t1 d) n kid) s) _ := (HP.out.set9.cast (set9_row ..)).drew
      have E1 := Lib.hid e1
      clear e1 h
      cases on
      · go_enter Try.func106, Try.ntmps106
        go_wp2_with fail
        (refine wp_region_still_tail 12 (by kernel_rfl) (by kernel_rfl) ?_; simp only [World.drew_eq, plus_drew, List.take_succ_cons, List.take_zero, List.drop_succ_cons, List.drop_zero]; (repeat still_step); refine wpStill_nil ?_)
        go_wp2_with fail
        go_end0
        refine ⟨rfl, _, s, S, RowPut.turn (RowPut.cast E1.out ?_) ?_ HS.out⟩
        · rw [markLeaf, if_neg (by decide), markT, if_neg (by decide)]
        · rw [markLeaf, if_neg (by decide)]; exact HO.out.same
      · go_enter Try.func106, Try.ntmps106
        go_wp2_with fail
        (refine wp_region_still_tail 12 (by kernel_rfl) (by kernel_rfl) ?_; simp only [World.drew_eq, plus_drew, List.take_succ_cons, List.take_zero, List.drop_succ_cons, List.drop_zero]; (repeat still_step); refine wpStill_nil ?_)
        go_wp2_with fail
        have e1 := E1.out
        have ct' := (e1.cell_other (j := 0) g1).trans ct
        clear E1 c9 c9' f8 f9 f9' ct cn
        unfold clr at e1 ct'
        generalize World.drew (World.setCell w _ _) = W1 at e1 ct' ⊢
        have c9 : W1.cell? ⟨g, o + 8 + 1, none⟩ = some (.int .i64 (bits .andNot .i64 t1 (wrap64 (2 ^ d)))) := e1.cell (j := 9) (by omega)
        have f9 := e1.frozen (o + 8 + 1)
        have E1 := Lib.hid e1
        clear e1
        generalize hq : bits .andNot .i64 t1 (wrap64 (2 ^ d)) = q at *
        (refine wp_region_still_tail 12 (by kernel_rfl) (by kernel_rfl) ?_; simp only [World.drew_eq, plus_drew, List.take_succ_cons, List.take_zero, List.drop_succ_cons, List.drop_zero]; (repeat still_step); refine wpStill_nil ?_)
        go_wp2_with fail
        go_end0
        refine ⟨rfl, _, s, S, RowPut.turn (RowPut.cast (E1.out.set9.cast (set9_row ..)).drew ?_) ?_ HS.out⟩
        · rw [markLeaf, if_neg (by decide), markT, if_pos rfl, put1, clr, hq]
        · rw [markLeaf, if_neg (by decide)]; exact HO.out.same
end Go.Proofs.Ytcicfijpfhbcaaa
