/-
  Where the script's laws on caches stand; the map as it is made.
-/
import Derived.Test.YtcicfijpfhbcaaaQp
import Derived.Test.YtcicfijpfhbcaaaQg
import Derived.Test.YtcicfijpfhbcaaaFx
namespace Go.Proofs.Ytcicfijpfhbcaaa
set_option linter.unusedSimpArgs false
set_option linter.unusedVariables false
set_option linter.unusedSectionVars false
open Go.RowKit

theorem sizeMp : (Try.prog.info? 60).map (·.size) = some 72 := by kernel_rfl
/-- The whole map is read. -/
theorem wpList_loadM {ops : Array Oper} {rest : List Oper} {o : Oper} {a : Act} {w : World} {Q : Exit → Act → World → Prop} (x : Operand) (ho : o.op = .load 60 x) (hw : Region.wanted o (yielded ops a.tmps) = true)
    (g : Nat) (hx : a.eval x = .pointer (some ⟨g, 0, none⟩)) (row : Array Value) (hr : row.size = 72) (t : TypeId) (hg : w.heap[g]? = some (.cells row t (0, 0)))
    (h : wpList Try.prog ops Q rest (a.put o.dst (.agg row)) w) : wpList Try.prog ops Q (o :: rest) a w :=
  wpList_step fun K hK => by
    rw [if_pos hw]
    exact wp_load_cells 60 x ho _ hx row _ (fun j v hj => by rw [addr_add_mk, Nat.zero_add, cell_of_row _ _ _ _ _ _ hg]; simpa using hj) Try.underlying60 rfl (by rw [hr]; exact sizeMp) (hK _ _ h)
/-- The map as it is filled. -/
def fillM (k : Nat) : Nat → Pg := fun j => if j < k then pg0 else (0, 0, false)
theorem fillM_succ (k : Nat) : fillM (k + 1) = updM (fillM k) k pg0 := by
  funext j
  unfold fillM
  by_cases e : j = k
  · subst e; rw [if_pos (by omega), updM_same]
  · rw [updM_other _ _ _ e]
    by_cases h : j < k
    · rw [if_pos h, if_pos (by omega)]
    · rw [if_neg h, if_neg (by omega)]
theorem MapAt.congr {W : World} {g : Nat} {m m' : Nat → Pg} (h : MapAt W g m) (e : ∀ i, i < 24 → m i = m' i) : MapAt W g m' := by
  obtain ⟨row, h1, h2, h3⟩ := h
  exact ⟨row, h1, h2, fun i hi j hj => by rw [← e i hi]; exact h3 i hi j hj⟩
theorem fill_end {W : World} {g : Nat} (h : MapAt W g (fillM 24)) : MapAt W g fun _ => pg0 := h.congr fun i hi => if_pos hi

theorem zero_map : MapR Try.zeroCells60 (fillM 0) := ⟨rfl, fun i hi j hj => match i, j, hi, hj with
  | 0, 0, _, _ => rfl
  | 0, 1, _, _ => rfl
  | 0, 2, _, _ => rfl
  | 1, 0, _, _ => rfl
  | 1, 1, _, _ => rfl
  | 1, 2, _, _ => rfl
  | 2, 0, _, _ => rfl
  | 2, 1, _, _ => rfl
  | 2, 2, _, _ => rfl
  | 3, 0, _, _ => rfl
  | 3, 1, _, _ => rfl
  | 3, 2, _, _ => rfl
  | 4, 0, _, _ => rfl
  | 4, 1, _, _ => rfl
  | 4, 2, _, _ => rfl
  | 5, 0, _, _ => rfl
  | 5, 1, _, _ => rfl
  | 5, 2, _, _ => rfl
  | 6, 0, _, _ => rfl
  | 6, 1, _, _ => rfl
  | 6, 2, _, _ => rfl
  | 7, 0, _, _ => rfl
  | 7, 1, _, _ => rfl
  | 7, 2, _, _ => rfl
  | 8, 0, _, _ => rfl
  | 8, 1, _, _ => rfl
  | 8, 2, _, _ => rfl
  | 9, 0, _, _ => rfl
  | 9, 1, _, _ => rfl
  | 9, 2, _, _ => rfl
  | 10, 0, _, _ => rfl
  | 10, 1, _, _ => rfl
  | 10, 2, _, _ => rfl
  | 11, 0, _, _ => rfl
  | 11, 1, _, _ => rfl
  | 11, 2, _, _ => rfl
  | 12, 0, _, _ => rfl
  | 12, 1, _, _ => rfl
  | 12, 2, _, _ => rfl
  | 13, 0, _, _ => rfl
  | 13, 1, _, _ => rfl
  | 13, 2, _, _ => rfl
  | 14, 0, _, _ => rfl
  | 14, 1, _, _ => rfl
  | 14, 2, _, _ => rfl
  | 15, 0, _, _ => rfl
  | 15, 1, _, _ => rfl
  | 15, 2, _, _ => rfl
  | 16, 0, _, _ => rfl
  | 16, 1, _, _ => rfl
  | 16, 2, _, _ => rfl
  | 17, 0, _, _ => rfl
  | 17, 1, _, _ => rfl
  | 17, 2, _, _ => rfl
  | 18, 0, _, _ => rfl
  | 18, 1, _, _ => rfl
  | 18, 2, _, _ => rfl
  | 19, 0, _, _ => rfl
  | 19, 1, _, _ => rfl
  | 19, 2, _, _ => rfl
  | 20, 0, _, _ => rfl
  | 20, 1, _, _ => rfl
  | 20, 2, _, _ => rfl
  | 21, 0, _, _ => rfl
  | 21, 1, _, _ => rfl
  | 21, 2, _, _ => rfl
  | 22, 0, _, _ => rfl
  | 22, 1, _, _ => rfl
  | 22, 2, _, _ => rfl
  | 23, 0, _, _ => rfl
  | 23, 1, _, _ => rfl
  | 23, 2, _, _ => rfl
  | i + 24, _, hi, _ => absurd hi (by omega)
  | _, j + 3, _, hj => absurd hj (by omega)⟩
theorem hO_keep {w w' : World} {x : RN} {s : Value} {S : Nat → Prop} (h : OwnK w x s S) (hb : Below w.heap.size w w') : OwnK w' x s S := h.frame _ fun b _ hl => hb.block b hl
theorem MTn.go' {g : Nat} {V W X : World} (h : MTn g V W) (hb : Below V.heap.size W X) : MTn g V X :=
  ⟨hb.os.trans h.os, hb.tape.trans h.tape, hb.output.trans h.output, Nat.le_trans h.size hb.size, fun k hk hn => (hb.block k hk).trans (h.far k hk hn)⟩
structure MpS (w : World) (g gm : Nat) (m : Nat → Pg) (t : Nat × RN) (A : Option Addr) (cap : Nat) (S : Nat → Prop) (wr : World) : Prop where
  okm : okM m
  cp : Cp (mF m) t
  bx : wr.heap[g]? = some (.cells (cellsR t.1 t.2 (.slice A t.2.n cap)) 28 (0, 0))
  mp : MapAt wr gm m
  own : OwnK wr t.2 (.slice A t.2.n cap) S
  S_ : ∀ b, S b → b ≠ g ∧ b ≠ gm
  below : Below w.heap.size w wr
  hg : w.heap.size ≤ g
  hgm : w.heap.size ≤ gm
  ne : g ≠ gm
section
variable {w wr V W1 W : World} {g gm : Nat} {m m1 : Nat → Pg} {t t1 : Nat × RN} {A A1 : Option Addr} {cap cap1 : Nat} {S S1 : Nat → Prop}
theorem MpS.rd (h : MpS w g gm m t A cap S wr) : RdVals wr (cellsR t.1 t.2 (.slice A t.2.n cap)) 12 (encR t.1 t.2) := rdR_shut h.own.rd
theorem MpS.stay (h : MpS w g gm m t A cap S wr) (hb : Below wr.heap.size wr W) : MpS w g gm m t A cap S W :=
  ⟨h.okm, h.cp, (hb.block _ (lt_of_heap h.bx)).trans h.bx, h.mp.keep (hb.block _ h.mp.lt), h.own.frame _ fun b _ hl => hb.block b hl, h.S_, h.below.trans (hb.mono h.below.size), h.hg, h.hgm, h.ne⟩
/-- One operation has been played, from V to W1; its tree is laid into the box. -/
theorem MpS.play (h : MpS w g gm m t A cap S wr) (hb : Below wr.heap.size wr V) (hm : okM m1) (hc : Cp (mF m1) t1) (hM : MapAt W1 gm m1) (hO : OwnK W1 t1.2 (.slice A1 t1.2.n cap1) S1) (hS : ∀ b, S1 b → S b ∨ V.heap.size ≤ b) (hT : MTn gm V W1) (hb2 : Below W1.heap.size W1 W) :
    MpS w g gm m1 t1 A1 cap1 S1 (W.setRow g (cellsR t1.1 t1.2 (.slice A1 t1.2.n cap1))) ∧ W.heap[g]? = some (.cells (cellsR t.1 t.2 (.slice A t.2.n cap)) 28 (0, 0)) := by
  have h1 := h.stay hb
  have hgl := lt_of_heap h1.bx
  have hgml := h1.mp.lt
  have hW1 : W1.heap[g]? = _ := (hT.far g hgl h.ne).trans h1.bx
  have hW : W.heap[g]? = _ := (hb2.block g (lt_of_heap hW1)).trans hW1
  have hS1 : ∀ b, S1 b → b ≠ g ∧ b ≠ gm := fun b hb' => (hS b hb').elim (h.S_ b) fun e => ⟨by omega, by omega⟩
  have hs1 := hT.size
  have hs0 := h1.below.size
  refine ⟨⟨hm, hc, setRow_heap _ _ _ _ _ _ hW, hM.keep ((setRow_other _ _ _ _ h.ne.symm).trans (hb2.block _ hM.lt)), ?_, hS1, ?_, h.hg, h.hgm, h.ne⟩, hW⟩
  · exact (hO_keep hO hb2).frame _ fun b hb' _ => setRow_other _ _ _ _ (hS1 b hb').1
  · exact below_setRow ((h1.below.trans (hT.below h.hgm hs0)).trans (hb2.mono (by omega))) h.hg _
theorem MpS.start (h1 : MapAt wr gm fun _ => pg0) (h2 : wr.heap[g]? = some (.cells (cellsR 0 zeroN (.slice none 0 0)) 28 (0, 0))) (hb : Below w.heap.size w wr) (hg : w.heap.size ≤ g) (hgm : w.heap.size ≤ gm) (ne : g ≠ gm) :
    MpS w g gm (fun _ => pg0) (0, zeroN) none 0 (fun _ => False) wr :=
  ⟨okM0, ⟨okT_zero, fun j => by rw [mF0]; rfl⟩, h2, h1, OwnK.none_ rfl, fun b e => e.elim, hb, hg, hgm, ne⟩
end
end Go.Proofs.Ytcicfijpfhbcaaa
