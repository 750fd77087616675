/-
  Memory that is read: a datum 'D' (a cell's value, or a slice of rows of data), and what it means that a value reads as a datum in a world. No program in sight.
-/
/-
  A node of a radix tree as data, and how its eleven cells read.
-/
/-
  More on worlds and nodes.
-/
import Derived.WalkKit
import Derived.WalkSpells
import Derived.WalkLawsBesides
import Derived.BigQuiet
import Derived.Deep.QuietTactic
import Derived.Lib.Hide
import Derived.DeepKeys
import Derived.Test.YtcicfijpfhbcaaaRows
namespace Go.Proofs.Ytcicfijpfhbcaaa
set_option linter.unusedSimpArgs false
set_option linter.unusedVariables false
set_option linter.unusedSectionVars false
open Go.RowKit

/-- A datum: one cell with just this value, or a slice of n rows of k cells each. -/
inductive D where
  | v (x : Value)
  | s (k n : Nat) (f : Nat → Nat → D)

theorem addr_add_block (a : Addr) (n : Nat) : (a.add n).block = a.block := by unfold Addr.add; split <;> rfl
theorem addr_add_add (a : Addr) (i j : Nat) : (a.add i).add j = a.add (i + j) := by
  unfold Addr.add
  by_cases hi : i = 0 <;> by_cases hj : j = 0 <;> simp [hi, hj, Nat.add_assoc]
theorem addr_add_zero (a : Addr) : a.add 0 = a := by simp [Addr.add]
theorem addr_add_mk (g o n : Nat) : (⟨g, o, none⟩ : Addr).add n = ⟨g, o + n, none⟩ := by
  unfold Addr.add; split <;> simp_all

/-- The value u reads as the datum d. -/
def RdC (w : World) : D → Value → Prop
  | .v x, u => u = x
  | .s k n f, u => ∃ (A : Option Addr) (cap : Nat), u = .slice A n cap ∧ n ≤ cap ∧ cap ≤ maxLen ∧
      (0 < n → ∃ a, A = some a ∧ ∀ i, i < n → ∀ j, j < k → ∃ x, w.cell? (a.add (i * k + j)) = some x ∧ RdC w (f i j) x)

/-- The k cells from a on read as the data r 0 .. r (k-1). -/
def RdRow (w : World) (a : Addr) (k : Nat) (r : Nat → D) : Prop := ∀ j, j < k → ∃ x, w.cell? (a.add j) = some x ∧ RdC w (r j) x

/-- The values cs read as the data r. -/
def RdVals (w : World) (cs : Array Value) (k : Nat) (r : Nat → D) : Prop := cs.size = k ∧ ∀ j, j < k → ∃ x, cs[j]? = some x ∧ RdC w (r j) x

theorem RdC.keep {w w' : World} : ∀ {d : D} {u : Value}, RdC w d u → (∀ p v, w.cell? p = some v → w'.cell? p = some v) → RdC w' d u
  | .v _, _, h, _ => h
  | .s _ _ f, _, h, hk => by
    obtain ⟨A, cap, hu, h1, h2, h3⟩ := h
    refine ⟨A, cap, hu, h1, h2, fun h0 => ?_⟩
    obtain ⟨a, ha, hc⟩ := h3 h0
    refine ⟨a, ha, fun i hi j hj => ?_⟩
    obtain ⟨x, hx, hr⟩ := hc i hi j hj
    exact ⟨x, hk _ _ hx, RdC.keep hr hk⟩

theorem below_keeps {w w' : World} (hb : Below w.heap.size w w') : ∀ p v, w.cell? p = some v → w'.cell? p = some v := by
  intro p v h
  rw [hb.cell (World.block_lt_of_cell? w p h)]
  exact h

theorem RdC.below {w w' : World} {d : D} {u : Value} (h : RdC w d u) (hb : Below w.heap.size w w') : RdC w' d u := h.keep (below_keeps hb)
theorem RdRow.keep {w w' : World} {a : Addr} {k : Nat} {r : Nat → D} (h : RdRow w a k r) (hk : ∀ p v, w.cell? p = some v → w'.cell? p = some v) : RdRow w' a k r :=
  fun j hj => let ⟨x, hx, hr⟩ := h j hj; ⟨x, hk _ _ hx, hr.keep hk⟩
theorem RdRow.below {w w' : World} {a : Addr} {k : Nat} {r : Nat → D} (h : RdRow w a k r) (hb : Below w.heap.size w w') : RdRow w' a k r := h.keep (below_keeps hb)
theorem RdVals.keep {w w' : World} {cs : Array Value} {k : Nat} {r : Nat → D} (h : RdVals w cs k r) (hk : ∀ p v, w.cell? p = some v → w'.cell? p = some v) : RdVals w' cs k r :=
  ⟨h.1, fun j hj => let ⟨x, hx, hr⟩ := h.2 j hj; ⟨x, hx, hr.keep hk⟩⟩
theorem RdVals.below {w w' : World} {cs : Array Value} {k : Nat} {r : Nat → D} (h : RdVals w cs k r) (hb : Below w.heap.size w w') : RdVals w' cs k r := h.keep (below_keeps hb)

/-- What a stretch of a run has laid behind the memory that it found. -/
structure Extra where
  objs : Array Obj
  drawn : Nat

instance : Inhabited Extra := ⟨⟨#[], 0⟩⟩

def objCell (o : Option Obj) (a : Addr) : Option Value :=
  match o with
  | some (.cells c _ _) => if a.spot.isSome then none else c[a.off]?
  | _ => none
def objFrozen (o : Option Obj) (a : Addr) : Bool :=
  match o with
  | some (.cells _ _ (lo, hi)) => lo ≤ a.off && a.off < hi
  | _ => false
def Extra.cell? (X : Extra) (n : Nat) (a : Addr) : Option Value := if a.block < n then none else objCell X.objs[a.block - n]? a
def Extra.frozen? (X : Extra) (n : Nat) (a : Addr) : Bool := if a.block < n then false else objFrozen X.objs[a.block - n]? a
theorem cell_is (w : World) (a : Addr) : w.cell? a = objCell w.heap[a.block]? a := rfl
theorem frozen_is (w : World) (a : Addr) : w.frozen? a = objFrozen w.heap[a.block]? a := rfl

/-- The world w with X laid behind it. -/
def _root_.Go.World.plus (w : World) (X : Extra) : World := { w with heap := w.heap ++ X.objs, drawn := X.drawn }

theorem cell?_plus (w : World) (X : Extra) (a : Addr) : (w.plus X).cell? a = (w.cell? a).or (X.cell? w.heap.size a) := by
  rw [cell_is, cell_is]
  unfold World.plus Extra.cell?
  simp only [Array.getElem?_append]
  by_cases h : a.block < w.heap.size
  · simp [h]
  · rw [if_neg h, if_neg h, Array.getElem?_eq_none (xs := w.heap) (by omega)]
    simp [objCell]
theorem frozen?_plus (w : World) (X : Extra) (a : Addr) : (w.plus X).frozen? a = (w.frozen? a || X.frozen? w.heap.size a) := by
  rw [frozen_is, frozen_is]
  unfold World.plus Extra.frozen?
  simp only [Array.getElem?_append]
  by_cases h : a.block < w.heap.size
  · simp [h]
  · rw [if_neg h, if_neg h, Array.getElem?_eq_none (xs := w.heap) (by omega)]
    simp [objFrozen]
@[go_sem] theorem objCell_at (c : Array Value) (t : TypeId) (fr : Nat × Nat) (g i : Nat) : objCell (some (.cells c t fr)) ⟨g, i, none⟩ = c[i]? := rfl
@[go_sem] theorem objCell_add (c : Array Value) (t : TypeId) (fr : Nat × Nat) (g o i : Nat) : objCell (some (.cells c t fr)) ((⟨g, o, none⟩ : Addr).add i) = c[o + i]? := by rw [addr_add_mk]; rfl
@[go_sem] theorem objFrozen_at (c : Array Value) (t : TypeId) (a : Addr) : objFrozen (some (.cells c t (0, 0))) a = false := by simp [objFrozen]
@[go_sem] theorem add_block (a : Addr) (n : Nat) : (a.add n).block = a.block := addr_add_block a n
@[go_sem] theorem add_mk (g o n : Nat) : (⟨g, o, none⟩ : Addr).add n = ⟨g, o + n, none⟩ := addr_add_mk g o n
theorem addr_plain {w : World} {a : Addr} {v : Value} (h : w.cell? a = some v) : a = ⟨a.block, a.off, none⟩ := by
  cases a with
  | mk b o s =>
    cases s with
    | none => rfl
    | some s => rw [cell_is] at h; unfold objCell at h; split at h <;> simp at h
@[go_sem] theorem add_add (a : Addr) (i j : Nat) : (a.add i).add j = a.add (i + j) := addr_add_add a i j
@[go_sem high] theorem cell?_plus_if (w : World) (X : Extra) (a : Addr) : (w.plus X).cell? a = if a.block < w.heap.size then w.cell? a else X.cell? w.heap.size a := by
  rw [cell?_plus]
  split
  · rename_i h; simp [Extra.cell?, h]
  · rename_i h; rw [cell_is, Array.getElem?_eq_none (xs := w.heap) (by omega)]; simp [objCell]
@[go_sem high] theorem frozen?_plus_if (w : World) (X : Extra) (a : Addr) : (w.plus X).frozen? a = if a.block < w.heap.size then w.frozen? a else X.frozen? w.heap.size a := by
  rw [frozen?_plus]
  split
  · rename_i h; simp [Extra.frozen?, h]
  · rename_i h; rw [frozen_is, Array.getElem?_eq_none (xs := w.heap) (by omega)]; simp [objFrozen]
@[go_sem high] theorem cell?_alloc_if (w : World) (o : Obj) (a : Addr) : (w.alloc o).cell? a = if a.block < w.heap.size then w.cell? a else if a.block = w.heap.size then objCell (some o) a else none := by
  rw [cell_is, cell_is]
  unfold World.alloc
  simp only [Array.getElem?_push]
  by_cases h : a.block = w.heap.size
  · rw [if_pos h, if_neg (by omega), if_pos h]
  · rw [if_neg h]
    split
    · rfl
    · rw [Array.getElem?_eq_none (xs := w.heap) (by omega)]; simp [objCell]
@[go_sem high] theorem frozen?_alloc_if (w : World) (o : Obj) (a : Addr) : (w.alloc o).frozen? a = if a.block < w.heap.size then w.frozen? a else if a.block = w.heap.size then objFrozen (some o) a else false := by
  rw [frozen_is, frozen_is]
  unfold World.alloc
  simp only [Array.getElem?_push]
  by_cases h : a.block = w.heap.size
  · rw [if_pos h, if_neg (by omega), if_pos h]
  · rw [if_neg h]
    split
    · rfl
    · rw [Array.getElem?_eq_none (xs := w.heap) (by omega)]; simp [objFrozen]
def objSet (a : Addr) (v : Value) : Obj → Obj
  | .cells c elem frozen => .cells (if a.spot.isSome then c else c.setIfInBounds a.off v) elem frozen
  | o => o
theorem setCell_is (w : World) (a : Addr) (v : Value) : w.setCell a v = { w with heap := w.heap.modify a.block (objSet a v) } := by
  unfold World.setCell
  congr 2
def Extra.setCell (X : Extra) (n : Nat) (a : Addr) (v : Value) : Extra := { X with objs := X.objs.modify (a.block - n) (objSet a v) }
@[go_sem] theorem frozenX_lt (X : Extra) (n : Nat) (a : Addr) (h : a.block < n) : X.frozen? n a = false := by simp [Extra.frozen?, h]
@[simp, go_sem] theorem size_plus (w : World) (X : Extra) : (w.plus X).heap.size = w.heap.size + X.objs.size := by simp [World.plus]
@[simp, go_sem] theorem tape_plus (w : World) (X : Extra) : (w.plus X).tape = w.tape := rfl
theorem heap_plus (w : World) (X : Extra) (g : Nat) (h : g < w.heap.size) : (w.plus X).heap[g]? = w.heap[g]? := by
  unfold World.plus
  simp only [Array.getElem?_append, h, if_true]
@[go_sem] theorem plus_drew (w : World) (X : Extra) : (w.plus X).drew = w.plus ⟨X.objs, X.drawn + 1⟩ := rfl
@[go_sem] theorem plus_drewN (w : World) (X : Extra) (n : Nat) : (w.plus X).drewN n = w.plus ⟨X.objs, X.drawn + n⟩ := rfl
theorem plus_plus (w : World) (X Y : Extra) : (w.plus X).plus Y = w.plus ⟨X.objs ++ Y.objs, Y.drawn⟩ := by simp [World.plus]
theorem plus_setCell (w : World) (X : Extra) (a : Addr) (v : Value) (h : a.block < w.heap.size) : (w.plus X).setCell a v = (w.setCell a v).plus X := by
  unfold World.setCell World.plus
  simp only [World.mk.injEq, and_true, true_and]
  apply Array.ext_getElem?
  intro i
  simp only [Array.getElem?_modify, Array.getElem?_append, Array.size_modify]
  by_cases hi : i < w.heap.size
  · simp [hi]
  · have : a.block ≠ i := by omega
    simp [hi, this]

@[go_sem high] theorem plus_setCell_if (w : World) (X : Extra) (a : Addr) (v : Value) : (w.plus X).setCell a v = if a.block < w.heap.size then (w.setCell a v).plus X else w.plus (X.setCell w.heap.size a v) := by
  split
  · rename_i h; exact plus_setCell w X a v h
  · rename_i h
    rw [setCell_is]
    unfold World.plus Extra.setCell
    simp only [World.mk.injEq, and_true, true_and]
    apply Array.ext_getElem?
    intro i
    simp only [Array.getElem?_modify, Array.getElem?_append]
    by_cases hi : i < w.heap.size
    · have : a.block ≠ i := by omega
      simp [hi, this]
    · simp only [hi, if_false]
      by_cases he : a.block = i
      · subst he; simp
      · rw [if_neg he, if_neg (by omega)]
@[go_sem high] theorem alloc_setCell_if (w : World) (c : Array Value) (t : TypeId) (a : Addr) (v : Value) (fr : Nat × Nat) : (w.alloc (.cells c t fr)).setCell a v =
    if a.block = w.heap.size then w.alloc (.cells (if a.spot.isSome then c else c.setIfInBounds a.off v) t fr) else (w.setCell a v).alloc (.cells c t fr) := by
  rw [setCell_is, setCell_is]
  unfold World.alloc
  split
  · rename_i h
    simp only [World.mk.injEq, and_true, true_and]
    apply Array.ext_getElem?
    intro i
    simp only [Array.getElem?_modify, Array.getElem?_push, h]
    by_cases hi : i = w.heap.size
    · subst hi; simp [objSet]
    · rw [if_neg (fun e => hi e.symm), if_neg hi, if_neg hi]
  · rename_i h
    simp only [World.mk.injEq, and_true, true_and]
    apply Array.ext_getElem?
    intro i
    simp only [Array.getElem?_modify, Array.getElem?_push, Array.size_modify]
    by_cases hi : i = w.heap.size
    · subst hi; simp [h]
    · simp [hi]
@[go_sem] theorem drew_plus (w : World) (X : Extra) : w.drew.plus X = w.plus X := rfl
@[go_sem] theorem drewN_plus (w : World) (X : Extra) (n : Nat) : (w.drewN n).plus X = w.plus X := rfl

theorem below_plus {B : Nat} {a w : World} (h : Below B a w) (hB : B ≤ w.heap.size) (X : Extra) : Below B a (w.plus X) :=
  h.trans ⟨rfl, rfl, rfl, by simp, fun k hk => heap_plus _ _ _ (by omega)⟩
/-- A world that keeps all of w is w with something laid behind it. -/
theorem plus_of_below {w w' : World} (h : Below w.heap.size w w') : ∃ X, w' = w.plus X := by
  obtain ⟨h1, h2, h3, h4, h5⟩ := h
  refine ⟨⟨w'.heap.extract w.heap.size w'.heap.size, w'.drawn⟩, ?_⟩
  have hh : w.heap ++ w'.heap.extract w.heap.size w'.heap.size = w'.heap := by
    apply Array.ext_getElem?
    intro i
    rw [Array.getElem?_append]
    by_cases hi : i < w.heap.size
    · rw [if_pos hi, h5 i hi]
    · rw [if_neg hi, Array.getElem?_extract]
      by_cases hi2 : i < w'.heap.size
      · rw [if_pos (by omega)]; congr 1; omega
      · rw [if_neg (by omega), Array.getElem?_eq_none (by omega)]
  unfold World.plus
  simp only [hh]
  cases w; cases w'
  simp_all

theorem plus_again {w w' : World} {Y : Extra} (h : Below (w.plus Y).heap.size (w.plus Y) w') : ∃ X, w' = w.plus X :=
  plus_of_below (((below_plus (Below.refl _ _) (Nat.le_refl _) Y)).trans (h.mono (by simp)))
theorem below_alloc (w : World) (o : Obj) : Below w.heap.size w (w.alloc o) := (Below.refl _ _).alloc (Nat.le_refl _) o
theorem below_drewN {B : Nat} {a w : World} (h : Below B a w) (n : Nat) : Below B a (w.drewN n) := ⟨h.os, h.tape, h.output, h.size, h.block⟩
theorem below_trans {a b c : World} (h : Below a.heap.size a b) (k : Below b.heap.size b c) : Below a.heap.size a c := h.trans (k.mono h.size)

/-- The address of row i of a slice, and what lies there. -/
theorem RdC.at_ {w : World} {k n : Nat} {f : Nat → Nat → D} {A : Option Addr} {len cap : Nat} (h : RdC w (.s k n f) (.slice A len cap)) {i : Nat} (hi : i < n) :
    ∃ a, A = some a ∧ RdRow w (a.add (i * k)) k (f i) := by
  obtain ⟨A', cap', hu, _, _, h3⟩ := h
  injection hu with h1 _ _
  subst h1
  obtain ⟨a, ha, hc⟩ := h3 (by omega)
  refine ⟨a, ha, fun j hj => ?_⟩
  rw [addr_add_add]
  exact hc i hi j hj

/-- The values that stand in a row of memory. -/
theorem RdRow.vals {w : World} {a : Addr} {k : Nat} {r : Nat → D} (h : RdRow w a k r) :
    ∃ cs : Array Value, RdVals w cs k r ∧ ∀ j v, cs.toList[j]? = some v → w.cell? (a.add j) = some v := by
  have hch : ∀ j : Nat, ∃ x, j < k → w.cell? (a.add j) = some x ∧ RdC w (r j) x := by
    intro j
    by_cases hj : j < k
    · obtain ⟨x, hx⟩ := h j hj
      exact ⟨x, fun _ => hx⟩
    · exact ⟨undef, fun hh => absurd hh hj⟩
  let g : Nat → Value := fun j => Classical.choose (hch j)
  have hg : ∀ j, j < k → w.cell? (a.add j) = some (g j) ∧ RdC w (r j) (g j) := fun j => Classical.choose_spec (hch j)
  refine ⟨((List.range k).map g).toArray, ⟨by simp, fun j hj => ⟨g j, by simp [hj], (hg j hj).2⟩⟩, fun j v hv => ?_⟩
  have hj : j < k := by
    rcases Nat.lt_or_ge j k with h1 | h1
    · exact h1
    · simp [h1] at hv
  have hv' : g j = v := by simpa [hj] using hv
  rw [← hv']
  exact (hg j hj).1

/-- What a read of a whole variable gives, wherever it lies. -/
theorem run_loadVar_cells {P : Program} (w : World) (a : Addr) (ty : TypeId) (cs : Array Value) (d : TypeDesc) (hc : ∀ j v, cs.toList[j]? = some v → w.cell? (a.add j) = some v)
    (hu : P.underlying ty = some d) (hd : (match d with | .struct _ | .array _ _ => true | _ => false) = true) (hi : (P.info? ty).map (·.size) = some cs.size) :
    (loadVar ty a).run P w = .ok (.agg cs) w := by
  have hl : (loadCells a cs.toList.length).run P w = .ok cs.toList.toArray w := run_loadCells_list (P := P) w a cs.toList hc
  cases hq : P.info? ty with
  | none => simp [hq] at hi
  | some i =>
    have hs : i.size = cs.size := by simpa [hq] using hi
    have hagg : (isAgg ty).run P w = .ok true w := by
      unfold isAgg
      rw [Sem.run_bind, run_underlying hu w]
      cases d <;> simp_all
    simp only [Array.length_toList, Array.toArray_toList] at hl
    simp [loadVar, Sem.run_bind, hagg, sizeOf, typeInfo, hq, hs, hl]

theorem wp_load_cells {P : Program} {o : Oper} {a : Act} {w : World} {K : Act → World → Prop} {Q : Exit → Act → World → Prop} (ty : TypeId) (x : Operand) (ho : o.op = .load ty x)
    (p : Addr) (hx : a.eval x = .pointer (some p)) (cs : Array Value) (d : TypeDesc) (hc : ∀ j v, cs.toList[j]? = some v → w.cell? (p.add j) = some v)
    (hu : P.underlying ty = some d) (hd : (match d with | .struct _ | .array _ _ => true | _ => false) = true) (hi : (P.info? ty).map (·.size) = some cs.size)
    (h : K (a.put o.dst (.agg cs)) w) : o.wp P a w K Q := by
  unfold Oper.wp execOp
  simp only [ho, hx, Instr.loadAt, Instr.sureAddr, Sem.run_bind, Sem.run_pure, Result.andThen_ok, run_loadVar_cells w p ty cs d hc hu hd hi]
  exact h

/-- Two arrays of integers held against each other. -/
theorem run_eqItems_ints {P : Program} (w : World) (d : Nat) {e : TypeId} {k' : IntKind} (k : IntKind) (he : P.underlying e = some (.int k')) (xs ys : Array Value) (a b : Nat → Int) :
    ∀ is : List Nat, (∀ i, i ∈ is → xs[i]? = some (.int k (a i)) ∧ ys[i]? = some (.int k (b i))) → (Op.eqItems (d + 1) e 1 xs ys is).run P w = .ok (is.all fun i => a i == b i) w
  | [], _ => by simp [Op.eqItems]
  | i :: is, h => by
    obtain ⟨hx, hy⟩ := h i (List.mem_cons_self ..)
    have ih := run_eqItems_ints w d k he xs ys a b is (fun j hj => h j (List.mem_cons_of_mem _ hj))
    have hagg : (isAgg e).run P w = .ok false w := by
      unfold isAgg
      rw [Sem.run_bind, run_underlying he w]
      simp
    have hpart : ∀ (zs : Array Value) (z : Int), zs[i]? = some (.int k z) → (part e zs i).run P w = .ok (.int k z) w := by
      intro zs z hz
      simp only [part, Sem.run_bind, hagg, Result.andThen_ok, Bool.false_eq_true, if_false]
      simp [hz]
    simp only [Op.eqItems, Sem.run_bind, Nat.mul_one, hpart _ _ hx, hpart _ _ hy, Result.andThen_ok, run_equalIn_int w d e k k' _ _ he, List.all_cons]
    cases hab : (a i == b i) <;> simp [ih]

theorem run_equalIn_ints {P : Program} (w : World) {t e : TypeId} {n : Nat} {k' : IntKind} (k : IntKind) {i : TypeInfo} (ht : P.underlying t = some (.array n e)) (hi : P.info? e = some i) (h1 : P.cellsOf e = 1) (he : P.underlying e = some (.int k'))
    (xs ys : Array Value) (a b : Nat → Int) (h : ∀ j, j < n → xs[j]? = some (.int k (a j)) ∧ ys[j]? = some (.int k (b j))) :
    (Op.equalIn 10000 t (.agg xs) (.agg ys)).run P w = .ok ((List.range n).all fun i => a i == b i) w := by
  rw [run_equalIn_array w _ _ _ ht hi, h1, run_eqItems_ints w _ k he xs ys a b _ (fun j hj => h j (List.mem_range.1 hj))]

/-- A region that draws its order, whose operations read and whose callees only lay something behind the memory. -/
theorem wp_region_quiet_plus {P : Program} {id : Nat} {Q : Exit → Act → World → Prop} {a : Act} {w : World} {l : List Oper} (hm : P.follows .mixedOrders = true) (hB : Region.lexB .any l.toArray = true)
    (h : wpQuiet P l.toArray (fun w' => ∃ X, w' = w.plus X) (fun a' => ∀ X, Q .normal a' (w.plus X)) l a) : (Code.region id l.toArray true).wp P Q a w := by
  refine wp_region_quiet (C := fun w' => ∃ X, w' = w.plus X) hm hB ⟨⟨#[], w.drawn + 1⟩, by simp [World.plus]⟩ ?_
  have e : (fun a' => ∀ w', (∃ X, w' = w.plus X) → Q .normal a' w') = (fun a' => ∀ X, Q .normal a' (w.plus X)) := by
    funext a'
    exact propext ⟨fun h X => h _ ⟨X, rfl⟩, fun h w' ⟨X, hX⟩ => hX ▸ h X⟩
  rw [e]
  simpa using h
theorem Calls.quiet_plus {P : Program} {f : FuncId} {args : Array Value} {w : World} {X : Extra} {v : Value}
    (h : Calls P f args (w.plus X) fun e w' => e = .returned v ∧ Below (w.plus X).heap.size (w.plus X) w') : Calls P f args (w.plus X) fun e w'' => e = .returned v ∧ ∃ Y, w'' = w.plus Y :=
  h.mono fun _ _ ⟨he, hb⟩ => ⟨he, plus_again hb⟩
theorem Calls.quiet_plus_same {P : Program} {f : FuncId} {args : Array Value} {w : World} {X : Extra} {v : Value}
    (h : Calls P f args (w.plus X) fun e w' => e = .returned v ∧ w.plus X = w') : Calls P f args (w.plus X) fun e w'' => e = .returned v ∧ ∃ Y, w'' = w.plus Y :=
  h.mono fun _ _ ⟨he, hb⟩ => ⟨he, X, hb.symm⟩

theorem heap_alloc_here (w : World) (o : Obj) (g : Nat) (h : g = w.heap.size) : (w.alloc o).heap[g]? = some o := by subst h; exact heap_alloc_new w o
theorem setRow_alloc_eq (w : World) (c cs : Array Value) (t : TypeId) (fr : Nat × Nat) (g : Nat) (h : g = w.heap.size) : (w.alloc (.cells c t fr)).setRow g cs = w.alloc (.cells cs t fr) := by
  subst h
  unfold World.setRow World.alloc
  simp only [World.mk.injEq, and_true, true_and]
  apply Array.ext_getElem?
  intro i
  simp only [Array.getElem?_modify, Array.getElem?_push]
  by_cases hi : i = w.heap.size
  · subst hi; simp
  · rw [if_neg (fun e => hi e.symm), if_neg hi, if_neg hi]
theorem setRow_alloc_ne (w : World) (o : Obj) (cs : Array Value) (g : Nat) (h : g < w.heap.size) : (w.alloc o).setRow g cs = (w.setRow g cs).alloc o := by
  unfold World.setRow World.alloc
  simp only [World.mk.injEq, and_true, true_and]
  apply Array.ext_getElem?
  intro i
  simp only [Array.getElem?_modify, Array.getElem?_push, Array.size_modify]
  by_cases hi : i = w.heap.size
  · subst hi; rw [if_neg (by omega)]; simp
  · simp [hi]
theorem setRow_plus (w : World) (X : Extra) (cs : Array Value) (g : Nat) (h : g < w.heap.size) : (w.plus X).setRow g cs = (w.setRow g cs).plus X := by
  unfold World.setRow World.plus
  simp only [World.mk.injEq, and_true, true_and]
  apply Array.ext_getElem?
  intro i
  simp only [Array.getElem?_modify, Array.getElem?_append, Array.size_modify]
  by_cases hi : i < w.heap.size
  · simp [hi]
  · have : g ≠ i := by omega
    simp [hi, this]

end Go.Proofs.Ytcicfijpfhbcaaa
namespace Go.Proofs.Ytcicfijpfhbcaaa
set_option linter.unusedSimpArgs false
set_option linter.unusedVariables false
set_option linter.unusedSectionVars false
open Go.RowKit

/-- A node of a radix tree as data: values, tags, the number of children, the children. -/
inductive RN where
  | mk (v : Nat → Int) (t0 t1 : Int) (n : Nat) (kid : Fin n → RN)
/-- The node that is the zero value. -/
def zeroN : RN := .mk (fun _ => 0) 0 0 0 (fun i => absurd i.2 (by omega))
instance : Inhabited RN := ⟨zeroN⟩
def RN.v : RN → Nat → Int | .mk v _ _ _ _ => v
def RN.t0 : RN → Int | .mk _ t0 _ _ _ => t0
def RN.t1 : RN → Int | .mk _ _ t1 _ _ => t1
def RN.n : RN → Nat | .mk _ _ _ n _ => n
def RN.kid : RN → Nat → RN | .mk _ _ _ n kid => fun i => if h : i < n then kid ⟨i, h⟩ else zeroN
def RN.t (x : RN) (k : Nat) : Int := if k = 0 then x.t0 else x.t1
@[go_sem] theorem RN.t_0 (x : RN) : x.t 0 = x.t0 := rfl
@[go_sem] theorem RN.t_1 (x : RN) : x.t 1 = x.t1 := rfl

/-- A node's eleven cells. -/
def encN : RN → Nat → D
  | .mk v t0 t1 n kid, j => if j < 8 then .v (.int .i64 (v j)) else if j = 8 then .v (.int .i64 t0) else if j = 9 then .v (.int .i64 t1) else .s 11 n (fun i j => if h : i < n then encN (kid ⟨i, h⟩) j else .v undef)
/-- The datum of the slice of a node's children. -/
def encK (x : RN) : D := .s 11 x.n (fun i j => if i < x.n then encN (x.kid i) j else .v undef)
theorem RN.kid_mk (v : Nat → Int) (t0 t1 : Int) (n : Nat) (kid : Fin n → RN) (i : Nat) (h : i < n) : (RN.mk v t0 t1 n kid).kid i = kid ⟨i, h⟩ := by simp [RN.kid, h]
theorem encN_10 (x : RN) : encN x 10 = encK x := by
  cases x with
  | mk v t0 t1 n kid =>
    simp only [encN, encK, RN.n]
    simp only [show ¬ (10 : Nat) < 8 by omega, show ¬ (10 : Nat) = 8 by omega, show ¬ (10 : Nat) = 9 by omega, if_false]
    congr 1
    funext i j
    by_cases h : i < n
    · simp [h, RN.kid_mk _ _ _ _ _ _ h]
    · simp [h]
theorem encN_v (x : RN) {j : Nat} (h : j < 8) : encN x j = .v (.int .i64 (x.v j)) := by cases x; simp [encN, RN.v, h]
theorem encN_8 (x : RN) : encN x 8 = .v (.int .i64 x.t0) := by cases x; simp [encN, RN.t0]
theorem encN_9 (x : RN) : encN x 9 = .v (.int .i64 x.t1) := by cases x; simp [encN, RN.t1]

/-- The eleven cells, when the slice of the children is known. -/
def cellsN (x : RN) (s : Value) : Array Value := #[.int .i64 (x.v 0), .int .i64 (x.v 1), .int .i64 (x.v 2), .int .i64 (x.v 3), .int .i64 (x.v 4), .int .i64 (x.v 5), .int .i64 (x.v 6), .int .i64 (x.v 7), .int .i64 x.t0, .int .i64 x.t1, s]
@[go_sem] theorem cellsN_0 (x : RN) (s : Value) : (cellsN x s)[0]? = some (.int .i64 (x.v 0)) := rfl
@[go_sem] theorem cellsN_1 (x : RN) (s : Value) : (cellsN x s)[1]? = some (.int .i64 (x.v 1)) := rfl
@[go_sem] theorem cellsN_2 (x : RN) (s : Value) : (cellsN x s)[2]? = some (.int .i64 (x.v 2)) := rfl
@[go_sem] theorem cellsN_3 (x : RN) (s : Value) : (cellsN x s)[3]? = some (.int .i64 (x.v 3)) := rfl
@[go_sem] theorem cellsN_4 (x : RN) (s : Value) : (cellsN x s)[4]? = some (.int .i64 (x.v 4)) := rfl
@[go_sem] theorem cellsN_5 (x : RN) (s : Value) : (cellsN x s)[5]? = some (.int .i64 (x.v 5)) := rfl
@[go_sem] theorem cellsN_6 (x : RN) (s : Value) : (cellsN x s)[6]? = some (.int .i64 (x.v 6)) := rfl
@[go_sem] theorem cellsN_7 (x : RN) (s : Value) : (cellsN x s)[7]? = some (.int .i64 (x.v 7)) := rfl
@[go_sem] theorem cellsN_8 (x : RN) (s : Value) : (cellsN x s)[8]? = some (.int .i64 x.t0) := rfl
@[go_sem] theorem cellsN_9 (x : RN) (s : Value) : (cellsN x s)[9]? = some (.int .i64 x.t1) := rfl
@[go_sem] theorem cellsN_10 (x : RN) (s : Value) : (cellsN x s)[10]? = some (s) := rfl
@[go_sem] theorem cellsN_size (x : RN) (s : Value) : (cellsN x s).size = 11 := rfl
theorem cellsN_v (x : RN) (s : Value) : ∀ j, j < 8 → (cellsN x s)[j]? = some (.int .i64 (x.v j))
  | 0, _ => rfl
  | 1, _ => rfl
  | 2, _ => rfl
  | 3, _ => rfl
  | 4, _ => rfl
  | 5, _ => rfl
  | 6, _ => rfl
  | 7, _ => rfl
  | _ + 8, h => absurd h (by omega)
theorem cellsN_t (x : RN) (s : Value) : ∀ j, j < 2 → (cellsN x s)[8 + j]? = some (.int .i64 (x.t j))
  | 0, _ => rfl
  | 1, _ => rfl
  | _ + 2, h => absurd h (by omega)

theorem rdN_open {w : World} {cs : Array Value} {x : RN} (h : RdVals w cs 11 (encN x)) :
    ∃ A cap, cs = cellsN x (.slice A x.n cap) ∧ RdC w (encK x) (.slice A x.n cap) := by
  obtain ⟨hs, hc⟩ := h
  obtain ⟨l⟩ := cs
  match l, hs with
  | [c0, c1, c2, c3, c4, c5, c6, c7, c8, c9, c10], _ =>
    obtain ⟨x0, e0, h0⟩ := hc 0 (by omega)
    obtain ⟨x1, e1, h1⟩ := hc 1 (by omega)
    obtain ⟨x2, e2, h2⟩ := hc 2 (by omega)
    obtain ⟨x3, e3, h3⟩ := hc 3 (by omega)
    obtain ⟨x4, e4, h4⟩ := hc 4 (by omega)
    obtain ⟨x5, e5, h5⟩ := hc 5 (by omega)
    obtain ⟨x6, e6, h6⟩ := hc 6 (by omega)
    obtain ⟨x7, e7, h7⟩ := hc 7 (by omega)
    obtain ⟨x8, e8, h8⟩ := hc 8 (by omega)
    obtain ⟨x9, e9, h9⟩ := hc 9 (by omega)
    obtain ⟨x10, e10, h10⟩ := hc 10 (by omega)
    simp at e0 e1 e2 e3 e4 e5 e6 e7 e8 e9 e10
    subst e0 e1 e2 e3 e4 e5 e6 e7 e8 e9 e10
    rw [encN_v _ (by omega)] at h0 h1 h2 h3 h4 h5 h6 h7
    rw [encN_8] at h8
    rw [encN_9] at h9
    rw [encN_10] at h10
    simp only [RdC] at h0 h1 h2 h3 h4 h5 h6 h7 h8 h9
    have h11 := h10
    obtain ⟨A, cap, rfl, _⟩ := h11
    exact ⟨A, cap, by simp [cellsN, h0, h1, h2, h3, h4, h5, h6, h7, h8, h9], h10⟩
theorem rdN_shut {w : World} {x : RN} {s : Value} (h : RdC w (encK x) s) : RdVals w (cellsN x s) 11 (encN x) := by
  refine ⟨rfl, fun j hj => ?_⟩
  by_cases h8 : j < 8
  · exact ⟨_, cellsN_v x s j h8, by rw [encN_v _ h8]; rfl⟩
  · match j, h8, hj with
    | 8, _, _ => exact ⟨_, rfl, by rw [encN_8]; rfl⟩
    | 9, _, _ => exact ⟨_, rfl, by rw [encN_9]; rfl⟩
    | 10, _, _ => exact ⟨_, rfl, by rw [encN_10]; exact h⟩
theorem encK_n {w : World} {x : RN} {A : Option Addr} {len cap : Nat} (h : RdC w (encK x) (.slice A len cap)) : len = x.n ∧ (x.n : Int) ≤ 9223372036854775807 := by
  obtain ⟨_, _, hu, h1, h2, _⟩ := h
  injection hu with _ h3 h4
  subst h4
  unfold maxLen at h2
  omega
theorem encK_cap {w : World} {x : RN} {A : Option Addr} {len cap : Nat} (h : RdC w (encK x) (.slice A len cap)) : x.n ≤ cap ∧ cap ≤ 9223372036854775807 := by
  obtain ⟨_, _, hu, h1, h2, _⟩ := h
  injection hu with _ h3 h4
  subst h4
  unfold maxLen at h2
  omega
/-- A child: where its cells lie, and what they read as. -/
theorem encK_kid {w : World} {x : RN} {A : Option Addr} {len cap : Nat} (h : RdC w (encK x) (.slice A len cap)) {i : Nat} (hi : i < x.n) :
    ∃ g b s, A = some ⟨g, b, none⟩ ∧ g < w.heap.size ∧ RdC w (encK (x.kid i)) s ∧ RdVals w (cellsN (x.kid i) s) 11 (encN (x.kid i)) ∧ ∀ j v, (cellsN (x.kid i) s).toList[j]? = some v → w.cell? ⟨g, b + i * 11 + j, none⟩ = some v := by
  have hf : ∀ i, i < x.n → (fun j => if i < x.n then encN (x.kid i) j else D.v undef) = encN (x.kid i) := fun i hi => by funext j; rw [if_pos hi]
  obtain ⟨a, ha, hr⟩ := h.at_ (i := 0) (by omega)
  rw [hf 0 (by omega)] at hr
  obtain ⟨cs, hv, hc⟩ := hr.vals
  obtain ⟨A', cap', rfl, _⟩ := rdN_open hv
  have h0 := hc 0 _ rfl
  simp only [Nat.zero_mul, addr_add_zero] at h0
  obtain ⟨g, b, s⟩ := a
  have hp := addr_plain h0
  simp only [Addr.mk.injEq, true_and] at hp
  subst hp
  obtain ⟨a, ha', hr⟩ := h.at_ hi
  rw [hf i hi] at hr
  rw [ha] at ha'
  injection ha' with ha'
  subst ha'
  obtain ⟨cs, hv, hc⟩ := hr.vals
  obtain ⟨A', cap', rfl, hk⟩ := rdN_open hv
  exact ⟨g, b, _, ha, World.block_lt_of_cell? w _ h0, hk, hv, fun j v hj => by have := hc j v hj; rwa [addr_add_mk, addr_add_mk] at this⟩

theorem sizeN : (Try.prog.info? 26).map (·.size) = some 11 := by kernel_rfl
/-- The eleven cells of a node, one by one. -/
theorem row11 {w : World} {g o : Nat} {y : RN} {s : Value} (h : ∀ j v, (cellsN y s).toList[j]? = some v → w.cell? ⟨g, o + j, none⟩ = some v) :
    (w.cell? ⟨g, o, none⟩ = some (.int .i64 (y.v 0)) ∧ w.cell? ⟨g, o + 1, none⟩ = some (.int .i64 (y.v 1)) ∧ w.cell? ⟨g, o + 2, none⟩ = some (.int .i64 (y.v 2)) ∧ w.cell? ⟨g, o + 3, none⟩ = some (.int .i64 (y.v 3)) ∧
      w.cell? ⟨g, o + 4, none⟩ = some (.int .i64 (y.v 4)) ∧ w.cell? ⟨g, o + 5, none⟩ = some (.int .i64 (y.v 5)) ∧ w.cell? ⟨g, o + 6, none⟩ = some (.int .i64 (y.v 6)) ∧ w.cell? ⟨g, o + 7, none⟩ = some (.int .i64 (y.v 7))) ∧
      w.cell? ⟨g, o + 8, none⟩ = some (.int .i64 y.t0) ∧ w.cell? ⟨g, o + 9, none⟩ = some (.int .i64 y.t1) ∧ w.cell? ⟨g, o + 10, none⟩ = some s :=
  ⟨⟨h 0 _ rfl, h 1 _ rfl, h 2 _ rfl, h 3 _ rfl, h 4 _ rfl, h 5 _ rfl, h 6 _ rfl, h 7 _ rfl⟩, h 8 _ rfl, h 9 _ rfl, h 10 _ rfl⟩
/-- A value of eleven cells is stored into a variable of its own block. -/
theorem wpList_storeN {ops : Array Oper} {rest : List Oper} {o : Oper} {a : Act} {w : World} {Q : Exit → Act → World → Prop} (x z : Operand) (ho : o.op = .store 26 x z) (hw : Region.wanted o (yielded ops a.tmps) = true)
    (g : Nat) (hx : a.eval x = .pointer (some ⟨g, 0, none⟩)) (y : RN) (A : Option Addr) (len cap : Nat) (hz : a.eval z = .agg (cellsN y (.slice A len cap))) (hg : ∃ old t, w.heap[g]? = some (.cells old t (0, 0)) ∧ old.size = 11)
    (h : wpList Try.prog ops Q rest (a.put o.dst undef) (w.setRow g (cellsN y (.slice A len cap)))) : wpList Try.prog ops Q (o :: rest) a w := by
  obtain ⟨old, t, hg, hold⟩ := hg
  exact wpList_step fun K hK => by rw [if_pos hw]; exact wp_store_row 26 x z ho g _ hx hz t old hg sizeN hold (by simp [cellsN]; exact ⟨rfl, rfl, rfl, rfl, rfl, rfl, rfl, rfl, rfl, rfl, rfl⟩) (hK _ _ h)

theorem wpList_storeN_new {ops : Array Oper} {rest : List Oper} {o : Oper} {a : Act} {w : World} {old : Array Value} {t : TypeId} {Q : Exit → Act → World → Prop} (x z : Operand) (ho : o.op = .store 26 x z) (hw : Region.wanted o (yielded ops a.tmps) = true)
    (g : Nat) (hx : a.eval x = .pointer (some ⟨g, 0, none⟩)) (y : RN) (A : Option Addr) (len cap : Nat) (hz : a.eval z = .agg (cellsN y (.slice A len cap))) (hold : old.size = 11) (hg : g = w.heap.size)
    (h : wpList Try.prog ops Q rest (a.put o.dst undef) (w.alloc (.cells (cellsN y (.slice A len cap)) t))) : wpList Try.prog ops Q (o :: rest) a (w.alloc (.cells old t)) :=
  wpList_storeN x z ho hw g hx y A len cap hz ⟨old, t, heap_alloc_here _ _ _ hg, hold⟩ (by rw [setRow_alloc_eq _ _ _ _ _ _ hg]; exact h)
theorem wpList_storeN_plus {X : Extra} {ops : Array Oper} {rest : List Oper} {o : Oper} {a : Act} {w : World} {old : Array Value} {t : TypeId} {Q : Exit → Act → World → Prop} (x z : Operand) (ho : o.op = .store 26 x z) (hw : Region.wanted o (yielded ops a.tmps) = true)
    (g : Nat) (hx : a.eval x = .pointer (some ⟨g, 0, none⟩)) (y : RN) (A : Option Addr) (len cap : Nat) (hz : a.eval z = .agg (cellsN y (.slice A len cap))) (hold : old.size = 11) (hg : g = w.heap.size)
    (h : wpList Try.prog ops Q rest (a.put o.dst undef) ((w.alloc (.cells (cellsN y (.slice A len cap)) t)).plus X)) : wpList Try.prog ops Q (o :: rest) a ((w.alloc (.cells old t)).plus X) :=
  wpList_storeN x z ho hw g hx y A len cap hz ⟨old, t, (heap_plus _ _ _ (by rw [hg]; simp)).trans (heap_alloc_here _ _ _ hg), hold⟩ (by rw [setRow_plus _ _ _ _ (by rw [hg]; simp), setRow_alloc_eq _ _ _ _ _ _ hg]; exact h)

theorem infoInt : ∃ i, Try.prog.info? 3 = some i := Option.isSome_iff_exists.1 (by kernel_rfl)
theorem cellsInt : Try.prog.cellsOf 3 = 1 := by kernel_rfl
@[go_sem] theorem eql2 (a b c d : Int) (w : World) : (Op.equalIn 10000 23 (.agg #[.int .i64 a, .int .i64 b]) (.agg #[.int .i64 c, .int .i64 d])).run Try.prog w = .ok (a == c && b == d) w := by
  obtain ⟨i, hi⟩ := infoInt
  rw [run_equalIn_ints w .i64 Try.underlying23 hi cellsInt Try.underlying3 _ _ (fun j => if j = 0 then a else b) (fun j => if j = 0 then c else d)]
  · simp [List.range_succ]
  · intro j hj
    match j, hj with
    | 0, _ => exact ⟨rfl, rfl⟩
    | 1, _ => exact ⟨rfl, rfl⟩
def zeroTo (f : Nat → Int) (k : Nat) : Bool := (List.range k).all fun i => f i == 0
theorem zeroTo_succ (f : Nat → Int) (k : Nat) : zeroTo f (k + 1) = (zeroTo f k && f k == 0) := by simp [zeroTo, List.range_succ]
theorem zeroTo_not {f : Nat → Int} {k m : Nat} (hk : k < m) (h : f k ≠ 0) : zeroTo f m = false := by
  rw [zeroTo, List.all_eq_false]
  exact ⟨k, List.mem_range.2 hk, by simp [h]⟩
def zero8 (f : Nat → Int) : Bool := zeroTo f 8
@[go_sem] theorem eql8z (f : Nat → Int) (w : World) : (Op.equalIn 10000 22 (.agg #[.int .i64 (f 0), .int .i64 (f 1), .int .i64 (f 2), .int .i64 (f 3), .int .i64 (f 4), .int .i64 (f 5), .int .i64 (f 6), .int .i64 (f 7)]) (.agg #[.int .i64 0, .int .i64 0, .int .i64 0, .int .i64 0, .int .i64 0, .int .i64 0, .int .i64 0, .int .i64 0])).run Try.prog w = .ok (zero8 f) w := by
  obtain ⟨i, hi⟩ := infoInt
  rw [run_equalIn_ints w .i64 Try.underlying22 hi cellsInt Try.underlying3 _ _ f (fun _ => 0)]
  · rfl
  intro j hj
  match j, hj with
  | 0, _ => exact ⟨rfl, rfl⟩
  | 1, _ => exact ⟨rfl, rfl⟩
  | 2, _ => exact ⟨rfl, rfl⟩
  | 3, _ => exact ⟨rfl, rfl⟩
  | 4, _ => exact ⟨rfl, rfl⟩
  | 5, _ => exact ⟨rfl, rfl⟩
  | 6, _ => exact ⟨rfl, rfl⟩
  | 7, _ => exact ⟨rfl, rfl⟩

theorem index2 (x : RN) (w : World) : ∀ m : Nat, m < 2 → (Instr.index 23 (.agg #[.int .i64 x.t0, .int .i64 x.t1]) (.int .i64 (m : Int))).run Try.prog w = .ok (.int .i64 (x.t m)) w
  | 0, _ => by kernel_rfl
  | 1, _ => by kernel_rfl
  | _ + 2, h => absurd h (by omega)

@[go_sem] theorem index2_0 (a b : Value) (w : World) : (Instr.index 23 (.agg #[a, b]) (.int .i64 0)).run Try.prog w = .ok a w := by kernel_rfl
@[go_sem] theorem index2_1 (a b : Value) (w : World) : (Instr.index 23 (.agg #[a, b]) (.int .i64 1)).run Try.prog w = .ok b w := by kernel_rfl
/-- The load of a whole node, wherever it lies. -/
theorem wpList_loadN {ops : Array Oper} {rest : List Oper} {o : Oper} {a : Act} {w : World} {Q : Exit → Act → World → Prop} (x : Operand) (ho : o.op = .load 26 x) (hw : Region.wanted o (yielded ops a.tmps) = true)
    (g b : Nat) (hx : a.eval x = .pointer (some ⟨g, b, none⟩)) (y : RN) (s : Value) (hc : ∀ j v, (cellsN y s).toList[j]? = some v → w.cell? ⟨g, b + j, none⟩ = some v)
    (h : wpList Try.prog ops Q rest (a.put o.dst (.agg (cellsN y s))) w) : wpList Try.prog ops Q (o :: rest) a w :=
  wpList_step fun K hK => by rw [if_pos hw]; exact wp_load_cells 26 x ho _ hx (cellsN y s) _ (fun j v hj => by rw [addr_add_mk]; exact hc j v hj) Try.underlying26 rfl sizeN (hK _ _ h)

/-- The node is the zero value. -/
def absentB (x : RN) : Bool := x.n == 0 && (x.t0 == 0 && x.t1 == 0) && zero8 x.v

set_option maxHeartbeats 400000 in
theorem p_absent (cs : Array Value) (x : RN) (w : World) (h : RdVals w cs 11 (encN x)) :
    Calls Try.prog 67 #[.agg cs] w fun e w' => e = .returned (.bool (absentB x)) ∧ Below w.heap.size w w' := by
  obtain ⟨A, cap, rfl, hk⟩ := rdN_open h
  have hcap := (encK_n hk).2
  clear hk h
  go_enter Try.func67, Try.ntmps67
  go_wp2
  all_goals
    go_ret
    exact ⟨by simp [absentB, *], below_alloc _ _⟩

end Go.Proofs.Ytcicfijpfhbcaaa
namespace Go.Proofs.Ytcicfijpfhbcaaa
set_option linter.unusedSimpArgs false
set_option linter.unusedVariables false
set_option linter.unusedSectionVars false
open Go.RowKit
/-! Sizes held against each other, for simp alone. -/
@[go_sem] theorem sz1_0 {A : Nat} : (A < A + 1) = True := by simp only [eq_iff_iff, iff_true]; omega
@[go_sem] theorem sz3_0 {A : Nat} : (A = A + 1) = False := by simp only [eq_iff_iff, iff_false]; omega
@[go_sem] theorem sz6_0 {A : Nat} : (A + 1 = A) = False := by simp only [eq_iff_iff, iff_false]; omega
@[go_sem] theorem sz9_0 {A : Nat} : (A + 1 ≤ A) = False := by simp only [eq_iff_iff, iff_false]; omega
@[go_sem] theorem sz4_0 {x : Nat} {w : World} (hx : x < w.heap.size) : (x = w.heap.size) = False := by simp only [eq_iff_iff, iff_false]; omega
@[go_sem] theorem sz8_0 {x : Nat} {w : World} (hx : x < w.heap.size) : (x ≤ w.heap.size) = True := by simp only [eq_iff_iff, iff_true]; omega
@[go_sem] theorem sz1_1 {A a : Nat} : (A < A + 1 + a) = True := by simp only [eq_iff_iff, iff_true]; omega
@[go_sem] theorem sz3_1 {A a : Nat} : (A = A + 1 + a) = False := by simp only [eq_iff_iff, iff_false]; omega
@[go_sem] theorem sz6_1 {A a : Nat} : (A + 1 + a = A) = False := by simp only [eq_iff_iff, iff_false]; omega
@[go_sem] theorem sz9_1 {A a : Nat} : (A + 1 + a ≤ A) = False := by simp only [eq_iff_iff, iff_false]; omega
@[go_sem] theorem sz4_1 {x a : Nat} {w : World} (hx : x < w.heap.size) : (x = w.heap.size + a) = False := by simp only [eq_iff_iff, iff_false]; omega
@[go_sem] theorem sz8_1 {x a : Nat} {w : World} (hx : x < w.heap.size) : (x ≤ w.heap.size + a) = True := by simp only [eq_iff_iff, iff_true]; omega
@[go_sem] theorem sz2_1 {x a : Nat} {w : World} (hx : x < w.heap.size) : (x < w.heap.size + a) = True := by simp only [eq_iff_iff, iff_true]; omega
@[go_sem] theorem sz5_1 {A a : Nat} : (A + a < A) = False := by simp only [eq_iff_iff, iff_false]; omega
@[go_sem] theorem sz7_1 {A a : Nat} : (A ≤ A + a) = True := by simp only [eq_iff_iff, iff_true]; omega
@[go_sem] theorem sz1_2 {A a b : Nat} : (A < A + 1 + a + b) = True := by simp only [eq_iff_iff, iff_true]; omega
@[go_sem] theorem sz3_2 {A a b : Nat} : (A = A + 1 + a + b) = False := by simp only [eq_iff_iff, iff_false]; omega
@[go_sem] theorem sz6_2 {A a b : Nat} : (A + 1 + a + b = A) = False := by simp only [eq_iff_iff, iff_false]; omega
@[go_sem] theorem sz9_2 {A a b : Nat} : (A + 1 + a + b ≤ A) = False := by simp only [eq_iff_iff, iff_false]; omega
@[go_sem] theorem sz4_2 {x a b : Nat} {w : World} (hx : x < w.heap.size) : (x = w.heap.size + a + b) = False := by simp only [eq_iff_iff, iff_false]; omega
@[go_sem] theorem sz8_2 {x a b : Nat} {w : World} (hx : x < w.heap.size) : (x ≤ w.heap.size + a + b) = True := by simp only [eq_iff_iff, iff_true]; omega
@[go_sem] theorem sz2_2 {x a b : Nat} {w : World} (hx : x < w.heap.size) : (x < w.heap.size + a + b) = True := by simp only [eq_iff_iff, iff_true]; omega
@[go_sem] theorem sz5_2 {A a b : Nat} : (A + a + b < A) = False := by simp only [eq_iff_iff, iff_false]; omega
@[go_sem] theorem sz7_2 {A a b : Nat} : (A ≤ A + a + b) = True := by simp only [eq_iff_iff, iff_true]; omega
@[go_sem] theorem sz1_3 {A a b c : Nat} : (A < A + 1 + a + b + c) = True := by simp only [eq_iff_iff, iff_true]; omega
@[go_sem] theorem sz3_3 {A a b c : Nat} : (A = A + 1 + a + b + c) = False := by simp only [eq_iff_iff, iff_false]; omega
@[go_sem] theorem sz6_3 {A a b c : Nat} : (A + 1 + a + b + c = A) = False := by simp only [eq_iff_iff, iff_false]; omega
@[go_sem] theorem sz9_3 {A a b c : Nat} : (A + 1 + a + b + c ≤ A) = False := by simp only [eq_iff_iff, iff_false]; omega
@[go_sem] theorem sz4_3 {x a b c : Nat} {w : World} (hx : x < w.heap.size) : (x = w.heap.size + a + b + c) = False := by simp only [eq_iff_iff, iff_false]; omega
@[go_sem] theorem sz8_3 {x a b c : Nat} {w : World} (hx : x < w.heap.size) : (x ≤ w.heap.size + a + b + c) = True := by simp only [eq_iff_iff, iff_true]; omega
@[go_sem] theorem sz2_3 {x a b c : Nat} {w : World} (hx : x < w.heap.size) : (x < w.heap.size + a + b + c) = True := by simp only [eq_iff_iff, iff_true]; omega
@[go_sem] theorem sz5_3 {A a b c : Nat} : (A + a + b + c < A) = False := by simp only [eq_iff_iff, iff_false]; omega
@[go_sem] theorem sz7_3 {A a b c : Nat} : (A ≤ A + a + b + c) = True := by simp only [eq_iff_iff, iff_true]; omega
@[go_sem] theorem sz1_4 {A a b c d : Nat} : (A < A + 1 + a + b + c + d) = True := by simp only [eq_iff_iff, iff_true]; omega
@[go_sem] theorem sz3_4 {A a b c d : Nat} : (A = A + 1 + a + b + c + d) = False := by simp only [eq_iff_iff, iff_false]; omega
@[go_sem] theorem sz6_4 {A a b c d : Nat} : (A + 1 + a + b + c + d = A) = False := by simp only [eq_iff_iff, iff_false]; omega
@[go_sem] theorem sz9_4 {A a b c d : Nat} : (A + 1 + a + b + c + d ≤ A) = False := by simp only [eq_iff_iff, iff_false]; omega
@[go_sem] theorem sz4_4 {x a b c d : Nat} {w : World} (hx : x < w.heap.size) : (x = w.heap.size + a + b + c + d) = False := by simp only [eq_iff_iff, iff_false]; omega
@[go_sem] theorem sz8_4 {x a b c d : Nat} {w : World} (hx : x < w.heap.size) : (x ≤ w.heap.size + a + b + c + d) = True := by simp only [eq_iff_iff, iff_true]; omega
@[go_sem] theorem sz2_4 {x a b c d : Nat} {w : World} (hx : x < w.heap.size) : (x < w.heap.size + a + b + c + d) = True := by simp only [eq_iff_iff, iff_true]; omega
@[go_sem] theorem sz5_4 {A a b c d : Nat} : (A + a + b + c + d < A) = False := by simp only [eq_iff_iff, iff_false]; omega
@[go_sem] theorem sz7_4 {A a b c d : Nat} : (A ≤ A + a + b + c + d) = True := by simp only [eq_iff_iff, iff_true]; omega
@[go_sem] theorem sz1_5 {A a b c d e : Nat} : (A < A + 1 + a + b + c + d + e) = True := by simp only [eq_iff_iff, iff_true]; omega
@[go_sem] theorem sz3_5 {A a b c d e : Nat} : (A = A + 1 + a + b + c + d + e) = False := by simp only [eq_iff_iff, iff_false]; omega
@[go_sem] theorem sz6_5 {A a b c d e : Nat} : (A + 1 + a + b + c + d + e = A) = False := by simp only [eq_iff_iff, iff_false]; omega
@[go_sem] theorem sz9_5 {A a b c d e : Nat} : (A + 1 + a + b + c + d + e ≤ A) = False := by simp only [eq_iff_iff, iff_false]; omega
@[go_sem] theorem sz4_5 {x a b c d e : Nat} {w : World} (hx : x < w.heap.size) : (x = w.heap.size + a + b + c + d + e) = False := by simp only [eq_iff_iff, iff_false]; omega
@[go_sem] theorem sz8_5 {x a b c d e : Nat} {w : World} (hx : x < w.heap.size) : (x ≤ w.heap.size + a + b + c + d + e) = True := by simp only [eq_iff_iff, iff_true]; omega
@[go_sem] theorem sz2_5 {x a b c d e : Nat} {w : World} (hx : x < w.heap.size) : (x < w.heap.size + a + b + c + d + e) = True := by simp only [eq_iff_iff, iff_true]; omega
@[go_sem] theorem sz5_5 {A a b c d e : Nat} : (A + a + b + c + d + e < A) = False := by simp only [eq_iff_iff, iff_false]; omega
@[go_sem] theorem sz7_5 {A a b c d e : Nat} : (A ≤ A + a + b + c + d + e) = True := by simp only [eq_iff_iff, iff_true]; omega
@[go_sem] theorem sz1_6 {A a b c d e f : Nat} : (A < A + 1 + a + b + c + d + e + f) = True := by simp only [eq_iff_iff, iff_true]; omega
@[go_sem] theorem sz3_6 {A a b c d e f : Nat} : (A = A + 1 + a + b + c + d + e + f) = False := by simp only [eq_iff_iff, iff_false]; omega
@[go_sem] theorem sz6_6 {A a b c d e f : Nat} : (A + 1 + a + b + c + d + e + f = A) = False := by simp only [eq_iff_iff, iff_false]; omega
@[go_sem] theorem sz9_6 {A a b c d e f : Nat} : (A + 1 + a + b + c + d + e + f ≤ A) = False := by simp only [eq_iff_iff, iff_false]; omega
@[go_sem] theorem sz4_6 {x a b c d e f : Nat} {w : World} (hx : x < w.heap.size) : (x = w.heap.size + a + b + c + d + e + f) = False := by simp only [eq_iff_iff, iff_false]; omega
@[go_sem] theorem sz8_6 {x a b c d e f : Nat} {w : World} (hx : x < w.heap.size) : (x ≤ w.heap.size + a + b + c + d + e + f) = True := by simp only [eq_iff_iff, iff_true]; omega
@[go_sem] theorem sz2_6 {x a b c d e f : Nat} {w : World} (hx : x < w.heap.size) : (x < w.heap.size + a + b + c + d + e + f) = True := by simp only [eq_iff_iff, iff_true]; omega
@[go_sem] theorem sz5_6 {A a b c d e f : Nat} : (A + a + b + c + d + e + f < A) = False := by simp only [eq_iff_iff, iff_false]; omega
@[go_sem] theorem sz7_6 {A a b c d e f : Nat} : (A ≤ A + a + b + c + d + e + f) = True := by simp only [eq_iff_iff, iff_true]; omega
@[go_sem] theorem sz1_7 {A a b c d e f g : Nat} : (A < A + 1 + a + b + c + d + e + f + g) = True := by simp only [eq_iff_iff, iff_true]; omega
@[go_sem] theorem sz3_7 {A a b c d e f g : Nat} : (A = A + 1 + a + b + c + d + e + f + g) = False := by simp only [eq_iff_iff, iff_false]; omega
@[go_sem] theorem sz6_7 {A a b c d e f g : Nat} : (A + 1 + a + b + c + d + e + f + g = A) = False := by simp only [eq_iff_iff, iff_false]; omega
@[go_sem] theorem sz9_7 {A a b c d e f g : Nat} : (A + 1 + a + b + c + d + e + f + g ≤ A) = False := by simp only [eq_iff_iff, iff_false]; omega
@[go_sem] theorem sz4_7 {x a b c d e f g : Nat} {w : World} (hx : x < w.heap.size) : (x = w.heap.size + a + b + c + d + e + f + g) = False := by simp only [eq_iff_iff, iff_false]; omega
@[go_sem] theorem sz8_7 {x a b c d e f g : Nat} {w : World} (hx : x < w.heap.size) : (x ≤ w.heap.size + a + b + c + d + e + f + g) = True := by simp only [eq_iff_iff, iff_true]; omega
@[go_sem] theorem sz2_7 {x a b c d e f g : Nat} {w : World} (hx : x < w.heap.size) : (x < w.heap.size + a + b + c + d + e + f + g) = True := by simp only [eq_iff_iff, iff_true]; omega
@[go_sem] theorem sz5_7 {A a b c d e f g : Nat} : (A + a + b + c + d + e + f + g < A) = False := by simp only [eq_iff_iff, iff_false]; omega
@[go_sem] theorem sz7_7 {A a b c d e f g : Nat} : (A ≤ A + a + b + c + d + e + f + g) = True := by simp only [eq_iff_iff, iff_true]; omega
@[go_sem] theorem sz1_8 {A a b c d e f g h : Nat} : (A < A + 1 + a + b + c + d + e + f + g + h) = True := by simp only [eq_iff_iff, iff_true]; omega
@[go_sem] theorem sz3_8 {A a b c d e f g h : Nat} : (A = A + 1 + a + b + c + d + e + f + g + h) = False := by simp only [eq_iff_iff, iff_false]; omega
@[go_sem] theorem sz6_8 {A a b c d e f g h : Nat} : (A + 1 + a + b + c + d + e + f + g + h = A) = False := by simp only [eq_iff_iff, iff_false]; omega
@[go_sem] theorem sz9_8 {A a b c d e f g h : Nat} : (A + 1 + a + b + c + d + e + f + g + h ≤ A) = False := by simp only [eq_iff_iff, iff_false]; omega
@[go_sem] theorem sz4_8 {x a b c d e f g h : Nat} {w : World} (hx : x < w.heap.size) : (x = w.heap.size + a + b + c + d + e + f + g + h) = False := by simp only [eq_iff_iff, iff_false]; omega
@[go_sem] theorem sz8_8 {x a b c d e f g h : Nat} {w : World} (hx : x < w.heap.size) : (x ≤ w.heap.size + a + b + c + d + e + f + g + h) = True := by simp only [eq_iff_iff, iff_true]; omega
@[go_sem] theorem sz2_8 {x a b c d e f g h : Nat} {w : World} (hx : x < w.heap.size) : (x < w.heap.size + a + b + c + d + e + f + g + h) = True := by simp only [eq_iff_iff, iff_true]; omega
@[go_sem] theorem sz5_8 {A a b c d e f g h : Nat} : (A + a + b + c + d + e + f + g + h < A) = False := by simp only [eq_iff_iff, iff_false]; omega
@[go_sem] theorem sz7_8 {A a b c d e f g h : Nat} : (A ≤ A + a + b + c + d + e + f + g + h) = True := by simp only [eq_iff_iff, iff_true]; omega
theorem plus_self (w : World) : w.plus ⟨#[], w.drawn⟩ = w := by simp [World.plus]
@[go_sem] theorem cellsN_toList (x : RN) (s : Value) : (cellsN x s).toList = [.int .i64 (x.v 0), .int .i64 (x.v 1), .int .i64 (x.v 2), .int .i64 (x.v 3), .int .i64 (x.v 4), .int .i64 (x.v 5), .int .i64 (x.v 6), .int .i64 (x.v 7), .int .i64 x.t0, .int .i64 x.t1, s] := rfl
theorem listN_v (x : RN) (s : Value) : ∀ j, j < 8 → ([.int .i64 (x.v 0), .int .i64 (x.v 1), .int .i64 (x.v 2), .int .i64 (x.v 3), .int .i64 (x.v 4), .int .i64 (x.v 5), .int .i64 (x.v 6), .int .i64 (x.v 7), .int .i64 x.t0, .int .i64 x.t1, s] : List Value)[j]? = some (.int .i64 (x.v j))
  | 0, _ => rfl
  | 1, _ => rfl
  | 2, _ => rfl
  | 3, _ => rfl
  | 4, _ => rfl
  | 5, _ => rfl
  | 6, _ => rfl
  | 7, _ => rfl
  | _ + 8, h => absurd h (by omega)
end Go.Proofs.Ytcicfijpfhbcaaa
