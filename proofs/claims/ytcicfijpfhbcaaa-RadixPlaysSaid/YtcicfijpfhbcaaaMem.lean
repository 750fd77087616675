/-
  Memory that is read: a datum 'D' (a cell's value, or a slice of rows of data), and what it means that a value reads as a datum in a world. No program in sight.
-/
import Derived.WalkKit
import Derived.WalkSpells
import Derived.WalkLawsBesides
import Derived.BigQuiet
import Derived.Deep.QuietTactic
import Derived.Lib.Hide
import Derived.DeepKeys
namespace Go.Proofs.Ytcicfijpfhbcaaa
set_option linter.unusedSimpArgs false
set_option linter.unusedVariables false
set_option linter.unusedSectionVars false
open Go.RowKit

/-- A datum: one cell with just this value, or a slice of n rows of k cells each. -/
inductive D where
  | v (x : Value)
  | s (k n : Nat) (f : Nat → Nat → D)

theorem addr_add_block (a : Addr) (n : Nat) : (a.add n).block = a.block := by unfold Addr.add; split <;> rfl
theorem addr_add_add (a : Addr) (i j : Nat) : (a.add i).add j = a.add (i + j) := by
  unfold Addr.add
  by_cases hi : i = 0 <;> by_cases hj : j = 0 <;> simp [hi, hj, Nat.add_assoc]
theorem addr_add_zero (a : Addr) : a.add 0 = a := by simp [Addr.add]
theorem addr_add_mk (g o n : Nat) : (⟨g, o, none⟩ : Addr).add n = ⟨g, o + n, none⟩ := by
  unfold Addr.add; split <;> simp_all

/-- The value u reads as the datum d. -/
def RdC (w : World) : D → Value → Prop
  | .v x, u => u = x
  | .s k n f, u => ∃ (A : Option Addr) (cap : Nat), u = .slice A n cap ∧ n ≤ cap ∧ cap ≤ maxLen ∧
      (0 < n → ∃ a, A = some a ∧ ∀ i, i < n → ∀ j, j < k → ∃ x, w.cell? (a.add (i * k + j)) = some x ∧ RdC w (f i j) x)

/-- The k cells from a on read as the data r 0 .. r (k-1). -/
def RdRow (w : World) (a : Addr) (k : Nat) (r : Nat → D) : Prop := ∀ j, j < k → ∃ x, w.cell? (a.add j) = some x ∧ RdC w (r j) x

/-- The values cs read as the data r. -/
def RdVals (w : World) (cs : Array Value) (k : Nat) (r : Nat → D) : Prop := cs.size = k ∧ ∀ j, j < k → ∃ x, cs[j]? = some x ∧ RdC w (r j) x

theorem RdC.keep {w w' : World} : ∀ {d : D} {u : Value}, RdC w d u → (∀ p v, w.cell? p = some v → w'.cell? p = some v) → RdC w' d u
  | .v _, _, h, _ => h
  | .s _ _ f, _, h, hk => by
    obtain ⟨A, cap, hu, h1, h2, h3⟩ := h
    refine ⟨A, cap, hu, h1, h2, fun h0 => ?_⟩
    obtain ⟨a, ha, hc⟩ := h3 h0
    refine ⟨a, ha, fun i hi j hj => ?_⟩
    obtain ⟨x, hx, hr⟩ := hc i hi j hj
    exact ⟨x, hk _ _ hx, RdC.keep hr hk⟩

theorem below_keeps {w w' : World} (hb : Below w.heap.size w w') : ∀ p v, w.cell? p = some v → w'.cell? p = some v := by
  intro p v h
  rw [hb.cell (World.block_lt_of_cell? w p h)]
  exact h

theorem RdC.below {w w' : World} {d : D} {u : Value} (h : RdC w d u) (hb : Below w.heap.size w w') : RdC w' d u := h.keep (below_keeps hb)
theorem RdRow.keep {w w' : World} {a : Addr} {k : Nat} {r : Nat → D} (h : RdRow w a k r) (hk : ∀ p v, w.cell? p = some v → w'.cell? p = some v) : RdRow w' a k r :=
  fun j hj => let ⟨x, hx, hr⟩ := h j hj; ⟨x, hk _ _ hx, hr.keep hk⟩
theorem RdRow.below {w w' : World} {a : Addr} {k : Nat} {r : Nat → D} (h : RdRow w a k r) (hb : Below w.heap.size w w') : RdRow w' a k r := h.keep (below_keeps hb)
theorem RdVals.keep {w w' : World} {cs : Array Value} {k : Nat} {r : Nat → D} (h : RdVals w cs k r) (hk : ∀ p v, w.cell? p = some v → w'.cell? p = some v) : RdVals w' cs k r :=
  ⟨h.1, fun j hj => let ⟨x, hx, hr⟩ := h.2 j hj; ⟨x, hx, hr.keep hk⟩⟩
theorem RdVals.below {w w' : World} {cs : Array Value} {k : Nat} {r : Nat → D} (h : RdVals w cs k r) (hb : Below w.heap.size w w') : RdVals w' cs k r := h.keep (below_keeps hb)

/-- What a stretch of a run has laid behind the memory that it found. -/
structure Extra where
  objs : Array Obj
  drawn : Nat

instance : Inhabited Extra := ⟨⟨#[], 0⟩⟩

def objCell (o : Option Obj) (a : Addr) : Option Value :=
  match o with
  | some (.cells c _ _) => if a.spot.isSome then none else c[a.off]?
  | _ => none
def objFrozen (o : Option Obj) (a : Addr) : Bool :=
  match o with
  | some (.cells _ _ (lo, hi)) => lo ≤ a.off && a.off < hi
  | _ => false
def Extra.cell? (X : Extra) (n : Nat) (a : Addr) : Option Value := if a.block < n then none else objCell X.objs[a.block - n]? a
def Extra.frozen? (X : Extra) (n : Nat) (a : Addr) : Bool := if a.block < n then false else objFrozen X.objs[a.block - n]? a
theorem cell_is (w : World) (a : Addr) : w.cell? a = objCell w.heap[a.block]? a := rfl
theorem frozen_is (w : World) (a : Addr) : w.frozen? a = objFrozen w.heap[a.block]? a := rfl

/-- The world w with X laid behind it. -/
def _root_.Go.World.plus (w : World) (X : Extra) : World := { w with heap := w.heap ++ X.objs, drawn := X.drawn }

theorem cell?_plus (w : World) (X : Extra) (a : Addr) : (w.plus X).cell? a = (w.cell? a).or (X.cell? w.heap.size a) := by
  rw [cell_is, cell_is]
  unfold World.plus Extra.cell?
  simp only [Array.getElem?_append]
  by_cases h : a.block < w.heap.size
  · simp [h]
  · rw [if_neg h, if_neg h, Array.getElem?_eq_none (xs := w.heap) (by omega)]
    simp [objCell]
theorem frozen?_plus (w : World) (X : Extra) (a : Addr) : (w.plus X).frozen? a = (w.frozen? a || X.frozen? w.heap.size a) := by
  rw [frozen_is, frozen_is]
  unfold World.plus Extra.frozen?
  simp only [Array.getElem?_append]
  by_cases h : a.block < w.heap.size
  · simp [h]
  · rw [if_neg h, if_neg h, Array.getElem?_eq_none (xs := w.heap) (by omega)]
    simp [objFrozen]
@[go_sem] theorem objCell_at (c : Array Value) (t : TypeId) (fr : Nat × Nat) (g i : Nat) : objCell (some (.cells c t fr)) ⟨g, i, none⟩ = c[i]? := rfl
@[go_sem] theorem objCell_add (c : Array Value) (t : TypeId) (fr : Nat × Nat) (g o i : Nat) : objCell (some (.cells c t fr)) ((⟨g, o, none⟩ : Addr).add i) = c[o + i]? := by rw [addr_add_mk]; rfl
@[go_sem] theorem objFrozen_at (c : Array Value) (t : TypeId) (a : Addr) : objFrozen (some (.cells c t (0, 0))) a = false := by simp [objFrozen]
@[go_sem] theorem add_block (a : Addr) (n : Nat) : (a.add n).block = a.block := addr_add_block a n
@[go_sem] theorem add_mk (g o n : Nat) : (⟨g, o, none⟩ : Addr).add n = ⟨g, o + n, none⟩ := addr_add_mk g o n
theorem addr_plain {w : World} {a : Addr} {v : Value} (h : w.cell? a = some v) : a = ⟨a.block, a.off, none⟩ := by
  cases a with
  | mk b o s =>
    cases s with
    | none => rfl
    | some s => rw [cell_is] at h; unfold objCell at h; split at h <;> simp at h
@[go_sem] theorem add_add (a : Addr) (i j : Nat) : (a.add i).add j = a.add (i + j) := addr_add_add a i j
@[go_sem high] theorem cell?_plus_if (w : World) (X : Extra) (a : Addr) : (w.plus X).cell? a = if a.block < w.heap.size then w.cell? a else X.cell? w.heap.size a := by
  rw [cell?_plus]
  split
  · rename_i h; simp [Extra.cell?, h]
  · rename_i h; rw [cell_is, Array.getElem?_eq_none (xs := w.heap) (by omega)]; simp [objCell]
@[go_sem high] theorem frozen?_plus_if (w : World) (X : Extra) (a : Addr) : (w.plus X).frozen? a = if a.block < w.heap.size then w.frozen? a else X.frozen? w.heap.size a := by
  rw [frozen?_plus]
  split
  · rename_i h; simp [Extra.frozen?, h]
  · rename_i h; rw [frozen_is, Array.getElem?_eq_none (xs := w.heap) (by omega)]; simp [objFrozen]
@[go_sem high] theorem cell?_alloc_if (w : World) (o : Obj) (a : Addr) : (w.alloc o).cell? a = if a.block < w.heap.size then w.cell? a else if a.block = w.heap.size then objCell (some o) a else none := by
  rw [cell_is, cell_is]
  unfold World.alloc
  simp only [Array.getElem?_push]
  by_cases h : a.block = w.heap.size
  · rw [if_pos h, if_neg (by omega), if_pos h]
  · rw [if_neg h]
    split
    · rfl
    · rw [Array.getElem?_eq_none (xs := w.heap) (by omega)]; simp [objCell]
@[go_sem high] theorem frozen?_alloc_if (w : World) (o : Obj) (a : Addr) : (w.alloc o).frozen? a = if a.block < w.heap.size then w.frozen? a else if a.block = w.heap.size then objFrozen (some o) a else false := by
  rw [frozen_is, frozen_is]
  unfold World.alloc
  simp only [Array.getElem?_push]
  by_cases h : a.block = w.heap.size
  · rw [if_pos h, if_neg (by omega), if_pos h]
  · rw [if_neg h]
    split
    · rfl
    · rw [Array.getElem?_eq_none (xs := w.heap) (by omega)]; simp [objFrozen]
def objSet (a : Addr) (v : Value) : Obj → Obj
  | .cells c elem frozen => .cells (if a.spot.isSome then c else c.setIfInBounds a.off v) elem frozen
  | o => o
theorem setCell_is (w : World) (a : Addr) (v : Value) : w.setCell a v = { w with heap := w.heap.modify a.block (objSet a v) } := by
  unfold World.setCell
  congr 2
def Extra.setCell (X : Extra) (n : Nat) (a : Addr) (v : Value) : Extra := { X with objs := X.objs.modify (a.block - n) (objSet a v) }
@[go_sem] theorem frozenX_lt (X : Extra) (n : Nat) (a : Addr) (h : a.block < n) : X.frozen? n a = false := by simp [Extra.frozen?, h]
@[simp, go_sem] theorem size_plus (w : World) (X : Extra) : (w.plus X).heap.size = w.heap.size + X.objs.size := by simp [World.plus]
@[simp, go_sem] theorem tape_plus (w : World) (X : Extra) : (w.plus X).tape = w.tape := rfl
theorem heap_plus (w : World) (X : Extra) (g : Nat) (h : g < w.heap.size) : (w.plus X).heap[g]? = w.heap[g]? := by
  unfold World.plus
  simp only [Array.getElem?_append, h, if_true]
@[go_sem] theorem plus_drew (w : World) (X : Extra) : (w.plus X).drew = w.plus ⟨X.objs, X.drawn + 1⟩ := rfl
@[go_sem] theorem plus_drewN (w : World) (X : Extra) (n : Nat) : (w.plus X).drewN n = w.plus ⟨X.objs, X.drawn + n⟩ := rfl
theorem plus_plus (w : World) (X Y : Extra) : (w.plus X).plus Y = w.plus ⟨X.objs ++ Y.objs, Y.drawn⟩ := by simp [World.plus]
theorem plus_setCell (w : World) (X : Extra) (a : Addr) (v : Value) (h : a.block < w.heap.size) : (w.plus X).setCell a v = (w.setCell a v).plus X := by
  unfold World.setCell World.plus
  simp only [World.mk.injEq, and_true, true_and]
  apply Array.ext_getElem?
  intro i
  simp only [Array.getElem?_modify, Array.getElem?_append, Array.size_modify]
  by_cases hi : i < w.heap.size
  · simp [hi]
  · have : a.block ≠ i := by omega
    simp [hi, this]

@[go_sem high] theorem plus_setCell_if (w : World) (X : Extra) (a : Addr) (v : Value) : (w.plus X).setCell a v = if a.block < w.heap.size then (w.setCell a v).plus X else w.plus (X.setCell w.heap.size a v) := by
  split
  · rename_i h; exact plus_setCell w X a v h
  · rename_i h
    rw [setCell_is]
    unfold World.plus Extra.setCell
    simp only [World.mk.injEq, and_true, true_and]
    apply Array.ext_getElem?
    intro i
    simp only [Array.getElem?_modify, Array.getElem?_append]
    by_cases hi : i < w.heap.size
    · have : a.block ≠ i := by omega
      simp [hi, this]
    · simp only [hi, if_false]
      by_cases he : a.block = i
      · subst he; simp
      · rw [if_neg he, if_neg (by omega)]
@[go_sem high] theorem alloc_setCell_if (w : World) (c : Array Value) (t : TypeId) (a : Addr) (v : Value) (fr : Nat × Nat) : (w.alloc (.cells c t fr)).setCell a v =
    if a.block = w.heap.size then w.alloc (.cells (if a.spot.isSome then c else c.setIfInBounds a.off v) t fr) else (w.setCell a v).alloc (.cells c t fr) := by
  rw [setCell_is, setCell_is]
  unfold World.alloc
  split
  · rename_i h
    simp only [World.mk.injEq, and_true, true_and]
    apply Array.ext_getElem?
    intro i
    simp only [Array.getElem?_modify, Array.getElem?_push, h]
    by_cases hi : i = w.heap.size
    · subst hi; simp [objSet]
    · rw [if_neg (fun e => hi e.symm), if_neg hi, if_neg hi]
  · rename_i h
    simp only [World.mk.injEq, and_true, true_and]
    apply Array.ext_getElem?
    intro i
    simp only [Array.getElem?_modify, Array.getElem?_push, Array.size_modify]
    by_cases hi : i = w.heap.size
    · subst hi; simp [h]
    · simp [hi]
@[go_sem] theorem drew_plus (w : World) (X : Extra) : w.drew.plus X = w.plus X := rfl
@[go_sem] theorem drewN_plus (w : World) (X : Extra) (n : Nat) : (w.drewN n).plus X = w.plus X := rfl

theorem below_plus {B : Nat} {a w : World} (h : Below B a w) (hB : B ≤ w.heap.size) (X : Extra) : Below B a (w.plus X) :=
  h.trans ⟨rfl, rfl, rfl, by simp, fun k hk => heap_plus _ _ _ (by omega)⟩
/-- A world that keeps all of w is w with something laid behind it. -/
theorem plus_of_below {w w' : World} (h : Below w.heap.size w w') : ∃ X, w' = w.plus X := by
  obtain ⟨h1, h2, h3, h4, h5⟩ := h
  refine ⟨⟨w'.heap.extract w.heap.size w'.heap.size, w'.drawn⟩, ?_⟩
  have hh : w.heap ++ w'.heap.extract w.heap.size w'.heap.size = w'.heap := by
    apply Array.ext_getElem?
    intro i
    rw [Array.getElem?_append]
    by_cases hi : i < w.heap.size
    · rw [if_pos hi, h5 i hi]
    · rw [if_neg hi, Array.getElem?_extract]
      by_cases hi2 : i < w'.heap.size
      · rw [if_pos (by omega)]; congr 1; omega
      · rw [if_neg (by omega), Array.getElem?_eq_none (by omega)]
  unfold World.plus
  simp only [hh]
  cases w; cases w'
  simp_all

theorem plus_again {w w' : World} {Y : Extra} (h : Below (w.plus Y).heap.size (w.plus Y) w') : ∃ X, w' = w.plus X :=
  plus_of_below (((below_plus (Below.refl _ _) (Nat.le_refl _) Y)).trans (h.mono (by simp)))
theorem below_alloc (w : World) (o : Obj) : Below w.heap.size w (w.alloc o) := (Below.refl _ _).alloc (Nat.le_refl _) o
theorem below_drewN {B : Nat} {a w : World} (h : Below B a w) (n : Nat) : Below B a (w.drewN n) := ⟨h.os, h.tape, h.output, h.size, h.block⟩
theorem below_trans {a b c : World} (h : Below a.heap.size a b) (k : Below b.heap.size b c) : Below a.heap.size a c := h.trans (k.mono h.size)

/-- The address of row i of a slice, and what lies there. -/
theorem RdC.at_ {w : World} {k n : Nat} {f : Nat → Nat → D} {A : Option Addr} {len cap : Nat} (h : RdC w (.s k n f) (.slice A len cap)) {i : Nat} (hi : i < n) :
    ∃ a, A = some a ∧ RdRow w (a.add (i * k)) k (f i) := by
  obtain ⟨A', cap', hu, _, _, h3⟩ := h
  injection hu with h1 _ _
  subst h1
  obtain ⟨a, ha, hc⟩ := h3 (by omega)
  refine ⟨a, ha, fun j hj => ?_⟩
  rw [addr_add_add]
  exact hc i hi j hj

/-- The values that stand in a row of memory. -/
theorem RdRow.vals {w : World} {a : Addr} {k : Nat} {r : Nat → D} (h : RdRow w a k r) :
    ∃ cs : Array Value, RdVals w cs k r ∧ ∀ j v, cs.toList[j]? = some v → w.cell? (a.add j) = some v := by
  have hch : ∀ j : Nat, ∃ x, j < k → w.cell? (a.add j) = some x ∧ RdC w (r j) x := by
    intro j
    by_cases hj : j < k
    · obtain ⟨x, hx⟩ := h j hj
      exact ⟨x, fun _ => hx⟩
    · exact ⟨undef, fun hh => absurd hh hj⟩
  let g : Nat → Value := fun j => Classical.choose (hch j)
  have hg : ∀ j, j < k → w.cell? (a.add j) = some (g j) ∧ RdC w (r j) (g j) := fun j => Classical.choose_spec (hch j)
  refine ⟨((List.range k).map g).toArray, ⟨by simp, fun j hj => ⟨g j, by simp [hj], (hg j hj).2⟩⟩, fun j v hv => ?_⟩
  have hj : j < k := by
    rcases Nat.lt_or_ge j k with h1 | h1
    · exact h1
    · simp [h1] at hv
  have hv' : g j = v := by simpa [hj] using hv
  rw [← hv']
  exact (hg j hj).1

/-- What a read of a whole variable gives, wherever it lies. -/
theorem run_loadVar_cells {P : Program} (w : World) (a : Addr) (ty : TypeId) (cs : Array Value) (d : TypeDesc) (hc : ∀ j v, cs.toList[j]? = some v → w.cell? (a.add j) = some v)
    (hu : P.underlying ty = some d) (hd : (match d with | .struct _ | .array _ _ => true | _ => false) = true) (hi : (P.info? ty).map (·.size) = some cs.size) :
    (loadVar ty a).run P w = .ok (.agg cs) w := by
  have hl : (loadCells a cs.toList.length).run P w = .ok cs.toList.toArray w := run_loadCells_list (P := P) w a cs.toList hc
  cases hq : P.info? ty with
  | none => simp [hq] at hi
  | some i =>
    have hs : i.size = cs.size := by simpa [hq] using hi
    have hagg : (isAgg ty).run P w = .ok true w := by
      unfold isAgg
      rw [Sem.run_bind, run_underlying hu w]
      cases d <;> simp_all
    simp only [Array.length_toList, Array.toArray_toList] at hl
    simp [loadVar, Sem.run_bind, hagg, sizeOf, typeInfo, hq, hs, hl]

theorem wp_load_cells {P : Program} {o : Oper} {a : Act} {w : World} {K : Act → World → Prop} {Q : Exit → Act → World → Prop} (ty : TypeId) (x : Operand) (ho : o.op = .load ty x)
    (p : Addr) (hx : a.eval x = .pointer (some p)) (cs : Array Value) (d : TypeDesc) (hc : ∀ j v, cs.toList[j]? = some v → w.cell? (p.add j) = some v)
    (hu : P.underlying ty = some d) (hd : (match d with | .struct _ | .array _ _ => true | _ => false) = true) (hi : (P.info? ty).map (·.size) = some cs.size)
    (h : K (a.put o.dst (.agg cs)) w) : o.wp P a w K Q := by
  unfold Oper.wp execOp
  simp only [ho, hx, Instr.loadAt, Instr.sureAddr, Sem.run_bind, Sem.run_pure, Result.andThen_ok, run_loadVar_cells w p ty cs d hc hu hd hi]
  exact h

/-- Two arrays of integers held against each other. -/
theorem run_eqItems_ints {P : Program} (w : World) (d : Nat) {e : TypeId} {k' : IntKind} (k : IntKind) (he : P.underlying e = some (.int k')) (xs ys : Array Value) (a b : Nat → Int) :
    ∀ is : List Nat, (∀ i, i ∈ is → xs[i]? = some (.int k (a i)) ∧ ys[i]? = some (.int k (b i))) → (Op.eqItems (d + 1) e 1 xs ys is).run P w = .ok (is.all fun i => a i == b i) w
  | [], _ => by simp [Op.eqItems]
  | i :: is, h => by
    obtain ⟨hx, hy⟩ := h i (List.mem_cons_self ..)
    have ih := run_eqItems_ints w d k he xs ys a b is (fun j hj => h j (List.mem_cons_of_mem _ hj))
    have hagg : (isAgg e).run P w = .ok false w := by
      unfold isAgg
      rw [Sem.run_bind, run_underlying he w]
      simp
    have hpart : ∀ (zs : Array Value) (z : Int), zs[i]? = some (.int k z) → (part e zs i).run P w = .ok (.int k z) w := by
      intro zs z hz
      simp only [part, Sem.run_bind, hagg, Result.andThen_ok, Bool.false_eq_true, if_false]
      simp [hz]
    simp only [Op.eqItems, Sem.run_bind, Nat.mul_one, hpart _ _ hx, hpart _ _ hy, Result.andThen_ok, run_equalIn_int w d e k k' _ _ he, List.all_cons]
    cases hab : (a i == b i) <;> simp [ih]

theorem run_equalIn_ints {P : Program} (w : World) {t e : TypeId} {n : Nat} {k' : IntKind} (k : IntKind) {i : TypeInfo} (ht : P.underlying t = some (.array n e)) (hi : P.info? e = some i) (h1 : P.cellsOf e = 1) (he : P.underlying e = some (.int k'))
    (xs ys : Array Value) (a b : Nat → Int) (h : ∀ j, j < n → xs[j]? = some (.int k (a j)) ∧ ys[j]? = some (.int k (b j))) :
    (Op.equalIn 10000 t (.agg xs) (.agg ys)).run P w = .ok ((List.range n).all fun i => a i == b i) w := by
  rw [run_equalIn_array w _ _ _ ht hi, h1, run_eqItems_ints w _ k he xs ys a b _ (fun j hj => h j (List.mem_range.1 hj))]

/-- A region that draws its order, whose operations read and whose callees only lay something behind the memory. -/
theorem wp_region_quiet_plus {P : Program} {id : Nat} {Q : Exit → Act → World → Prop} {a : Act} {w : World} {l : List Oper} (hm : P.follows .mixedOrders = true) (hB : Region.lexB .any l.toArray = true)
    (h : wpQuiet P l.toArray (fun w' => ∃ X, w' = w.plus X) (fun a' => ∀ X, Q .normal a' (w.plus X)) l a) : (Code.region id l.toArray true).wp P Q a w := by
  refine wp_region_quiet (C := fun w' => ∃ X, w' = w.plus X) hm hB ⟨⟨#[], w.drawn + 1⟩, by simp [World.plus]⟩ ?_
  have e : (fun a' => ∀ w', (∃ X, w' = w.plus X) → Q .normal a' w') = (fun a' => ∀ X, Q .normal a' (w.plus X)) := by
    funext a'
    exact propext ⟨fun h X => h _ ⟨X, rfl⟩, fun h w' ⟨X, hX⟩ => hX ▸ h X⟩
  rw [e]
  simpa using h
theorem Calls.quiet_plus {P : Program} {f : FuncId} {args : Array Value} {w : World} {X : Extra} {v : Value}
    (h : Calls P f args (w.plus X) fun e w' => e = .returned v ∧ Below (w.plus X).heap.size (w.plus X) w') : Calls P f args (w.plus X) fun e w'' => e = .returned v ∧ ∃ Y, w'' = w.plus Y :=
  h.mono fun _ _ ⟨he, hb⟩ => ⟨he, plus_again hb⟩
theorem Calls.quiet_plus_same {P : Program} {f : FuncId} {args : Array Value} {w : World} {X : Extra} {v : Value}
    (h : Calls P f args (w.plus X) fun e w' => e = .returned v ∧ w.plus X = w') : Calls P f args (w.plus X) fun e w'' => e = .returned v ∧ ∃ Y, w'' = w.plus Y :=
  h.mono fun _ _ ⟨he, hb⟩ => ⟨he, X, hb.symm⟩

theorem heap_alloc_here (w : World) (o : Obj) (g : Nat) (h : g = w.heap.size) : (w.alloc o).heap[g]? = some o := by subst h; exact heap_alloc_new w o
theorem setRow_alloc_eq (w : World) (c cs : Array Value) (t : TypeId) (fr : Nat × Nat) (g : Nat) (h : g = w.heap.size) : (w.alloc (.cells c t fr)).setRow g cs = w.alloc (.cells cs t fr) := by
  subst h
  unfold World.setRow World.alloc
  simp only [World.mk.injEq, and_true, true_and]
  apply Array.ext_getElem?
  intro i
  simp only [Array.getElem?_modify, Array.getElem?_push]
  by_cases hi : i = w.heap.size
  · subst hi; simp
  · rw [if_neg (fun e => hi e.symm), if_neg hi, if_neg hi]
theorem setRow_alloc_ne (w : World) (o : Obj) (cs : Array Value) (g : Nat) (h : g < w.heap.size) : (w.alloc o).setRow g cs = (w.setRow g cs).alloc o := by
  unfold World.setRow World.alloc
  simp only [World.mk.injEq, and_true, true_and]
  apply Array.ext_getElem?
  intro i
  simp only [Array.getElem?_modify, Array.getElem?_push, Array.size_modify]
  by_cases hi : i = w.heap.size
  · subst hi; rw [if_neg (by omega)]; simp
  · simp [hi]
theorem setRow_plus (w : World) (X : Extra) (cs : Array Value) (g : Nat) (h : g < w.heap.size) : (w.plus X).setRow g cs = (w.setRow g cs).plus X := by
  unfold World.setRow World.plus
  simp only [World.mk.injEq, and_true, true_and]
  apply Array.ext_getElem?
  intro i
  simp only [Array.getElem?_modify, Array.getElem?_append, Array.size_modify]
  by_cases hi : i < w.heap.size
  · simp [hi]
  · have : g ≠ i := by omega
    simp [hi, this]

end Go.Proofs.Ytcicfijpfhbcaaa
