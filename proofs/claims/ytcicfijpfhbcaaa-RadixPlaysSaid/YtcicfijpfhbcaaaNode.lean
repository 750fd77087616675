/-
  A node of a radix tree as data, and how its eleven cells read.
-/
import Derived.Test.YtcicfijpfhbcaaaRows
import Derived.Test.YtcicfijpfhbcaaaMem
namespace Go.Proofs.Ytcicfijpfhbcaaa
set_option linter.unusedSimpArgs false
set_option linter.unusedVariables false
set_option linter.unusedSectionVars false
open Go.RowKit

/-- A node of a radix tree as data: values, tags, the number of children, the children. -/
inductive RN where
  | mk (v : Nat → Int) (t0 t1 : Int) (n : Nat) (kid : Fin n → RN)
/-- The node that is the zero value. -/
def zeroN : RN := .mk (fun _ => 0) 0 0 0 (fun i => absurd i.2 (by omega))
instance : Inhabited RN := ⟨zeroN⟩
def RN.v : RN → Nat → Int | .mk v _ _ _ _ => v
def RN.t0 : RN → Int | .mk _ t0 _ _ _ => t0
def RN.t1 : RN → Int | .mk _ _ t1 _ _ => t1
def RN.n : RN → Nat | .mk _ _ _ n _ => n
def RN.kid : RN → Nat → RN | .mk _ _ _ n kid => fun i => if h : i < n then kid ⟨i, h⟩ else zeroN
def RN.t (x : RN) (k : Nat) : Int := if k = 0 then x.t0 else x.t1
@[go_sem] theorem RN.t_0 (x : RN) : x.t 0 = x.t0 := rfl
@[go_sem] theorem RN.t_1 (x : RN) : x.t 1 = x.t1 := rfl

/-- A node's eleven cells. -/
def encN : RN → Nat → D
  | .mk v t0 t1 n kid, j => if j < 8 then .v (.int .i64 (v j)) else if j = 8 then .v (.int .i64 t0) else if j = 9 then .v (.int .i64 t1) else .s 11 n (fun i j => if h : i < n then encN (kid ⟨i, h⟩) j else .v undef)
/-- The datum of the slice of a node's children. -/
def encK (x : RN) : D := .s 11 x.n (fun i j => if i < x.n then encN (x.kid i) j else .v undef)
theorem RN.kid_mk (v : Nat → Int) (t0 t1 : Int) (n : Nat) (kid : Fin n → RN) (i : Nat) (h : i < n) : (RN.mk v t0 t1 n kid).kid i = kid ⟨i, h⟩ := by simp [RN.kid, h]
theorem encN_10 (x : RN) : encN x 10 = encK x := by
  cases x with
  | mk v t0 t1 n kid =>
    simp only [encN, encK, RN.n]
    simp only [show ¬ (10 : Nat) < 8 by omega, show ¬ (10 : Nat) = 8 by omega, show ¬ (10 : Nat) = 9 by omega, if_false]
    congr 1
    funext i j
    by_cases h : i < n
    · simp [h, RN.kid_mk _ _ _ _ _ _ h]
    · simp [h]
theorem encN_v (x : RN) {j : Nat} (h : j < 8) : encN x j = .v (.int .i64 (x.v j)) := by cases x; simp [encN, RN.v, h]
theorem encN_8 (x : RN) : encN x 8 = .v (.int .i64 x.t0) := by cases x; simp [encN, RN.t0]
theorem encN_9 (x : RN) : encN x 9 = .v (.int .i64 x.t1) := by cases x; simp [encN, RN.t1]

/-- The eleven cells, when the slice of the children is known. -/
def cellsN (x : RN) (s : Value) : Array Value := #[.int .i64 (x.v 0), .int .i64 (x.v 1), .int .i64 (x.v 2), .int .i64 (x.v 3), .int .i64 (x.v 4), .int .i64 (x.v 5), .int .i64 (x.v 6), .int .i64 (x.v 7), .int .i64 x.t0, .int .i64 x.t1, s]
@[go_sem] theorem cellsN_0 (x : RN) (s : Value) : (cellsN x s)[0]? = some (.int .i64 (x.v 0)) := rfl
@[go_sem] theorem cellsN_1 (x : RN) (s : Value) : (cellsN x s)[1]? = some (.int .i64 (x.v 1)) := rfl
@[go_sem] theorem cellsN_2 (x : RN) (s : Value) : (cellsN x s)[2]? = some (.int .i64 (x.v 2)) := rfl
@[go_sem] theorem cellsN_3 (x : RN) (s : Value) : (cellsN x s)[3]? = some (.int .i64 (x.v 3)) := rfl
@[go_sem] theorem cellsN_4 (x : RN) (s : Value) : (cellsN x s)[4]? = some (.int .i64 (x.v 4)) := rfl
@[go_sem] theorem cellsN_5 (x : RN) (s : Value) : (cellsN x s)[5]? = some (.int .i64 (x.v 5)) := rfl
@[go_sem] theorem cellsN_6 (x : RN) (s : Value) : (cellsN x s)[6]? = some (.int .i64 (x.v 6)) := rfl
@[go_sem] theorem cellsN_7 (x : RN) (s : Value) : (cellsN x s)[7]? = some (.int .i64 (x.v 7)) := rfl
@[go_sem] theorem cellsN_8 (x : RN) (s : Value) : (cellsN x s)[8]? = some (.int .i64 x.t0) := rfl
@[go_sem] theorem cellsN_9 (x : RN) (s : Value) : (cellsN x s)[9]? = some (.int .i64 x.t1) := rfl
@[go_sem] theorem cellsN_10 (x : RN) (s : Value) : (cellsN x s)[10]? = some (s) := rfl
@[go_sem] theorem cellsN_size (x : RN) (s : Value) : (cellsN x s).size = 11 := rfl
theorem cellsN_v (x : RN) (s : Value) : ∀ j, j < 8 → (cellsN x s)[j]? = some (.int .i64 (x.v j))
  | 0, _ => rfl
  | 1, _ => rfl
  | 2, _ => rfl
  | 3, _ => rfl
  | 4, _ => rfl
  | 5, _ => rfl
  | 6, _ => rfl
  | 7, _ => rfl
  | _ + 8, h => absurd h (by omega)
theorem cellsN_t (x : RN) (s : Value) : ∀ j, j < 2 → (cellsN x s)[8 + j]? = some (.int .i64 (x.t j))
  | 0, _ => rfl
  | 1, _ => rfl
  | _ + 2, h => absurd h (by omega)

theorem rdN_open {w : World} {cs : Array Value} {x : RN} (h : RdVals w cs 11 (encN x)) :
    ∃ A cap, cs = cellsN x (.slice A x.n cap) ∧ RdC w (encK x) (.slice A x.n cap) := by
  obtain ⟨hs, hc⟩ := h
  obtain ⟨l⟩ := cs
  match l, hs with
  | [c0, c1, c2, c3, c4, c5, c6, c7, c8, c9, c10], _ =>
    obtain ⟨x0, e0, h0⟩ := hc 0 (by omega)
    obtain ⟨x1, e1, h1⟩ := hc 1 (by omega)
    obtain ⟨x2, e2, h2⟩ := hc 2 (by omega)
    obtain ⟨x3, e3, h3⟩ := hc 3 (by omega)
    obtain ⟨x4, e4, h4⟩ := hc 4 (by omega)
    obtain ⟨x5, e5, h5⟩ := hc 5 (by omega)
    obtain ⟨x6, e6, h6⟩ := hc 6 (by omega)
    obtain ⟨x7, e7, h7⟩ := hc 7 (by omega)
    obtain ⟨x8, e8, h8⟩ := hc 8 (by omega)
    obtain ⟨x9, e9, h9⟩ := hc 9 (by omega)
    obtain ⟨x10, e10, h10⟩ := hc 10 (by omega)
    simp at e0 e1 e2 e3 e4 e5 e6 e7 e8 e9 e10
    subst e0 e1 e2 e3 e4 e5 e6 e7 e8 e9 e10
    rw [encN_v _ (by omega)] at h0 h1 h2 h3 h4 h5 h6 h7
    rw [encN_8] at h8
    rw [encN_9] at h9
    rw [encN_10] at h10
    simp only [RdC] at h0 h1 h2 h3 h4 h5 h6 h7 h8 h9
    have h11 := h10
    obtain ⟨A, cap, rfl, _⟩ := h11
    exact ⟨A, cap, by simp [cellsN, h0, h1, h2, h3, h4, h5, h6, h7, h8, h9], h10⟩
theorem rdN_shut {w : World} {x : RN} {s : Value} (h : RdC w (encK x) s) : RdVals w (cellsN x s) 11 (encN x) := by
  refine ⟨rfl, fun j hj => ?_⟩
  by_cases h8 : j < 8
  · exact ⟨_, cellsN_v x s j h8, by rw [encN_v _ h8]; rfl⟩
  · match j, h8, hj with
    | 8, _, _ => exact ⟨_, rfl, by rw [encN_8]; rfl⟩
    | 9, _, _ => exact ⟨_, rfl, by rw [encN_9]; rfl⟩
    | 10, _, _ => exact ⟨_, rfl, by rw [encN_10]; exact h⟩
theorem encK_n {w : World} {x : RN} {A : Option Addr} {len cap : Nat} (h : RdC w (encK x) (.slice A len cap)) : len = x.n ∧ (x.n : Int) ≤ 9223372036854775807 := by
  obtain ⟨_, _, hu, h1, h2, _⟩ := h
  injection hu with _ h3 h4
  subst h4
  unfold maxLen at h2
  omega
theorem encK_cap {w : World} {x : RN} {A : Option Addr} {len cap : Nat} (h : RdC w (encK x) (.slice A len cap)) : x.n ≤ cap ∧ cap ≤ 9223372036854775807 := by
  obtain ⟨_, _, hu, h1, h2, _⟩ := h
  injection hu with _ h3 h4
  subst h4
  unfold maxLen at h2
  omega
/-- A child: where its cells lie, and what they read as. -/
theorem encK_kid {w : World} {x : RN} {A : Option Addr} {len cap : Nat} (h : RdC w (encK x) (.slice A len cap)) {i : Nat} (hi : i < x.n) :
    ∃ g b s, A = some ⟨g, b, none⟩ ∧ g < w.heap.size ∧ RdC w (encK (x.kid i)) s ∧ RdVals w (cellsN (x.kid i) s) 11 (encN (x.kid i)) ∧ ∀ j v, (cellsN (x.kid i) s).toList[j]? = some v → w.cell? ⟨g, b + i * 11 + j, none⟩ = some v := by
  have hf : ∀ i, i < x.n → (fun j => if i < x.n then encN (x.kid i) j else D.v undef) = encN (x.kid i) := fun i hi => by funext j; rw [if_pos hi]
  obtain ⟨a, ha, hr⟩ := h.at_ (i := 0) (by omega)
  rw [hf 0 (by omega)] at hr
  obtain ⟨cs, hv, hc⟩ := hr.vals
  obtain ⟨A', cap', rfl, _⟩ := rdN_open hv
  have h0 := hc 0 _ rfl
  simp only [Nat.zero_mul, addr_add_zero] at h0
  obtain ⟨g, b, s⟩ := a
  have hp := addr_plain h0
  simp only [Addr.mk.injEq, true_and] at hp
  subst hp
  obtain ⟨a, ha', hr⟩ := h.at_ hi
  rw [hf i hi] at hr
  rw [ha] at ha'
  injection ha' with ha'
  subst ha'
  obtain ⟨cs, hv, hc⟩ := hr.vals
  obtain ⟨A', cap', rfl, hk⟩ := rdN_open hv
  exact ⟨g, b, _, ha, World.block_lt_of_cell? w _ h0, hk, hv, fun j v hj => by have := hc j v hj; rwa [addr_add_mk, addr_add_mk] at this⟩

theorem sizeN : (Try.prog.info? 26).map (·.size) = some 11 := by kernel_rfl
/-- The eleven cells of a node, one by one. -/
theorem row11 {w : World} {g o : Nat} {y : RN} {s : Value} (h : ∀ j v, (cellsN y s).toList[j]? = some v → w.cell? ⟨g, o + j, none⟩ = some v) :
    (w.cell? ⟨g, o, none⟩ = some (.int .i64 (y.v 0)) ∧ w.cell? ⟨g, o + 1, none⟩ = some (.int .i64 (y.v 1)) ∧ w.cell? ⟨g, o + 2, none⟩ = some (.int .i64 (y.v 2)) ∧ w.cell? ⟨g, o + 3, none⟩ = some (.int .i64 (y.v 3)) ∧
      w.cell? ⟨g, o + 4, none⟩ = some (.int .i64 (y.v 4)) ∧ w.cell? ⟨g, o + 5, none⟩ = some (.int .i64 (y.v 5)) ∧ w.cell? ⟨g, o + 6, none⟩ = some (.int .i64 (y.v 6)) ∧ w.cell? ⟨g, o + 7, none⟩ = some (.int .i64 (y.v 7))) ∧
      w.cell? ⟨g, o + 8, none⟩ = some (.int .i64 y.t0) ∧ w.cell? ⟨g, o + 9, none⟩ = some (.int .i64 y.t1) ∧ w.cell? ⟨g, o + 10, none⟩ = some s :=
  ⟨⟨h 0 _ rfl, h 1 _ rfl, h 2 _ rfl, h 3 _ rfl, h 4 _ rfl, h 5 _ rfl, h 6 _ rfl, h 7 _ rfl⟩, h 8 _ rfl, h 9 _ rfl, h 10 _ rfl⟩
/-- A value of eleven cells is stored into a variable of its own block. -/
theorem wpList_storeN {ops : Array Oper} {rest : List Oper} {o : Oper} {a : Act} {w : World} {Q : Exit → Act → World → Prop} (x z : Operand) (ho : o.op = .store 26 x z) (hw : Region.wanted o (yielded ops a.tmps) = true)
    (g : Nat) (hx : a.eval x = .pointer (some ⟨g, 0, none⟩)) (y : RN) (A : Option Addr) (len cap : Nat) (hz : a.eval z = .agg (cellsN y (.slice A len cap))) (hg : ∃ old t, w.heap[g]? = some (.cells old t (0, 0)) ∧ old.size = 11)
    (h : wpList Try.prog ops Q rest (a.put o.dst undef) (w.setRow g (cellsN y (.slice A len cap)))) : wpList Try.prog ops Q (o :: rest) a w := by
  obtain ⟨old, t, hg, hold⟩ := hg
  exact wpList_step fun K hK => by rw [if_pos hw]; exact wp_store_row 26 x z ho g _ hx hz t old hg sizeN hold (by simp [cellsN]; exact ⟨rfl, rfl, rfl, rfl, rfl, rfl, rfl, rfl, rfl, rfl, rfl⟩) (hK _ _ h)

theorem wpList_storeN_new {ops : Array Oper} {rest : List Oper} {o : Oper} {a : Act} {w : World} {old : Array Value} {t : TypeId} {Q : Exit → Act → World → Prop} (x z : Operand) (ho : o.op = .store 26 x z) (hw : Region.wanted o (yielded ops a.tmps) = true)
    (g : Nat) (hx : a.eval x = .pointer (some ⟨g, 0, none⟩)) (y : RN) (A : Option Addr) (len cap : Nat) (hz : a.eval z = .agg (cellsN y (.slice A len cap))) (hold : old.size = 11) (hg : g = w.heap.size)
    (h : wpList Try.prog ops Q rest (a.put o.dst undef) (w.alloc (.cells (cellsN y (.slice A len cap)) t))) : wpList Try.prog ops Q (o :: rest) a (w.alloc (.cells old t)) :=
  wpList_storeN x z ho hw g hx y A len cap hz ⟨old, t, heap_alloc_here _ _ _ hg, hold⟩ (by rw [setRow_alloc_eq _ _ _ _ _ _ hg]; exact h)
theorem wpList_storeN_plus {X : Extra} {ops : Array Oper} {rest : List Oper} {o : Oper} {a : Act} {w : World} {old : Array Value} {t : TypeId} {Q : Exit → Act → World → Prop} (x z : Operand) (ho : o.op = .store 26 x z) (hw : Region.wanted o (yielded ops a.tmps) = true)
    (g : Nat) (hx : a.eval x = .pointer (some ⟨g, 0, none⟩)) (y : RN) (A : Option Addr) (len cap : Nat) (hz : a.eval z = .agg (cellsN y (.slice A len cap))) (hold : old.size = 11) (hg : g = w.heap.size)
    (h : wpList Try.prog ops Q rest (a.put o.dst undef) ((w.alloc (.cells (cellsN y (.slice A len cap)) t)).plus X)) : wpList Try.prog ops Q (o :: rest) a ((w.alloc (.cells old t)).plus X) :=
  wpList_storeN x z ho hw g hx y A len cap hz ⟨old, t, (heap_plus _ _ _ (by rw [hg]; simp)).trans (heap_alloc_here _ _ _ hg), hold⟩ (by rw [setRow_plus _ _ _ _ (by rw [hg]; simp), setRow_alloc_eq _ _ _ _ _ _ hg]; exact h)

theorem infoInt : ∃ i, Try.prog.info? 3 = some i := Option.isSome_iff_exists.1 (by kernel_rfl)
theorem cellsInt : Try.prog.cellsOf 3 = 1 := by kernel_rfl
@[go_sem] theorem eql2 (a b c d : Int) (w : World) : (Op.equalIn 10000 23 (.agg #[.int .i64 a, .int .i64 b]) (.agg #[.int .i64 c, .int .i64 d])).run Try.prog w = .ok (a == c && b == d) w := by
  obtain ⟨i, hi⟩ := infoInt
  rw [run_equalIn_ints w .i64 Try.underlying23 hi cellsInt Try.underlying3 _ _ (fun j => if j = 0 then a else b) (fun j => if j = 0 then c else d)]
  · simp [List.range_succ]
  · intro j hj
    match j, hj with
    | 0, _ => exact ⟨rfl, rfl⟩
    | 1, _ => exact ⟨rfl, rfl⟩
def zeroTo (f : Nat → Int) (k : Nat) : Bool := (List.range k).all fun i => f i == 0
theorem zeroTo_succ (f : Nat → Int) (k : Nat) : zeroTo f (k + 1) = (zeroTo f k && f k == 0) := by simp [zeroTo, List.range_succ]
theorem zeroTo_not {f : Nat → Int} {k m : Nat} (hk : k < m) (h : f k ≠ 0) : zeroTo f m = false := by
  rw [zeroTo, List.all_eq_false]
  exact ⟨k, List.mem_range.2 hk, by simp [h]⟩
def zero8 (f : Nat → Int) : Bool := zeroTo f 8
@[go_sem] theorem eql8z (f : Nat → Int) (w : World) : (Op.equalIn 10000 22 (.agg #[.int .i64 (f 0), .int .i64 (f 1), .int .i64 (f 2), .int .i64 (f 3), .int .i64 (f 4), .int .i64 (f 5), .int .i64 (f 6), .int .i64 (f 7)]) (.agg #[.int .i64 0, .int .i64 0, .int .i64 0, .int .i64 0, .int .i64 0, .int .i64 0, .int .i64 0, .int .i64 0])).run Try.prog w = .ok (zero8 f) w := by
  obtain ⟨i, hi⟩ := infoInt
  rw [run_equalIn_ints w .i64 Try.underlying22 hi cellsInt Try.underlying3 _ _ f (fun _ => 0)]
  · rfl
  intro j hj
  match j, hj with
  | 0, _ => exact ⟨rfl, rfl⟩
  | 1, _ => exact ⟨rfl, rfl⟩
  | 2, _ => exact ⟨rfl, rfl⟩
  | 3, _ => exact ⟨rfl, rfl⟩
  | 4, _ => exact ⟨rfl, rfl⟩
  | 5, _ => exact ⟨rfl, rfl⟩
  | 6, _ => exact ⟨rfl, rfl⟩
  | 7, _ => exact ⟨rfl, rfl⟩

theorem index2 (x : RN) (w : World) : ∀ m : Nat, m < 2 → (Instr.index 23 (.agg #[.int .i64 x.t0, .int .i64 x.t1]) (.int .i64 (m : Int))).run Try.prog w = .ok (.int .i64 (x.t m)) w
  | 0, _ => by kernel_rfl
  | 1, _ => by kernel_rfl
  | _ + 2, h => absurd h (by omega)

@[go_sem] theorem index2_0 (a b : Value) (w : World) : (Instr.index 23 (.agg #[a, b]) (.int .i64 0)).run Try.prog w = .ok a w := by kernel_rfl
@[go_sem] theorem index2_1 (a b : Value) (w : World) : (Instr.index 23 (.agg #[a, b]) (.int .i64 1)).run Try.prog w = .ok b w := by kernel_rfl
/-- The load of a whole node, wherever it lies. -/
theorem wpList_loadN {ops : Array Oper} {rest : List Oper} {o : Oper} {a : Act} {w : World} {Q : Exit → Act → World → Prop} (x : Operand) (ho : o.op = .load 26 x) (hw : Region.wanted o (yielded ops a.tmps) = true)
    (g b : Nat) (hx : a.eval x = .pointer (some ⟨g, b, none⟩)) (y : RN) (s : Value) (hc : ∀ j v, (cellsN y s).toList[j]? = some v → w.cell? ⟨g, b + j, none⟩ = some v)
    (h : wpList Try.prog ops Q rest (a.put o.dst (.agg (cellsN y s))) w) : wpList Try.prog ops Q (o :: rest) a w :=
  wpList_step fun K hK => by rw [if_pos hw]; exact wp_load_cells 26 x ho _ hx (cellsN y s) _ (fun j v hj => by rw [addr_add_mk]; exact hc j v hj) Try.underlying26 rfl sizeN (hK _ _ h)

/-- The node is the zero value. -/
def absentB (x : RN) : Bool := x.n == 0 && (x.t0 == 0 && x.t1 == 0) && zero8 x.v

set_option maxHeartbeats 400000 in
theorem p_absent (cs : Array Value) (x : RN) (w : World) (h : RdVals w cs 11 (encN x)) :
    Calls Try.prog 67 #[.agg cs] w fun e w' => e = .returned (.bool (absentB x)) ∧ Below w.heap.size w w' := by
  obtain ⟨A, cap, rfl, hk⟩ := rdN_open h
  have hcap := (encK_n hk).2
  clear hk h
  go_enter Try.func67, Try.ntmps67
  go_wp2
  all_goals
    go_ret
    exact ⟨by simp [absentB, *], below_alloc _ _⟩

end Go.Proofs.Ytcicfijpfhbcaaa
