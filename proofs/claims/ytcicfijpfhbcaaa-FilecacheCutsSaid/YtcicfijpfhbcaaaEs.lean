/-
  What the laws with loops of Set share.
-/
import Derived.Test.YtcicfijpfhbcaaaCk
import Derived.Test.YtcicfijpfhbcaaaPo
import Derived.Test.YtcicfijpfhbcaaaOr2
namespace Go.Proofs.Ytcicfijpfhbcaaa
set_option linter.unusedSimpArgs false
set_option linter.unusedVariables false
set_option linter.unusedSectionVars false
open Go.RowKit

/-- A slice of uint16. -/
def d16 (a : Nat → Nat) (n : Nat) : D := .s 1 n (fun i _ => .v (.int .u16 (a i)))
theorem at16 {w : World} {a : Nat → Nat} {n cap : Nat} {A : Option Addr} (h : RdC w (d16 a n) (.slice A n cap)) {i : Nat} (hi : i < n) :
    ∃ g b, A = some ⟨g, b, none⟩ ∧ ∀ j, j < n → w.cell? ⟨g, b + j, none⟩ = some (.int .u16 (a j)) := by
  obtain ⟨A', cap', hu, _, _, h3⟩ := h
  injection hu with h1 _ _
  subst h1
  obtain ⟨p, hp, hc⟩ := h3 (by omega)
  have hcell : ∀ j, j < n → w.cell? (p.add j) = some (.int .u16 (a j)) := fun j hj => by
    obtain ⟨x, hx, hr⟩ := hc j hj 0 (by omega)
    rw [Nat.mul_one, Nat.add_zero] at hx
    have : x = .int .u16 (a j) := hr
    rw [hx, this]
  have h0 := hcell 0 (by omega)
  rw [addr_add_zero] at h0
  have hpl := addr_plain h0
  refine ⟨p.block, p.off, by rw [hp, ← hpl], fun j hj => ?_⟩
  have := hcell j hj
  rw [hpl, addr_add_mk] at this
  exact this
theorem d16_cap {w : World} {a : Nat → Nat} {n cap : Nat} {A : Option Addr} (h : RdC w (d16 a n) (.slice A n cap)) : n ≤ cap ∧ cap ≤ maxLen := by
  obtain ⟨A', cap', hu, h1, h2, _⟩ := h
  injection hu with _ _ h3
  subst h3
  exact ⟨h1, h2⟩

theorem run_loadR {w : World} {o : Oper} {a : Act} (x : Operand) (ho : o.op = .load 28 x) (g : Nat) (hx : a.eval x = .pointer (some ⟨g, 0, none⟩)) (h : Int) (y : RN) (s : Value)
    (hc : ∀ j v, (cellsR h y s).toList[j]? = some v → w.cell? ⟨g, j, none⟩ = some v) : (execOp a.eval o).run Try.prog w = .ok (.value (.agg (cellsR h y s))) w := by
  unfold execOp
  simp only [ho, hx, Instr.loadAt, Instr.sureAddr, Sem.run_bind, Sem.run_pure, Result.andThen_ok, run_loadVar_cells w ⟨g, 0, none⟩ 28 (cellsR h y s) _ (fun j v hj => by rw [addr_add_mk, Nat.zero_add]; exact hc j v hj) Try.underlying28 rfl sizeR]

theorem wrap_i64 {n : Int} (h0 : -9223372036854775808 ≤ n) (h1 : n ≤ 9223372036854775807) : IntKind.wrap .i64 n = n := by
  rw [IntKind.wrap_i64]
  omega
/-- One Set of a law. -/
theorem set_step {t : Nat × RN} (ht : okT t.1 t.2) {i : Nat} (hi : i < 1073741824) (v : Int) {i' : Int} (hii : i' = i) (cs : Array Value) (W : World) (h : RdVals W cs 12 (encR t.1 t.2)) :
    Calls Try.prog 24 #[.agg cs, .int .i64 i', .int .i64 v] W (TreeOut ((stepT t i v).1 : Int) (stepT t i v).2 0 W) := by
  subst hii
  have := p_Set cs t.1 t.2 i v W h
  rw [(step_ok ht hi v).2.2] at this
  exact this

/-- Where a law with one tree stands. -/
structure OneT (w : World) (g : Nat) (t : Nat × RN) (A : Option Addr) (cap : Nat) (S : Nat → Prop) (wr : World) : Prop where
  tree : TreeIn wr g t.1 t.2 (.slice A t.2.n cap) S
  below : Below w.heap.size w wr
  g_ : w.heap.size ≤ g

theorem OneT.store {w wr W : World} {g : Nat} {t t' : Nat × RN} {A A' : Option Addr} {cap cap' : Nat} {S : Nat → Prop} (h : OneT w g t A cap S wr) (hb : Below wr.heap.size wr W) (ho : OwnK W t'.2 (.slice A' t'.2.n cap') (fun b => wr.heap.size ≤ b)) :
    OneT w g t' A' cap' (fun b => wr.heap.size ≤ b) (W.setRow g (cellsR t'.1 t'.2 (.slice A' t'.2.n cap'))) :=
  ⟨⟨setRow_heap _ _ _ _ _ _ (h.tree.below hb).blk, ho.frame _ fun b hb' _ => setRow_other _ _ _ _ (by have := h.tree.lt; omega), by have := h.tree.lt; omega⟩,
    below_setRow (h.below.trans (hb.mono h.below.size)) h.g_ _, h.g_⟩

theorem fill_next (f : Nat → Nat) (v : Nat → Int) (a : Nat → Nat) (k : Nat) (t : Nat × RN) : fillT f v ((List.range (k + 1)).map a) t = stepT (fillT f v ((List.range k).map a) t) (f (a k)) (v (f (a k))) := by
  rw [List.range_succ, List.map_append]
  exact fillT_snoc f v _ _ t

end Go.Proofs.Ytcicfijpfhbcaaa
