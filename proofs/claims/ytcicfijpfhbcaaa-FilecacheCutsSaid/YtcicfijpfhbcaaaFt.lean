/-
  filecache.Truncate: where its loop stands.
-/
/-
  filecache.Truncate.
-/
import Derived.Test.YtcicfijpfhbcaaaFe
import Derived.Test.YtcicfijpfhbcaaaEs
import Derived.Test.YtcicfijpfhbcaaaPy
import Derived.BigRegion
import Derived.RegionIn
namespace Go.Proofs.Ytcicfijpfhbcaaa
set_option linter.unusedSimpArgs false
set_option linter.unusedVariables false
set_option linter.unusedSectionVars false
open Go.RowKit Go.Shelf

/-- What is owned lies in blocks of nodes. -/
theorem OwnK.only {w : World} (x : RN) : ∀ {s : Value} {S : Nat → Prop}, OwnK w x s S → OwnK w x s (fun b => S b ∧ ∃ cs, w.heap[b]? = some (.cells cs 26 (0, 0))) := by
  induction x with
  | mk v t0 t1 n kid ih =>
    intro s S h
    rcases OwnK_iff.1 h with h0 | ⟨g, cap, cs, T, sk, h⟩
    · exact OwnK_iff.2 (.inl h0)
    · refine OwnAt.own (T := fun i b => T i b ∧ ∃ cs, w.heap[b]? = some (.cells cs 26 (0, 0))) ⟨h.pos, h.le, h.max, h.val, h.blk, ⟨h.mem, _, h.blk⟩, h.size, h.row, fun i hi => ?_, fun i hi b hb => ⟨⟨(h.sub i hi b hb.1).1, hb.2⟩, (h.sub i hi b hb.1).2⟩, fun i j b hi hj hbi hbj => h.apart i j b hi hj hbi.1 hbj.1⟩
      have hk := h.kid i hi
      have hi' : i < n := hi
      rw [RN.kid_mk _ _ _ _ _ _ hi'] at hk ⊢
      exact ih ⟨i, hi'⟩ hk

/-- A list in one box, a tree in another one behind it. -/
structure TrS (w0 : World) (gl g : Nat) (lf : List Int) (v : Value) (t : Nat × RN) (A : Option Addr) (cap : Nat) (S : Nat → Prop) (W : World) : Prop where
  lbox : W.heap[gl]? = some (.cells #[v] 43 (0, 0))
  list : OwnI W (g + 1) lf v
  tree : TreeIn W g t.1 t.2 (.slice A t.2.n cap) S
  out : ∀ b, S b → (∃ cs, W.heap[b]? = some (.cells cs 26 (0, 0))) ∧ g < b ∧ v.ownBlock ≠ some b
  order : gl < g
  n_ : w0.heap.size ≤ gl
  below : Below w0.heap.size w0 W
def fpT (n0 gl g : Nat) : World → Nat → Prop := fun W b => fpL n0 gl W b ∨ b = g
theorem fpT_ok {n0 gl g n1 : Nat} (h : n0 ≤ gl) (h1 : gl < g) (h2 : g < n1) : FpOk (fpT n0 gl g) n0 n1 := by
  have := fpL_ok (n0 := n0) (g := gl) (n1 := n1) h (by omega)
  exact ⟨fun W b e => e.elim (this.base W b) fun e => by omega, fun W W' hs b e => e.imp (this.same W W' hs b) id⟩
section
variable {w0 W W' : World} {gl g : Nat} {lf : List Int} {v : Value} {t u : Nat × RN} {A B : Option Addr} {cap c : Nat} {S : Nat → Prop}
theorem TrS.far (h : TrS w0 gl g lf v t A cap S W) (hb : Below w0.heap.size w0 W') (hk : ∀ (k : Nat) (cs : Array Value) (ty : TypeId) (fr : Nat × Nat), W.heap[k]? = some (.cells cs ty fr) → W'.heap[k]? = W.heap[k]?) : TrS w0 gl g lf v t A cap S W' := by
  refine ⟨(hk _ _ _ _ h.lbox).trans h.lbox, ⟨h.list.1, ?_⟩, ⟨(hk _ _ _ _ h.tree.blk).trans h.tree.blk, OwnK.frame _ h.tree.own fun b hb' _ => ?_, h.tree.out⟩, fun b hb' => ?_, h.order, h.n_, hb⟩
  · rcases h.list.2 with h1 | ⟨q, cap, cur, e1, e2, e3, e4⟩
    · exact .inl h1
    · exact .inr ⟨q, cap, cur, e1, e2, (hk _ _ _ _ e3).trans e3, e4⟩
  · obtain ⟨⟨cs, hc⟩, -⟩ := h.out b hb'
    exact hk _ _ _ _ hc
  · obtain ⟨⟨cs, hc⟩, h2⟩ := h.out b hb'
    exact ⟨⟨cs, (hk _ _ _ _ hc).trans hc⟩, h2⟩
theorem TrS.go (h : TrS w0 gl g lf v t A cap S W) (hb : Below W.heap.size W W') : TrS w0 gl g lf v t A cap S W' :=
  h.far (h.below.trans (hb.mono h.below.size)) fun k _ _ _ hk => hb.block k (lt_of_heap hk)
theorem TrS.kept {row : Option Nat} (h : TrS w0 gl g lf v t A cap S W) (hg : W.grownBy W' row) (hn : ∀ r, row = some r → w0.heap.size ≤ r) (hr : ∀ r, row = some r → ∃ o : Obj, W.heap[r]? = some o ∧ o.isCells = false) : TrS w0 gl g lf v t A cap S W' :=
  h.far (h.below.grown hg h.below.size fun k e => hn k e) fun k cs ty fr hk => (heap_kept hk hg hr).trans hk.symm
theorem TrS.fp (h : TrS w0 gl g lf v t A cap S W) {n0 b : Nat} (hf : fpT n0 gl g W b) : b = gl ∨ v.ownBlock = some b ∨ b = g := by
  rcases hf with (e | ⟨-, len, cap, hc⟩) | e
  · exact .inl e
  · have h1 : W.cell? ⟨gl, 0, none⟩ = some v := cell_of_row _ _ _ _ _ _ h.lbox
    rw [h1] at hc; injection hc with hc; rw [hc]; exact .inr (.inl rfl)
  · exact .inr (.inr e)
theorem TrS.inL (h : TrS w0 gl g lf v t A cap S W) {b : Nat} (e : v.ownBlock = some b) : fpT w0.heap.size gl g W b := by
  have h3 := h.list.base_ b e
  have := h.n_; have := h.order
  refine .inl (.inr ⟨by omega, ?_⟩)
  have hb := h.lbox
  rcases h.list.2 with ⟨h4, -⟩ | ⟨q, cap2, cur, h4, -⟩
  · rw [h4] at e; cases e
  · rw [h4] at e hb
    have : q = b := by simpa [Value.ownBlock] using e
    subst this
    exact ⟨_, _, cell_of_row _ _ 0 _ _ _ hb⟩
theorem TrS.keep {lf' : List Int} {v' : Value} {t' : Nat × RN} {A' : Option Addr} {cap' : Nat} {S' : Nat → Prop} (h : TrS w0 gl g lf v t A cap S W) (h' : TrS w0 gl g lf' v' t' A' cap' S' W') (hb : Below w0.heap.size W W')
    (hfar : ∀ k, k < W.heap.size → k ≠ gl → k ≠ g → v.ownBlock ≠ some k → W'.heap[k]? = W.heap[k]?) (hl : ∀ b, v'.ownBlock = some b → v.ownBlock = some b ∨ W.heap.size ≤ b) : KeepF (fpT w0.heap.size gl g) w0.heap.size W W' := by
  refine ⟨hb, fun k cs ty fr hk hn => hfar k (lt_of_heap hk) (fun e => hn (.inl (.inl e))) (fun e => hn (.inr e)) fun e => hn (h.inL e), fun b hf => ?_, fun hlt b hf => ?_⟩
  · rcases h'.fp hf with e | e | e
    · exact .inl (.inl (.inl e))
    · exact (hl b e).imp (fun e => h.inL e) id
    · exact .inl (.inr e)
  · rcases h'.fp hf with e | e | e
    · rw [e]; exact lt_of_heap h'.lbox
    · exact h'.list.lt b e
    · rw [e]; exact h'.tree.lt
/-- The list is lengthened. -/
theorem TrS.app {W1 : World} {v' : Value} {i : Int} {ty : TypeId} (h : TrS w0 gl g lf v t A cap S W) (ha : AppI (W.alloc (.cells #[.int .i64 i] ty)) W1 (g + 1) (lf ++ [i]) v v') :
    TrS w0 gl g (lf ++ [i]) v' t A cap S (W1.setCell ⟨gl, 0, none⟩ v') ∧ KeepF (fpT w0.heap.size gl g) w0.heap.size W (W1.setCell ⟨gl, 0, none⟩ v') ∧ (∀ k, k < W.heap.size → k ≠ gl → v.ownBlock ≠ some k → (W1.setCell ⟨gl, 0, none⟩ v').heap[k]? = W.heap[k]?) ∧ ∀ B, KeepsFrom B W (W1.setCell ⟨gl, 0, none⟩ v') := by
  have hord := h.order
  have hn := h.n_
  have hgl := lt_of_heap h.lbox
  have hW1 : W1.heap[gl]? = some (.cells #[v] 43 (0, 0)) := (ha.far gl (by simp; omega) fun e => by have := h.list.base_ gl e; omega).trans ((Below.heap_alloc _ _ _ hgl).trans h.lbox)
  have hset : ∀ q, q ≠ gl → (W1.setCell ⟨gl, 0, none⟩ v').heap[q]? = W1.heap[q]? := fun q hq => heap_setCell_other W1 _ q _ hq
  have hfar : ∀ k, k < W.heap.size → k ≠ gl → v.ownBlock ≠ some k → (W1.setCell ⟨gl, 0, none⟩ v').heap[k]? = W.heap[k]? := fun k hk hne hn => (hset k hne).trans ((ha.far k (by simp; omega) hn).trans (Below.heap_alloc _ _ _ hk))
  have hbox : (W1.setCell ⟨gl, 0, none⟩ v').heap[gl]? = some (.cells #[v'] 43 (0, 0)) := heap_set_one hW1 _
  have hown : OwnI (W1.setCell ⟨gl, 0, none⟩ v') (g + 1) (lf ++ [i]) v' := ha.own.keep fun q hq _ => hset q (by have := ha.own.base_ q hq; omega)
  have hsz : W.heap.size ≤ (W1.setCell ⟨gl, 0, none⟩ v').heap.size := by have := ha.below.size; simp at this ⊢; omega
  have hlies : ∀ b, v'.ownBlock = some b → v.ownBlock = some b ∨ W.heap.size ≤ b := fun b e => (ha.lies b e).imp id fun e => by simp at e; omega
  have hb : Below w0.heap.size W (W1.setCell ⟨gl, 0, none⟩ v') := ⟨ha.below.os, ha.below.tape, ha.below.output, hsz, fun k hk => hfar k (by have := h.below.size; omega) (by omega) (fun e => by have := h.list.base_ k e; omega)⟩
  have hgne : v.ownBlock ≠ some g := fun e => by have := h.list.base_ g e; omega
  have hT : TrS w0 gl g (lf ++ [i]) v' t A cap S (W1.setCell ⟨gl, 0, none⟩ v') := by
    refine ⟨hbox, hown, ⟨(hfar g h.tree.lt (by omega) hgne).trans h.tree.blk, OwnK.frame _ h.tree.own fun b hb' hl => hfar b hl (by have := (h.out b hb').2.1; omega) (h.out b hb').2.2, h.tree.out⟩, fun b hb' => ?_, hord, hn, h.below.trans hb⟩
    obtain ⟨⟨cs, hc⟩, h2, h3⟩ := h.out b hb'
    refine ⟨⟨cs, (hfar b (lt_of_heap hc) (by omega) h3).trans hc⟩, h2, fun e => ?_⟩
    rcases hlies b e with e | e
    · exact h3 e
    · have := lt_of_heap hc; omega
  refine ⟨hT, h.keep hT hb (fun k hk h1 _ h3 => hfar k hk h1 h3) hlies, hfar, fun B => ⟨hsz, fun k o hk he hc => (hfar k (lt_of_heap he) (fun e => ?_) fun e => ?_).trans he⟩⟩
  · subst e; rw [h.lbox] at he; injection he with he; subst he; cases hc
  · rcases h.list.2 with ⟨h4, -⟩ | ⟨q, cap2, cur, h4, h5, h6, -⟩
    · rw [h4] at e; cases e
    · rw [h4] at e
      have : q = k := by simpa [Value.ownBlock] using e
      subst this
      rw [h6] at he; injection he with he; subst he; cases hc
/-- The tree's box is laid anew. -/
theorem TrS.store (h : TrS w0 gl g lf v t A cap S W) (hb : Below W.heap.size W W') (ho : OwnK W' u.2 (.slice B u.2.n c) (fun b => W.heap.size ≤ b)) :
    ∃ S', TrS w0 gl g lf v u B c S' (W'.setRow g (cellsR u.1 u.2 (.slice B u.2.n c))) ∧ KeepF (fpT w0.heap.size gl g) w0.heap.size W (W'.setRow g (cellsR u.1 u.2 (.slice B u.2.n c))) ∧ (∀ k, k < W.heap.size → k ≠ g → (W'.setRow g (cellsR u.1 u.2 (.slice B u.2.n c))).heap[k]? = W.heap[k]?) ∧ ∀ B', KeepsFrom B' W (W'.setRow g (cellsR u.1 u.2 (.slice B u.2.n c))) := by
  have h1 := h.go hb
  have hord := h.order
  have hn := h.n_
  have hgl := h.tree.lt
  have hset : ∀ q, q ≠ g → (W'.setRow g (cellsR u.1 u.2 (.slice B u.2.n c))).heap[q]? = W'.heap[q]? := fun q hq => setRow_other _ _ _ _ hq
  have hfar : ∀ k, k < W.heap.size → k ≠ g → (W'.setRow g (cellsR u.1 u.2 (.slice B u.2.n c))).heap[k]? = W.heap[k]? := fun k hk hne => (hset k hne).trans (hb.block k hk)
  have hsz : W.heap.size ≤ (W'.setRow g (cellsR u.1 u.2 (.slice B u.2.n c))).heap.size := by rw [size_setRow]; exact hb.size
  have hbb : Below w0.heap.size W (W'.setRow g (cellsR u.1 u.2 (.slice B u.2.n c))) := below_setRow (hb.mono h.below.size) (by omega) _
  have hT : TrS w0 gl g lf v u B c (fun b => W.heap.size ≤ b ∧ ∃ cs, W'.heap[b]? = some (.cells cs 26 (0, 0))) (W'.setRow g (cellsR u.1 u.2 (.slice B u.2.n c))) := by
    refine ⟨(hset gl (by omega)).trans h1.lbox, h1.list.keep fun q hq _ => hset q (by have := h1.list.base_ q hq; omega), ⟨setRow_heap _ _ _ _ _ _ h1.tree.blk, OwnK.frame _ (OwnK.only _ ho) fun b hb' _ => hset b (by have := hb'.1; omega), fun hh => by have := hh.1; omega⟩, fun b hb' => ?_, hord, hn, h.below.trans hbb⟩
    obtain ⟨h2, cs, hc⟩ := hb'
    refine ⟨⟨cs, (hset b (by omega)).trans hc⟩, by omega, fun e => by have := h.list.lt b e; omega⟩
  refine ⟨_, hT, h.keep hT hbb (fun k hk _ h2 _ => hfar k hk h2) (fun b e => .inl e), hfar, fun B' => ⟨hsz, fun k o hk he hc => (hfar k (lt_of_heap he) fun e => ?_).trans he⟩⟩
  subst e
  rw [h.tree.blk] at he; injection he with he; subst he; cases hc
end
end Go.Proofs.Ytcicfijpfhbcaaa
namespace Go.Proofs.Ytcicfijpfhbcaaa
set_option linter.unusedSimpArgs false
set_option linter.unusedVariables false
set_option linter.unusedSectionVars false
open Go.RowKit Go.Shelf
attribute [local go_sem] Oper.semAt_some

def mkS (ht0 : Int) (x0 : RN) (i k : Nat) (t : Nat × RN) : Nat × RN := if taggedP ht0 x0 i k = true then (t.1, updN (markLeaf k true) i (t.1 - 1) t.2) else t
def trK (ht0 : Int) (x0 : RN) (t : Nat × RN) (i : Nat) : Nat → Nat × RN
  | 0 => stepT t i (getP ht0 x0 i)
  | k + 1 => mkS ht0 x0 i k (trK ht0 x0 t i k)
def trS (ht0 : Int) (x0 : RN) (size : Int) (t : Nat × RN) (i : Int) : Nat × RN := if size ≤ i then t else trK ht0 x0 t i.toNat 2
def trT (ht : Int) (x : RN) (size : Int) (l : List Int) : Nat × RN := l.foldl (trS ht x size) (0, zeroN)
def trL (ht : Int) (x : RN) (size : Int) (l : List Int) : List Int := framesL ht x (l.filter fun i => decide (size ≤ i))
theorem trT_snoc (ht : Int) (x : RN) (size : Int) (l : List Int) (i : Int) : trT ht x size (l ++ [i]) = trS ht x size (trT ht x size l) i := by simp [trT]
theorem trL_snoc (ht : Int) (x : RN) (size : Int) (l : List Int) (i : Int) : trL ht x size (l ++ [i]) = if size ≤ i then (if 0 < getP ht x i then trL ht x size l ++ [getP ht x i - 1] else trL ht x size l) else trL ht x size l := by
  unfold trL
  rw [List.filter_append]
  by_cases h : size ≤ i
  · rw [if_pos h, ← frames_snoc]; simp [h]
  · rw [if_neg h]; simp [h]
theorem trL_len (ht : Int) (x : RN) (size : Int) (l : List Int) : (trL ht x size l).length ≤ l.length := Nat.le_trans (frames_len _ _ _) (List.length_filter_le _ _)
/-- One entry's tree, its value and its tags laid. -/
theorem trK_ok {ht0 : Int} {x0 : RN} {t : Nat × RN} (ht : okT t.1 t.2) {i : Nat} (hi : i < 1073741824) (hv : getP ht0 x0 i ≠ 0) : ∀ k, k ≤ 2 → okT (trK ht0 x0 t i k).1 (trK ht0 x0 t i k).2 ∧ (tl (trK ht0 x0 t i k).1 (trK ht0 x0 t i k).2 i).1 = getP ht0 x0 i
  | 0, _ => by
    have h := step_ok ht hi (getP ht0 x0 i)
    refine ⟨h.1, ?_⟩
    show (tl (stepT t i (getP ht0 x0 i)).1 (stepT t i (getP ht0 x0 i)).2 i).1 = _
    rw [h.2.1, if_pos rfl, setE, if_neg hv]
  | k + 1, hk => by
    have h := trK_ok ht hi hv k (by omega)
    show okT (mkS ht0 x0 i k (trK ht0 x0 t i k)).1 (mkS ht0 x0 i k (trK ht0 x0 t i k)).2 ∧ (tl (mkS ht0 x0 i k (trK ht0 x0 t i k)).1 (mkS ht0 x0 i k (trK ht0 x0 t i k)).2 i).1 = _
    unfold mkS
    by_cases hg : taggedP ht0 x0 i k = true
    · rw [if_pos hg]
      have hm := mark_step h.1 hi k (by omega) true (by rw [h.2]; exact hv)
      refine ⟨hm.1, ?_⟩
      rw [hm.2.1, if_pos rfl, markY_v]; exact h.2
    · rw [if_neg hg]; exact h
theorem trT_ok {ht : Int} {x : RN} {size : Int} : ∀ (l : List Int) (t : Nat × RN), okT t.1 t.2 → (∀ i ∈ l, i ∈ eachL ht x (-1)) → okT (l.foldl (trS ht x size) t).1 (l.foldl (trS ht x size) t).2
  | [], t, ht, _ => ht
  | i :: l, t, ht', hl => by
    refine trT_ok l _ ?_ fun j hj => hl j (by simp [hj])
    unfold trS
    by_cases h : size ≤ i
    · rw [if_pos h]; exact ht'
    · rw [if_neg h]
      have he := each_at (hl i (by simp))
      refine (trK_ok (ht0 := ht) (x0 := x) ht' (i := i.toNat) (by omega) (by rw [Int.toNat_of_nonneg he.1]; simpa using he.2.2.2.2.1) 2 (by omega)).1

theorem wpListIn_storeR {F : Fence} {n : Nat} {ops : Array Oper} {rest : List Oper} {o : Oper} {a : Act} {w : World} {Q : Exit → Act → World → Prop} (x z : Operand) (ho : o.op = .store 28 x z) (hw : Region.wanted o (yielded ops a.tmps) = true)
    (g : Nat) (hx : a.eval x = .pointer (some ⟨g, 0, none⟩)) (ht : Int) (y : RN) (A : Option Addr) (len cap : Nat) (hz : a.eval z = .agg (cellsR ht y (.slice A len cap))) (old : Array Value) (t : TypeId) (hg : w.heap[g]? = some (.cells old t (0, 0))) (hold : old.size = 12)
    (h : wpListIn F n Try.prog ops Q rest (a.put o.dst undef) (w.setRow g (cellsR ht y (.slice A len cap)))) : wpListIn F n Try.prog ops Q (o :: rest) a w := by
  refine wpListIn_step fun K hK => ?_
  rw [if_pos hw]
  unfold Oper.wpIn
  refine ⟨?_, ?_⟩
  · simp [Oper.about, ho]
  · rw [Oper.semAt_plain F _ _ (by rw [ho]; intro c hc'; cases hc')]
    unfold execOp
    simp only [ho, hx, hz, Instr.storeAt, Instr.sureAddr, Sem.run_bind, Sem.run_pure, Result.andThen_ok, run_storeVar_row (P := Try.prog) w g t 28 old (cellsR ht y (.slice A len cap)) hg sizeR hold (by simp [cellsR]; exact ⟨rfl, rfl, rfl, rfl, rfl, rfl, rfl, rfl, rfl, rfl, rfl, rfl⟩)]
    exact hK _ _ h
theorem wpListIn_loadR {F : Fence} {n : Nat} {ops : Array Oper} {rest : List Oper} {o : Oper} {a : Act} {w : World} {Q : Exit → Act → World → Prop} (x : Operand) (ho : o.op = .load 28 x) (hw : Region.wanted o (yielded ops a.tmps) = true)
    (g : Nat) (hx : a.eval x = .pointer (some ⟨g, 0, none⟩)) (ht : Int) (y : RN) (s : Value) (hc : ∀ j v, (cellsR ht y s).toList[j]? = some v → w.cell? ⟨g, j, none⟩ = some v)
    (h : wpListIn F n Try.prog ops Q rest (a.put o.dst (.agg (cellsR ht y s))) w) : wpListIn F n Try.prog ops Q (o :: rest) a w := by
  refine wpListIn_step fun K hK => ?_
  rw [if_pos hw]
  unfold Oper.wpIn
  refine ⟨?_, ?_⟩
  · simp [Oper.about, ho]
  · rw [Oper.semAt_plain F _ _ (by rw [ho]; intro c hc'; cases hc')]
    rw [run_loadR x ho g hx ht y s hc]
    exact hK _ _ h
/-- The boxes ahead of the loop. -/
structure BxT (w0 : World) (row : Array Value) (size : Int) (W : World) : Prop where
  box : W.heap[w0.heap.size]? = some (.cells row 28 (0, 0))
  len : W.heap[w0.heap.size + 1]? = some (.cells #[.int .i64 size] 3 (0, 0))
  res : W.heap[w0.heap.size + 1 + 1]? = some (.cells (cellsR 0 zeroN (.slice none 0 0)) 28 (0, 0))
theorem BxT.far {w0 W W' : World} {row : Array Value} {size : Int} (h : BxT w0 row size W) (hk : ∀ k, k < w0.heap.size + 3 → W'.heap[k]? = W.heap[k]?) : BxT w0 row size W' :=
  ⟨(hk _ (by omega)).trans h.box, (hk _ (by omega)).trans h.len, (hk _ (by omega)).trans h.res⟩
theorem BxT.go {w0 W W' : World} {row : Array Value} {size : Int} (h : BxT w0 row size W) (hb : Below W.heap.size W W') : BxT w0 row size W' := h.far fun k hk => hb.block k (by have := lt_of_heap h.res; omega)
theorem BxT.kept {w0 W W' : World} {row : Array Value} {size : Int} {rw : Option Nat} (h : BxT w0 row size W) (hg : W.grownBy W' rw) (hr : ∀ r, rw = some r → ∃ o : Obj, W.heap[r]? = some o ∧ o.isCells = false) : BxT w0 row size W' :=
  ⟨heap_kept h.box hg hr, heap_kept h.len hg hr, heap_kept h.res hg hr⟩

/-- What Truncate answers. -/
def truncP (ht : Int) (x : RN) (size : Int) : (Int × RN) × List Int × Int :=
  if fcP ht x ≠ 0 then ((0, zeroN), [], fcP ht x) else if size < 0 ∨ 1073741824 < size then ((0, zeroN), [], 2)
  else (((trT ht x size (eachL ht x (-1))).1, (trT ht x size (eachL ht x (-1))).2), trL ht x size (eachL ht x (-1)), 0)
def TruncPost (p : (Int × RN) × List Int × Int) (w : World) (e : Ending) (w' : World) : Prop :=
  ∃ s v, e = .returned (.tuple #[.agg (cellsR p.1.1 p.1.2 s), v, .int .i64 p.2.2]) ∧ OwnK w' p.1.2 s (fun b => w.heap.size ≤ b) ∧ OwnI w' w.heap.size p.2.1 v ∧ Below w.heap.size w w'

theorem wp_exact {P : Program} {c : Code} {Q : Exit → Act → World → Prop} {a A0 : Act} {w W1 : World} (h1 : c.wp P (fun e a' w' => e = .normal ∧ a' = A0 ∧ w' = W1) a w) (h2 : Q .normal A0 W1) : c.wp P Q a w :=
  wp_mono h1 fun e a' w' ⟨he, ha, hw⟩ => by subst he ha hw; exact h2
theorem results_tree3 {fn : Func} {p u q : Tmp} (h : fn.results = #[.cell p 28, .tmp u, .tmp q]) (tmps : Array Value) (w : World) (g : Nat) (ht : Int) (y : RN) (s v v2 : Value)
    (hp : tmps.getD p undef = .pointer (some ⟨g, 0, none⟩)) (hb : w.heap[g]? = some (.cells (cellsR ht y s) 28 (0, 0))) (hu : tmps.getD u undef = v) (hq : tmps.getD q undef = v2) :
    (results fn tmps).run Try.prog w = .ok (.tuple #[.agg (cellsR ht y s), v, v2]) w := by
  have e := run_loadVar_cells (P := Try.prog) w ⟨g, 0, none⟩ 28 (cellsR ht y s) _ (fun j x hj => by rw [addr_add_mk, Nat.zero_add, cell_of_row _ _ _ _ _ _ hb]; simpa using hj) Try.underlying28 rfl sizeR
  simp only [results, h]
  simp only [Array.getD_eq_getD_getElem?] at hp hu hq
  simp [Sem.run_bind, Result.andThen, hp, hu, hq, asAddr, e]

set_option maxRecDepth 100000 in
set_option maxHeartbeats 1000000 in
theorem c_Truncate (cs : Array Value) (ht : Int) (x : RN) (size : Int) (w : World) (hr : RdVals w cs 12 (encR ht x)) (hv : vOk ht x) :
    Calls Try.prog 52 #[.agg cs, .int .i64 size] w (TruncPost (truncP ht x size) w) := by
  obtain ⟨A, cap, rfl, hk⟩ := rdR_open hr
  have HR := Lib.hid hr
  have HV := Lib.hid hv
  clear hr hk hv
  have HCK : Hid (∀ cs W, RdVals W cs 12 (encR ht x) → Calls Try.prog 41 #[.agg cs] W fun e w' => e = .returned (.int .i64 (fcP ht x)) ∧ Below W.heap.size W w') := fun cs W h => c_Check cs ht x W h HV.out
  by_cases hc : fcP ht x ≠ 0
  · have hf : Hid (truncP ht x size = ((0, zeroN), [], fcP ht x)) := if_pos hc
    have hcb : (fcP ht x != 0) = true := by simp [hc]
    clear hc
    go_enter Try.func52, Try.ntmps52
    go_wp2_with (go_at_call 41; (with_reducible refine (HCK.out _ _ ?_).mono ?_); exact HR.out.keep (below_keeps (by (repeat' (first | (with_reducible exact Below.refl _ _) | (with_reducible assumption) | (with_reducible refine below_plus ?_ ?_ _) | (with_reducible refine Below.alloc ?_ ?_ _) | (with_reducible refine Below.drew ?_) | (with_reducible refine below_drewN ?_ _) | (with_reducible refine Below.setCell ?_ ?_ _) | (first | omega | (simp only [World.size_alloc, size_plus, World.size_drew, World.size_setCell] <;> omega) | (simp <;> omega)) | omega | (simp; omega))))); rintro e w' ⟨rfl, hb⟩; (first | (obtain ⟨X, rfl⟩ := plus_again hb) | (obtain ⟨X, rfl⟩ := plus_of_below hb)); clear hb)
    refine bodyPost_ret (v := _) (results_tree3 Try.results52 _ _ (w.heap.size + 1 + 1) 0 zeroN (.slice none 0 0) _ _ rfl ?_ rfl rfl) rfl (by rw [hf.out]; exact ⟨_, _, rfl, OwnK.none_ rfl, OwnI.nil _ _, by (repeat' (first | (with_reducible exact Below.refl _ _) | (with_reducible assumption) | (with_reducible refine below_plus ?_ ?_ _) | (with_reducible refine Below.alloc ?_ ?_ _) | (with_reducible refine Below.drew ?_) | (with_reducible refine below_drewN ?_ _) | (with_reducible refine Below.setCell ?_ ?_ _) | (first | omega | (simp only [World.size_alloc, size_plus, World.size_drew, World.size_setCell] <;> omega) | (simp <;> omega)) | omega | (simp; omega)))⟩)
    (repeat' (first | (refine heap_alloc_here _ _ _ ?_; (first | omega | (simp only [World.size_alloc, size_plus, World.size_drew, World.size_setCell] <;> omega) | (simp <;> omega))) | (refine (heap_alloc_old _ _ _ ?_).trans ?_; (first | omega | (simp only [World.size_alloc, size_plus, World.size_drew, World.size_setCell] <;> omega) | (simp <;> omega))) | (refine (heap_plus _ _ _ ?_).trans ?_; (first | omega | (simp only [World.size_alloc, size_plus, World.size_drew, World.size_setCell] <;> omega) | (simp <;> omega))) | rfl))
  · have hcb : (fcP ht x != 0) = false := by simpa using hc
    by_cases hs : size < 0 ∨ 1073741824 < size
    · have hf : Hid (truncP ht x size = ((0, zeroN), [], 2)) := by rw [Hid, truncP, if_neg hc, if_pos hs]
      clear hc
      by_cases hneg : size < 0
      · clear hs
        go_enter Try.func52, Try.ntmps52
        go_wp2_with (go_at_call 41; (with_reducible refine (HCK.out _ _ ?_).mono ?_); exact HR.out.keep (below_keeps (by (repeat' (first | (with_reducible exact Below.refl _ _) | (with_reducible assumption) | (with_reducible refine below_plus ?_ ?_ _) | (with_reducible refine Below.alloc ?_ ?_ _) | (with_reducible refine Below.drew ?_) | (with_reducible refine below_drewN ?_ _) | (with_reducible refine Below.setCell ?_ ?_ _) | (first | omega | (simp only [World.size_alloc, size_plus, World.size_drew, World.size_setCell] <;> omega) | (simp <;> omega)) | omega | (simp; omega))))); rintro e w' ⟨rfl, hb⟩; (first | (obtain ⟨X, rfl⟩ := plus_again hb) | (obtain ⟨X, rfl⟩ := plus_of_below hb)); clear hb)
        refine bodyPost_ret (v := _) (results_tree3 Try.results52 _ _ (w.heap.size + 1 + 1) 0 zeroN (.slice none 0 0) _ _ rfl ?_ rfl rfl) rfl (by rw [hf.out]; exact ⟨_, _, rfl, OwnK.none_ rfl, OwnI.nil _ _, by (repeat' (first | (with_reducible exact Below.refl _ _) | (with_reducible assumption) | (with_reducible refine below_plus ?_ ?_ _) | (with_reducible refine Below.alloc ?_ ?_ _) | (with_reducible refine Below.drew ?_) | (with_reducible refine below_drewN ?_ _) | (with_reducible refine Below.setCell ?_ ?_ _) | (first | omega | (simp only [World.size_alloc, size_plus, World.size_drew, World.size_setCell] <;> omega) | (simp <;> omega)) | omega | (simp; omega)))⟩)
        (repeat' (first | (refine heap_alloc_here _ _ _ ?_; (first | omega | (simp only [World.size_alloc, size_plus, World.size_drew, World.size_setCell] <;> omega) | (simp <;> omega))) | (refine (heap_alloc_old _ _ _ ?_).trans ?_; (first | omega | (simp only [World.size_alloc, size_plus, World.size_drew, World.size_setCell] <;> omega) | (simp <;> omega))) | (refine (heap_plus _ _ _ ?_).trans ?_; (first | omega | (simp only [World.size_alloc, size_plus, World.size_drew, World.size_setCell] <;> omega) | (simp <;> omega))) | rfl))
      · have hbig : 1073741824 < size := by omega
        clear hs
        go_enter Try.func52, Try.ntmps52
        go_wp2_with (go_at_call 41; (with_reducible refine (HCK.out _ _ ?_).mono ?_); exact HR.out.keep (below_keeps (by (repeat' (first | (with_reducible exact Below.refl _ _) | (with_reducible assumption) | (with_reducible refine below_plus ?_ ?_ _) | (with_reducible refine Below.alloc ?_ ?_ _) | (with_reducible refine Below.drew ?_) | (with_reducible refine below_drewN ?_ _) | (with_reducible refine Below.setCell ?_ ?_ _) | (first | omega | (simp only [World.size_alloc, size_plus, World.size_drew, World.size_setCell] <;> omega) | (simp <;> omega)) | omega | (simp; omega))))); rintro e w' ⟨rfl, hb⟩; (first | (obtain ⟨X, rfl⟩ := plus_again hb) | (obtain ⟨X, rfl⟩ := plus_of_below hb)); clear hb)
        refine bodyPost_ret (v := _) (results_tree3 Try.results52 _ _ (w.heap.size + 1 + 1) 0 zeroN (.slice none 0 0) _ _ rfl ?_ rfl rfl) rfl (by rw [hf.out]; exact ⟨_, _, rfl, OwnK.none_ rfl, OwnI.nil _ _, by (repeat' (first | (with_reducible exact Below.refl _ _) | (with_reducible assumption) | (with_reducible refine below_plus ?_ ?_ _) | (with_reducible refine Below.alloc ?_ ?_ _) | (with_reducible refine Below.drew ?_) | (with_reducible refine below_drewN ?_ _) | (with_reducible refine Below.setCell ?_ ?_ _) | (first | omega | (simp only [World.size_alloc, size_plus, World.size_drew, World.size_setCell] <;> omega) | (simp <;> omega)) | omega | (simp; omega)))⟩)
        (repeat' (first | (refine heap_alloc_here _ _ _ ?_; (first | omega | (simp only [World.size_alloc, size_plus, World.size_drew, World.size_setCell] <;> omega) | (simp <;> omega))) | (refine (heap_alloc_old _ _ _ ?_).trans ?_; (first | omega | (simp only [World.size_alloc, size_plus, World.size_drew, World.size_setCell] <;> omega) | (simp <;> omega))) | (refine (heap_plus _ _ _ ?_).trans ?_; (first | omega | (simp only [World.size_alloc, size_plus, World.size_drew, World.size_setCell] <;> omega) | (simp <;> omega))) | rfl))
    · have hf : Hid (truncP ht x size = ((((trT ht x size (eachL ht x (-1))).1 : Int), (trT ht x size (eachL ht x (-1))).2), trL ht x size (eachL ht x (-1)), 0)) := by rw [Hid, truncP, if_neg hc, if_neg hs]
      have s0 : 0 ≤ size := by omega
      have s1 : size ≤ 1073741824 := by omega
      clear hc hs
      refine (callsIn_wide (n := 3)).1 ?_
      refine callsIn_of_wp_marks Try.func52 rfl trivial ?_ rfl
      simp only [Try.ntmps52, List.size_toArray, List.length_cons, List.length_nil, Nat.reduceAdd, Nat.reduceSub, Array.replicate_succ, Array.replicate_zero, List.push_toArray, List.append_toArray, List.nil_append, List.cons_append]
      have h3 : (1 : Nat) ≤ 3 := by omega
      gi_wp2_with (first
        | (refine ⟨trivial, ?_⟩; gi_at_call 41; refine (callsIn_wide.2 (HCK.out _ _ ?_)).mono ?_; exact HR.out.keep (below_keeps (by (repeat' (first | (with_reducible exact Below.refl _ _) | (with_reducible assumption) | (with_reducible refine below_plus ?_ ?_ _) | (with_reducible refine Below.alloc ?_ ?_ _) | (with_reducible refine Below.drew ?_) | (with_reducible refine below_drewN ?_ _) | (with_reducible refine Below.setCell ?_ ?_ _) | (first | omega | (simp only [World.size_alloc, size_plus, World.size_drew, World.size_setCell] <;> omega) | (simp <;> omega)) | omega | (simp; omega))))); rintro e V1 ⟨rfl, hb⟩; (have hv1 : BxT w (cellsR ht x (.slice A x.n cap)) size V1 := ⟨(hb.block _ (by (first | omega | (simp only [World.size_alloc, size_plus, World.size_drew, World.size_setCell] <;> omega) | (simp <;> omega)))).trans (by (repeat' (first | (refine heap_alloc_here _ _ _ ?_; (first | omega | (simp only [World.size_alloc, size_plus, World.size_drew, World.size_setCell] <;> omega) | (simp <;> omega))) | (refine (heap_alloc_old _ _ _ ?_).trans ?_; (first | omega | (simp only [World.size_alloc, size_plus, World.size_drew, World.size_setCell] <;> omega) | (simp <;> omega))) | (refine (heap_plus _ _ _ ?_).trans ?_; (first | omega | (simp only [World.size_alloc, size_plus, World.size_drew, World.size_setCell] <;> omega) | (simp <;> omega))) | rfl))), (hb.block _ (by (first | omega | (simp only [World.size_alloc, size_plus, World.size_drew, World.size_setCell] <;> omega) | (simp <;> omega)))).trans (by (repeat' (first | (refine heap_alloc_here _ _ _ ?_; (first | omega | (simp only [World.size_alloc, size_plus, World.size_drew, World.size_setCell] <;> omega) | (simp <;> omega))) | (refine (heap_alloc_old _ _ _ ?_).trans ?_; (first | omega | (simp only [World.size_alloc, size_plus, World.size_drew, World.size_setCell] <;> omega) | (simp <;> omega))) | (refine (heap_plus _ _ _ ?_).trans ?_; (first | omega | (simp only [World.size_alloc, size_plus, World.size_drew, World.size_setCell] <;> omega) | (simp <;> omega))) | rfl))), (hb.block _ (by (first | omega | (simp only [World.size_alloc, size_plus, World.size_drew, World.size_setCell] <;> omega) | (simp <;> omega)))).trans (by (repeat' (first | (refine heap_alloc_here _ _ _ ?_; (first | omega | (simp only [World.size_alloc, size_plus, World.size_drew, World.size_setCell] <;> omega) | (simp <;> omega))) | (refine (heap_alloc_old _ _ _ ?_).trans ?_; (first | omega | (simp only [World.size_alloc, size_plus, World.size_drew, World.size_setCell] <;> omega) | (simp <;> omega))) | (refine (heap_plus _ _ _ ?_).trans ?_; (first | omega | (simp only [World.size_alloc, size_plus, World.size_drew, World.size_setCell] <;> omega) | (simp <;> omega))) | rfl)))⟩); (have hw1 : Below w.heap.size w V1 := (by (repeat' (first | (with_reducible exact Below.refl _ _) | (with_reducible assumption) | (with_reducible refine below_plus ?_ ?_ _) | (with_reducible refine Below.alloc ?_ ?_ _) | (with_reducible refine Below.drew ?_) | (with_reducible refine below_drewN ?_ _) | (with_reducible refine Below.setCell ?_ ?_ _) | (first | omega | (simp only [World.size_alloc, size_plus, World.size_drew, World.size_setCell] <;> omega) | (simp <;> omega)) | omega | (simp; omega))) : Below w.heap.size w _).trans (hb.mono (by (first | omega | (simp only [World.size_alloc, size_plus, World.size_drew, World.size_setCell] <;> omega) | (simp <;> omega))))); (have c31 : V1.cell? ⟨w.heap.size + 1, 0, none⟩ = some (.int .i64 size) := cell_of_row _ _ 0 _ _ _ hv1.len); have hl1 := lt_of_heap hv1.res; have HV1 := Lib.hid hv1; have HW1 := Lib.hid hw1; clear hb hv1 hw1)
        | (refine ⟨trivial, ?_⟩; gi_at_call 22; refine (callsIn_wide.2 (p_New _)).mono ?_; rintro e V2 ⟨rfl, hb⟩; (have hv2 := (HV1.out.go (below_alloc _ _)).go hb); (have hg2 := (hb.block V1.heap.size (by simp)).trans (heap_alloc_new _ _)); (have hw2 := HW1.out.trans ((by (repeat' (first | (with_reducible exact Below.refl _ _) | (with_reducible assumption) | (with_reducible refine below_plus ?_ ?_ _) | (with_reducible refine Below.alloc ?_ ?_ _) | (with_reducible refine Below.drew ?_) | (with_reducible refine below_drewN ?_ _) | (with_reducible refine Below.setCell ?_ ?_ _) | (first | omega | (simp only [World.size_alloc, size_plus, World.size_drew, World.size_setCell] <;> omega) | (simp <;> omega)) | omega | (simp; omega))) : Below w.heap.size V1 _).trans (hb.mono (by have := HW1.out.size; simp; omega)))); have d12 := row12 hv2.box; have hl2 := lt_of_heap hv2.res; have hz2 := hb.size; have HV2 := Lib.hid hv2; have HG2 := Lib.hid hg2; have HW2 := Lib.hid hw2; clear hb hv2 hg2 hw2)
        | ((with_reducible refine wpListIn_storeR (.tmp 9) (.tmp 27) ?_ ?_ V2.heap.size ?_ 0 zeroN none 0 0 ?_ _ _ (heap_alloc_new _ _) rfl ?_); (with_reducible rfl); rfl; rfl; rfl; generalize hV3 : World.setRow (World.alloc V2 _) _ _ = V3; (have hb3 : Below V2.heap.size V2 V3 := by rw [← hV3]; exact below_setRow (below_alloc _ _) (Nat.le_refl _) _); (have hg3 : V3.heap[V2.heap.size]? = some (.cells (cellsR 0 zeroN (.slice none 0 0)) 28 (0, 0)) := by rw [← hV3]; exact setRow_heap _ _ _ _ _ _ (heap_alloc_new _ _)); have hv3 := HV2.out.go hb3; have d13 := row12 hv3.box; have hl3 := lt_of_heap hv3.res; (have hlz : V1.heap.size < V2.heap.size := by simp at hz2; omega); (have htr : TrS w V1.heap.size V2.heap.size [] (.slice none 0 0) (0, zeroN) none 0 (fun _ => False) V3 := ⟨(hb3.block _ hlz).trans HG2.out, OwnI.nil _ _, ⟨hg3, OwnK.none_ rfl, id⟩, fun _ h => h.elim, hlz, HW1.out.size, HW2.out.trans (hb3.mono HW2.out.size)⟩); have HTR := Lib.hid htr; have HV3 := Lib.hid hv3; clear hb3 hg3 htr hv3 hV3 d12)
        | (refine ⟨trivial, ?_⟩; gi_at_call 90; refine (callsIn_wide.2 (c_entries _ rfl _)).mono ?_; rintro e w' ⟨rfl, rfl⟩))
      clear d13 c31 hl2 hz2 HV1 HV2 HW1 HW2 HG2
      have hg3 := HTR.out.tree.lt
      have hTR := HTR.out.go (below_alloc V3 (.cells (cellsR ht x (.slice A x.n cap)) 28))
      have hBX := HV3.out.go (below_alloc V3 (.cells (cellsR ht x (.slice A x.n cap)) 28))
      clear HTR HV3
      generalize V1.heap.size = gl at *
      generalize V2.heap.size = g at *
      have hfp : FpOk (fpT w.heap.size gl g) w.heap.size (g + 1) := fpT_ok (by omega) hlz (by omega)
      have HSZ : Hid (w.heap.size + 3 ≤ gl ∧ gl < g ∧ g < V3.heap.size) := ⟨by omega, hlz, hg3⟩
      apply wpIn_rangeFunc_ownG rfl (by omega) (gf := 107) (lb := #[.pointer (some ⟨V3.heap.size, 0, none⟩)]) rfl trivial (enters_of Try.func107 (by kernel_rfl) rfl)
        (ents_stops A cap ht x w (V3.alloc (.cells (cellsR ht x (.slice A x.n cap)) 28)) (fpT w.heap.size gl g) (g + 1) _ HR.out hTR.below (heap_alloc_new _ _) ?fpB hfp ?fpLt (by simp; omega) _ (by omega)) KeepF.trans (fun V l o o' hl h hc _ => KeepF.put hfp (by omega) V l o o' (by simp at hl; omega) h hc) (Below.refl _ _) (fun _ => rfl)
        (fun pre W => (∃ v A' cap' S, TrS w gl g (trL ht x size (idxV pre)) v (trT ht x size (idxV pre)) A' cap' S W) ∧ BxT w (cellsR ht x (.slice A x.n cap)) size W)
        (fun c pre W => False)
        (fun s W W' rw hs hg hr => ⟨by obtain ⟨v, A', cap', S, h1⟩ := hs.1; exact ⟨v, A', cap', S, h1.kept hg (fun r e => by have := (hr r e).1; simp at this; omega) fun r e => (hr r e).2⟩, hs.2.kept hg fun r e => (hr r e).2⟩) (fun c s V V' rw hs _ _ => hs) ⟨⟨_, _, _, _, hTR⟩, hBX⟩ _
      case fpB =>
        intro h
        rcases hTR.fp h with e | e | e
        · omega
        · cases e
        · omega
      case fpLt =>
        intro b h
        rcases hTR.fp h with e | e | e
        · simp; omega
        · cases e
        · simp; omega
      case hassign =>
        intro l i W K hK
        dsimp only [ixV]
        gi_wp2
        exact hK
      case hbody =>
        rintro l pre i W ⟨⟨v, A', cap', S, htr⟩, hbx⟩ hlen
        have hbd := each_at i.2
        have b0 : -9223372036854775808 ≤ i.1 := by omega
        have b1 : i.1 ≤ 9223372036854775807 := by omega
        have hvb := HV.out i.1
        have c3 : W.cell? ⟨w.heap.size + 1, 0, none⟩ = some (.int .i64 size) := cell_of_row _ _ 0 _ _ _ hbx.len
        have hl3' := lt_of_heap hbx.res
        have htl := trL_snoc ht x size (idxV pre) i.1
        have htt := trT_snoc ht x size (idxV pre) i.1
        rw [← idxV_snoc] at htl htt
        by_cases hsi : size ≤ i.1
        · have hnt : Hid (trT ht x size (idxV (pre ++ [i])) = trT ht x size (idxV pre)) := by rw [Hid, htt, trS, if_pos hsi]
          rw [if_pos hsi] at htl
          by_cases h0 : 0 < getP ht x i.1
          · have hnl : Hid (trL ht x size (idxV (pre ++ [i])) = trL ht x size (idxV pre) ++ [getP ht x i.1 - 1]) := by rw [Hid, htl, if_pos h0]
            obtain ⟨A0, cap0, rfl, -, -⟩ := htr.list.slice
            have hll : (trL ht x size (idxV pre)).length ≤ 1073741824 := by
              have := trL_len ht x size (idxV pre)
              have := len_each ht x
              rw [idxV_len] at *
              omega
            have rc : W.cell? ⟨gl, 0, none⟩ = some (.slice A0 (trL ht x size (idxV pre)).length cap0) := cell_of_row _ _ 0 _ _ _ htr.lbox
            have hgl := lt_of_heap htr.lbox
            have hgl' : g + 1 ≤ W.heap.size := htr.tree.lt
            have HTR := Lib.hid htr
            have HBX := Lib.hid hbx
            clear htr hbx htl htt hTR hBX
            generalize trL ht x size (idxV pre) = lf at *
            generalize trT ht x size (idxV pre) = t at *
            generalize getP ht x i.1 = vv at *
            gi_wp2_with (gi_at_builtin; (with_reducible refine wpListIn_appendI ?_ (.tmp 37) (.tmp 40) ?_ (g + 1) lf _ ?_ HTR.out.list (vv - 1) _ ?_ hgl' hll ?_); rfl; (with_reducible rfl); rfl; rfl; (intro v2 W2 ha); (obtain ⟨A2, cap2, rfl, -, -⟩ := ha.own.slice); (have hg2 : W2.heap[gl]? = _ := (ha.far gl (by simp; omega) fun e => by have := HTR.out.list.base_ _ e; have := HTR.out.order; omega).trans ((Below.heap_alloc _ _ _ hgl).trans HTR.out.lbox)); (have rc2 : W2.cell? ⟨gl, 0, none⟩ = _ := cell_of_row _ _ 0 _ _ _ hg2); (have rf2 : W2.frozen? ⟨gl, 0, none⟩ = false := frozen_of_row _ _ _ _ _ hg2); have HA := Lib.hid ha; clear ha hg2)
            obtain ⟨k1, k2, k3, k4⟩ := HTR.out.app HA.out
            rw [show (lf ++ [vv - 1]).length = lf.length + 1 by simp] at k1 k2 k3 k4
            have hn3 := HSZ.out
            exact ⟨k4 _, k2, by rw [hnl.out, hnt.out]; exact ⟨_, _, _, _, k1⟩, HBX.out.far fun k hk => k3 k (by omega) (by omega) (fun e => by have := HTR.out.list.base_ _ e; omega)⟩
          · have hnl : Hid (trL ht x size (idxV (pre ++ [i])) = trL ht x size (idxV pre)) := by rw [Hid, htl, if_neg h0]
            have HTR := Lib.hid htr
            have HBX := Lib.hid hbx
            clear htr hbx htl htt hTR hBX
            gi_wp2
            exact ⟨KeepsFrom.refl _ _, KeepF.refl _ _ _, by rw [hnl.out, hnt.out]; exact ⟨v, A', cap', S, HTR.out⟩, HBX.out⟩
        · have hnl : Hid (trL ht x size (idxV (pre ++ [i])) = trL ht x size (idxV pre)) := by rw [Hid, htl, if_neg hsi]
          obtain ⟨n, hn⟩ : ∃ n : Nat, i.1 = n := ⟨i.1.toNat, by omega⟩
          have hn30 : n < 1073741824 := by omega
          have hnz : getP ht x n ≠ 0 := by rw [← hn]; simpa using hbd.2.2.2.2.1
          have hnt : Hid (trT ht x size (idxV (pre ++ [i])) = trK ht x (trT ht x size (idxV pre)) n 2) := by rw [Hid, htt, trS, if_neg hsi, hn]; rfl
          have hok : okT (trT ht x size (idxV pre)).1 (trT ht x size (idxV pre)).2 := trT_ok _ _ okT_zero fun j hj => by
            obtain ⟨i', -, rfl⟩ := List.mem_map.1 hj
            exact i'.2
          have HTG : Hid (∀ (tag : Int) cs W, RdVals W cs 12 (encR ht x) → Calls Try.prog 29 #[.agg cs, .int .i64 n, .int .i64 tag] W fun e w' => e = .returned (.bool (taggedP ht x n tag)) ∧ Below W.heap.size W w') := fun tag cs W h => p_Tagged cs ht x n tag W h (by omega) (by omega)
          rw [hn] at b0 b1 hvb hsi
          have HN := Lib.hid hn
          generalize trL ht x size (idxV pre) = lf at *
          generalize htT : trT ht x size (idxV pre) = t at *
          have HK := fun (k : Nat) (hk : k ≤ 2) => trK_ok (ht0 := ht) (x0 := x) hok hn30 hnz k hk
          have HKOK : Hid (∀ (k : Nat), k ≤ 2 → okT (trK ht x t n k).1 (trK ht x t n k).2 ∧ (tl (trK ht x t n k).1 (trK ht x t n k).2 n).1 = getP ht x n) := HK
          have hmk := step_ok hok hn30 (getP ht x n)
          have HSET : Hid (∀ cs W, RdVals W cs 12 (encR t.1 t.2) → Calls Try.prog 24 #[.agg cs, .int .i64 n, .int .i64 (getP ht x n)] W (TreePost (((trK ht x t n 0).1 : Int), (trK ht x t n 0).2, 0) W)) := fun cs W hr => by
            have := p_Set cs t.1 t.2 n (getP ht x n) W hr
            rw [hmk.2.2] at this
            exact this
          have HMARK : Hid (∀ (k : Nat), k < 2 → taggedP ht x n k = true → ∀ cs W, RdVals W cs 12 (encR (trK ht x t n k).1 (trK ht x t n k).2) → Calls Try.prog 31 #[.agg cs, .int .i64 n, .int .i64 (k : Int)] W (TreePost (((trK ht x t n (k + 1)).1 : Int), (trK ht x t n (k + 1)).2, 0) W)) := fun k hk hg cs W hr => by
            have h1 := HK k (by omega)
            have hm := mark_step h1.1 hn30 k hk true (by rw [h1.2]; exact hnz)
            have := p_Tag cs (trK ht x t n k).1 (trK ht x t n k).2 n k W hr (by omega) (by omega)
            rw [hm.2.2] at this
            have e : trK ht x t n (k + 1) = ((trK ht x t n k).1, updN (markLeaf k true) n ((trK ht x t n k).1 - 1) (trK ht x t n k).2) := by show mkS ht x n k (trK ht x t n k) = _; rw [mkS, if_pos hg]
            rw [e]
            exact this
          have HSKIP : Hid (∀ (k : Nat), taggedP ht x n k = false → trK ht x t n (k + 1) = trK ht x t n k) := fun k hg => by show mkS ht x n k (trK ht x t n k) = _; rw [mkS, if_neg (by rw [hg]; decide)]
          have HTR := Lib.hid htr
          have HBX := Lib.hid hbx
          have HTC := Lib.hid htr.tree.cells
          have HTRD := Lib.hid htr.tree.rd
          clear htr hbx htl htt hTR hBX hmk HK hok hbd hnz
          generalize hgv : getP ht x n = gv at *
          generalize hu0 : trK ht x t n 0 = u0 at HSET
          gi_wp2_with (first
            | ((with_reducible refine wpListIn_loadR (.tmp 9) ?_ ?_ g ?_ t.1 t.2 (.slice A' t.2.n cap') ?_ ?_); (with_reducible rfl); rfl; rfl; exact HTC.out)
            | (refine ⟨trivial, ?_⟩; gi_at_call 24; refine (CallsIn.inRound l (callsIn_wide.2 (HSET.out _ _ HTRD.out))).mono ?_; rintro e9 W1 ⟨s1, rfl, ho1, hb1⟩; (obtain ⟨A1, cap1, rfl, -⟩ := ho1.slice); have HO1 := Lib.hid ho1; have HB1 := Lib.hid hb1; (have HG1 := Lib.hid ((HTR.out.go hb1).tree.blk)); clear ho1 hb1)
            | ((with_reducible refine wpListIn_storeR (.tmp 9) (.tmp 47) ?_ ?_ g ?_ (u0.1 : Int) u0.2 A1 u0.2.n cap1 ?_ _ _ HG1.out rfl ?_); (with_reducible rfl); rfl; rfl; rfl; generalize hW2 : World.setRow W1 _ _ = W2; (obtain ⟨S2, k1, k2, k3, k4⟩ : ∃ S2, TrS w gl g lf v u0 A1 cap1 S2 W2 ∧ KeepF (fpT w.heap.size gl g) w.heap.size W W2 ∧ (∀ k, k < W.heap.size → k ≠ g → W2.heap[k]? = W.heap[k]?) ∧ ∀ B', KeepsFrom B' W W2 := by rw [← hW2]; exact HTR.out.store HB1.out HO1.out); have HT2 := Lib.hid k1; have HK2 := Lib.hid k2; have HF2 := Lib.hid k4; (have HX2 := Lib.hid (HBX.out.far fun k hk => k3 k (by have := HSZ.out; omega) (by have := HSZ.out; omega))); clear k1 k2 k3 k4 hW2))
          have hg2 := HT2.out.tree.lt
          have hw2 := HT2.out.below.size
          have hord := HSZ.out
          have hba : Below W2.heap.size W2 (W2.alloc (.cells #[.int .i64 0, .int .i64 1] 3)) := below_alloc _ _
          have ht0 : ∃ A c S, TrS w gl g lf v (trK ht x t n 0) A c S (W2.alloc (.cells #[.int .i64 0, .int .i64 1] 3)) := ⟨_, _, _, by rw [hu0]; exact HT2.out.go hba⟩
          have hk0 := HK2.out.trans (KeepF.of_below hfp hw2 hg2 hba)
          have hf0 : ∀ B, KeepsFrom B W (W2.alloc (.cells #[.int .i64 0, .int .i64 1] 3)) := fun B => (HF2.out B).trans (keepsFrom_below hba)
          have hx0 := HX2.out.go hba
          have hq0 : (W2.alloc (.cells #[.int .i64 0, .int .i64 1] 3)).heap[W2.heap.size]? = some (.cells #[.int .i64 0, .int .i64 1] 3 (0, 0)) := heap_alloc_new _ _
          have HQG : Hid (W2.heap.size ≠ g) := fun e => by omega
          clear HTR HBX HTC HTRD HSET HO1 HB1 HG1 HT2 HK2 HF2 HX2 hba c3 hl3' hl3
          gi_loopw [51] (fun idx wr => ∃ k : Nat, k ≤ 2 ∧ idx = .int .i64 k ∧ (∃ A c S, TrS w gl g lf v (trK ht x t n k) A c S wr) ∧ KeepF (fpT w.heap.size gl g) w.heap.size W wr ∧ (∀ B, KeepsFrom B W wr) ∧ BxT w (cellsR ht x (.slice A x.n cap)) size wr ∧ wr.heap[W2.heap.size]? = some (.cells #[.int .i64 0, .int .i64 1] 3 (0, 0))) (fun idx _ => 2 - (intOf idx).toNat)
          case atStart => exact ⟨0, by omega, rfl, ht0, hk0, hf0, hx0, hq0⟩
          case round =>
            obtain ⟨k, hk, rfl, ⟨A5, c5, S5, htr⟩, hkf, hksf, hbx, hq⟩ := hrel
            clear ht0 hk0 hf0 hx0 hq0
            rcases Nat.lt_or_ge k 2 with hk2 | hk2
            · have hk2' : (k : Int) < 2 := by omega
              have ck : wr.cell? ⟨W2.heap.size, k, none⟩ = some (.int .i64 (k : Int)) := by
                rw [cell_of_row _ _ _ _ _ _ hq]
                have : k = 0 ∨ k = 1 := by omega
                rcases this with rfl | rfl <;> rfl
              have hlq := lt_of_heap hq
              have d12 := row12 hbx.box
              have hlB := lt_of_heap hbx.box
              have HBW : Hid (Below w.heap.size w wr) := htr.below
              cases hy : taggedP ht x n k
              · have HT5 : Hid (TrS w gl g lf v (trK ht x t n (k + 1)) A5 c5 S5 wr) := by rw [HSKIP.out k hy]; exact htr
                have HKF := Lib.hid hkf
                have HKS := Lib.hid hksf
                have HBX := Lib.hid hbx
                have HQ := Lib.hid hq
                have hgw := htr.tree.lt
                clear htr hkf hksf hbx hq
                gi_wp2_with (refine ⟨trivial, ?_⟩; gi_at_call 29; refine (CallsIn.inRound l (callsIn_wide.2 (HTG.out _ _ _ ?_))).mono ?_; exact HR.out.keep (below_keeps HBW.out); rintro e5 V5 ⟨rfl, hb5⟩; have HB5 := Lib.hid hb5; clear hb5)
                go_roundw
                case rel => exact ⟨k + 1, by omega, by go_num, ⟨_, _, _, HT5.out.go HB5.out⟩, HKF.out.trans (KeepF.of_below hfp HBW.out.size hgw HB5.out), fun B => (HKS.out B).trans (keepsFrom_below HB5.out), HBX.out.go HB5.out, (HB5.out.block _ hlq).trans HQ.out⟩
                case measure => simp [intOf]; omega
              · have HTAG := Lib.hid (HMARK.out k hk2 hy)
                have HT5 := Lib.hid htr
                have HKF := Lib.hid hkf
                have HKS := Lib.hid hksf
                have HBX := Lib.hid hbx
                have HQ := Lib.hid hq
                have hgw := htr.tree.lt
                clear htr hkf hksf hbx hq
                generalize hu1 : trK ht x t n (k + 1) = u1 at HTAG
                generalize trK ht x t n k = uk at *
                gi_wp2_with (first
                  | (refine ⟨trivial, ?_⟩; gi_at_call 29; refine (CallsIn.inRound l (callsIn_wide.2 (HTG.out _ _ _ ?_))).mono ?_; exact HR.out.keep (below_keeps HBW.out); rintro e5 V5 ⟨rfl, hb5⟩; have HB5 := Lib.hid hb5; (have HT6 := Lib.hid (HT5.out.go hb5)); (have HTC6 := Lib.hid (HT5.out.go hb5).tree.cells); clear hb5)
                  | ((with_reducible refine wpListIn_loadR (.tmp 9) ?_ ?_ g ?_ uk.1 uk.2 (.slice A5 uk.2.n c5) ?_ ?_); (with_reducible rfl); rfl; rfl; exact HTC6.out)
                  | (refine ⟨trivial, ?_⟩; gi_at_call 31; refine (CallsIn.inRound l (callsIn_wide.2 (HTAG.out _ _ HT6.out.tree.rd))).mono ?_; rintro e9 V7 ⟨s7, rfl, ho7, hb7⟩; (obtain ⟨A7, cap7, rfl, -⟩ := ho7.slice); have HO7 := Lib.hid ho7; have HB7 := Lib.hid hb7; (have HG7 := Lib.hid ((HT6.out.go hb7).tree.blk)); clear ho7 hb7)
                  | ((with_reducible refine wpListIn_storeR (.tmp 9) (.tmp 64) ?_ ?_ g ?_ (u1.1 : Int) u1.2 A7 u1.2.n cap7 ?_ _ _ HG7.out rfl ?_); (with_reducible rfl); rfl; rfl; rfl; generalize hW8 : World.setRow V7 _ _ = W8; (obtain ⟨S8, k1, k2, k3, k4⟩ : ∃ S8, TrS w gl g lf v u1 A7 cap7 S8 W8 ∧ KeepF (fpT w.heap.size gl g) w.heap.size V5 W8 ∧ (∀ k, k < V5.heap.size → k ≠ g → W8.heap[k]? = V5.heap[k]?) ∧ ∀ B', KeepsFrom B' V5 W8 := by rw [← hW8]; exact HT6.out.store HB7.out HO7.out); have HT8 := Lib.hid k1; have HK8 := Lib.hid k2; have HR8 := Lib.hid k3; have HF8 := Lib.hid k4; clear k1 k2 k3 k4 hW8))
                go_roundw
                case rel =>
                  refine ⟨k + 1, by omega, by go_num, ⟨_, _, _, by rw [hu1]; exact HT8.out⟩, (HKF.out.trans (KeepF.of_below hfp HBW.out.size hgw HB5.out)).trans HK8.out, fun B => ((HKS.out B).trans (keepsFrom_below HB5.out)).trans (HF8.out B), (HBX.out.go HB5.out).far fun j hj => HR8.out j (by have := HB5.out.size; omega) (by omega), ?_⟩
                  exact (HR8.out _ (Nat.lt_of_lt_of_le hlq HB5.out.size) HQG.out).trans ((HB5.out.block _ hlq).trans HQ.out)
                case measure => simp [intOf]; omega
            · obtain rfl : k = 2 := by omega
              have HT5 := Lib.hid htr
              have HKF := Lib.hid hkf
              have HKS := Lib.hid hksf
              have HBX := Lib.hid hbx
              clear htr hkf hksf hbx hq
              gi_wp2
              exact ⟨HKS.out _, HKF.out, by rw [hnl.out, hnt.out]; exact ⟨_, _, _, _, HT5.out⟩, HBX.out⟩
      case hdone =>
        rintro D ys W hD hys ⟨⟨v, A', cap', S, htr⟩, hbx⟩ hK
        have hys' : idxV ys = eachL ht x (-1) := hys
        rw [hys'] at htr
        have hf2 : Hid (truncP ht x size = ((((trT ht x size (eachL ht x (-1))).1 : Int), (trT ht x size (eachL ht x (-1))).2), trL ht x size (eachL ht x (-1)), 0)) := hf.out
        clear hf hys hys'
        generalize trL ht x size (eachL ht x (-1)) = lf at *
        generalize trT ht x size (eachL ht x (-1)) = t at *
        have rl : W.cell? ⟨gl, 0, none⟩ = some v := cell_of_row _ _ 0 _ _ _ htr.lbox
        obtain ⟨A0, cap0, rfl, -, -⟩ := htr.list.slice
        have dt := row12 htr.tree.blk
        have dr := row12 hbx.res
        have hgl := lt_of_heap htr.lbox
        have hg := htr.tree.lt
        have hgr := lt_of_heap hbx.res
        have HTR := Lib.hid htr
        have HBX := Lib.hid hbx
        have HK := Lib.hid hK
        clear htr hbx hK hTR hBX hl3
        gi_wp2
        refine wpIn_wide.2 ?_
        apply wp_exact (W1 := W.drew.setRow (w.heap.size + 1 + 1) (cellsR t.1 t.2 (.slice A' t.2.n cap')))
        case h1 =>
          refine wp_region_G (fun W' => (∀ j u, (cellsR t.1 t.2 (.slice A' t.2.n cap')).toList[j]? = some u → W'.cell? ⟨g, j, none⟩ = some u) ∧ W'.cell? ⟨gl, 0, none⟩ = some (.slice A0 lf.length cap0)) [3, 4] (by kernel_rfl) ?_
          have hS : (∀ j u, (cellsR t.1 t.2 (.slice A' t.2.n cap')).toList[j]? = some u → W.drew.cell? ⟨g, j, none⟩ = some u) ∧ W.drew.cell? ⟨gl, 0, none⟩ = some (.slice A0 lf.length cap0) := ⟨fun j u hj => HTR.out.tree.cells j u hj, rl⟩
          refine wpAnyG_take (i := 0) (v := .agg (cellsR t.1 t.2 (.slice A' t.2.n cap'))) rfl (by kernel_rfl) (by kernel_rfl) (by kernel_rfl) (by kernel_rfl) (by kernel_rfl) (fun _ _ _ h => absurd h.1 (by intro e; cases e)) (Or.inl ⟨by rfl, fun W hW => run_loadR (.tmp 9) rfl g rfl _ _ _ hW.1⟩) hS ?_
          try simp only [Act.put, List.setIfInBounds_toArray, List.set_cons_zero, List.set_cons_succ]
          refine wpAnyG_take (i := 1) (v := .slice A0 lf.length cap0) rfl (by kernel_rfl) (by kernel_rfl) (by kernel_rfl) (by kernel_rfl) (by kernel_rfl) (fun _ _ _ h => absurd h.1 (by intro e; cases e)) (Or.inl ⟨by rfl, ?_⟩) hS ?_
          · intro W hW
            have hc := hW.2
            clear hW hS
            go_simp
          try simp only [Act.put, List.setIfInBounds_toArray, List.set_cons_zero, List.set_cons_succ]
          refine wpAnyG_one (i := 2) (by kernel_rfl) rfl (fun K' hK => ?_)
          rw [if_pos (by kernel_rfl)]
          refine wp_store_row 28 (.tmp 4) (.tmp 67) rfl (w.heap.size + 1 + 1) (cellsR t.1 t.2 (.slice A' t.2.n cap')) rfl rfl 28 _ HBX.out.res sizeR (by rfl) (by simp [cellsR]; exact ⟨rfl, rfl, rfl, rfl, rfl, rfl, rfl, rfl, rfl, rfl, rfl, rfl⟩) ?_
          have hS2 : (∀ j u, (cellsR t.1 t.2 (.slice A' t.2.n cap')).toList[j]? = some u → (W.drew.setRow (w.heap.size + 1 + 1) (cellsR t.1 t.2 (.slice A' t.2.n cap'))).cell? ⟨g, j, none⟩ = some u) ∧ (W.drew.setRow (w.heap.size + 1 + 1) (cellsR t.1 t.2 (.slice A' t.2.n cap'))).cell? ⟨gl, 0, none⟩ = some (.slice A0 lf.length cap0) :=
            ⟨fun j u hj => (World.cell?_of_block (setRow_other _ _ _ _ (by show g ≠ w.heap.size + 1 + 1; omega))).trans (hS.1 j u hj), (World.cell?_of_block (setRow_other _ _ _ _ (by show gl ≠ w.heap.size + 1 + 1; omega))).trans hS.2⟩
          refine hK _ _ (fun _ _ => hS2) ?_
          clear hK K'
          try simp only [Act.put, List.setIfInBounds_toArray, List.set_cons_zero, List.set_cons_succ]
          refine wpAnyG_one (i := 3) (by kernel_rfl) rfl (fun K' hK => ?_)
          have HKK := Lib.hid hK
          clear hK
          go_simp
          refine HKK.out _ _ (fun h _ => absurd h (by decide)) ?_
          clear HKK K'
          try simp only [Act.put, List.setIfInBounds_toArray, List.set_cons_zero, List.set_cons_succ]
          refine wpAnyG_one (i := 4) (by kernel_rfl) rfl (fun K' hK => ?_)
          have HKK := Lib.hid hK
          clear hK
          go_simp
          refine HKK.out _ _ (fun h _ => absurd h (by decide)) ?_
          clear HKK K'
          try simp only [Act.put, List.setIfInBounds_toArray, List.set_cons_zero, List.set_cons_succ]
          exact wpAnyG_done (by kernel_rfl) ⟨rfl, rfl, rfl⟩ _
        case h2 =>
          have HD : Hid (W.heap.size ≤ W.heap.size ∧ g < D) := ⟨Nat.le_refl _, by simp at hD; omega⟩
          gi_wp2
          have hKD : (W.drew.setRow (w.heap.size + 1 + 1) (cellsR t.1 t.2 (.slice A' t.2.n cap'))).heap[D]? = some (.deferred (some [])) := (setRow_other _ _ _ _ (by have := HD.out.2; omega)).trans HK.out
          refine ⟨by simp, .inl ⟨_, _, rfl, run_takeDeferred hKD, ?_⟩⟩
          have hrow := setRow_heap W.drew (w.heap.size + 1 + 1) _ (cellsR t.1 t.2 (.slice A' t.2.n cap')) _ _ HBX.out.res
          have hres := heap_kept hrow (grownBy_putObj' _ D (.deferred none)) (fun r e => by cases e; exact ⟨_, hKD, rfl⟩)
          refine ⟨_, results_tree3 Try.results52 _ _ (w.heap.size + 1 + 1) t.1 t.2 (.slice A' t.2.n cap') _ _ rfl hres rfl rfl, ?_⟩
          rw [hf2.out]
          have hfar : ∀ q, q ≠ w.heap.size + 1 + 1 → q ≠ D → ((W.drew.setRow (w.heap.size + 1 + 1) (cellsR t.1 t.2 (.slice A' t.2.n cap'))).putObj D (.deferred none)).heap[q]? = W.heap[q]? := fun q h1 h2 => by
            rcases Nat.lt_or_ge q (W.drew.setRow (w.heap.size + 1 + 1) (cellsR t.1 t.2 (.slice A' t.2.n cap'))).heap.size with h3 | h3
            · exact ((grownBy_putObj' _ D (.deferred none)).block q h3 (fun e => by cases e; exact h2 rfl)).trans (setRow_other _ _ _ _ h1)
            · have h4 : W.heap.size ≤ q := by simpa [size_setRow] using h3
              rw [Array.getElem?_eq_none (by simpa [World.putObj] using h3), Array.getElem?_eq_none h4]
          have hDn : ∀ cs ty fr q, W.heap[q]? = some (.cells cs ty fr) → q ≠ D := fun cs ty fr q hq e => by subst e; rw [HK.out] at hq; cases hq
          refine ⟨_, _, rfl, ?_, ?_, ?_⟩
          · refine OwnK.mono (OwnK.frame _ HTR.out.tree.own fun b hb _ => ?_) fun b hb => ?_
            · obtain ⟨⟨cs, hc⟩, h2, -⟩ := HTR.out.out b hb
              exact hfar b (by omega) (hDn _ _ _ _ hc)
            · have := (HTR.out.out b hb).2.1
              show w.heap.size ≤ b
              omega
          · refine OwnI.mono (base' := w.heap.size) (base := g + 1) ⟨HTR.out.list.1, ?_⟩ (by omega)
            rcases HTR.out.list.2 with h3 | ⟨q, cap2, cur, e1, e2, e3, e4⟩
            · exact .inl h3
            · exact .inr ⟨q, cap2, cur, e1, e2, (hfar q (by omega) (hDn _ _ _ _ e3)).trans e3, e4⟩
          · have hb1 : Below w.heap.size w (W.drew.setRow (w.heap.size + 1 + 1) (cellsR t.1 t.2 (.slice A' t.2.n cap'))) := below_setRow (Below.drew HTR.out.below) (by omega) _
            exact hb1.trans (belowK_b (w := w) (Nat.le_refl _) _ D _ _ (by have := HD.out.2; omega) hKD rfl rfl)
      case hstop =>
        rintro D c pre W hD hpre hf hK
        exact hf.elim
end Go.Proofs.Ytcicfijpfhbcaaa
