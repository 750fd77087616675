/-
  radix.update: what it needs of owned nodes.
-/
import Derived.Test.YtcicfijpfhbcaaaRf
import Derived.Test.YtcicfijpfhbcaaaRn
import Derived.Test.YtcicfijpfhbcaaaCl
import Derived.Test.YtcicfijpfhbcaaaPh
import Derived.Laws.CopyRow
namespace Go.Proofs.Ytcicfijpfhbcaaa
set_option linter.unusedSimpArgs false
set_option linter.unusedVariables false
set_option linter.unusedSectionVars false
open Go.RowKit

/-- The node x lies in the eleven cells from o on in block g; its children's blocks are of S, and g is not. -/
structure NodeIn (w : World) (g o : Nat) (t : TypeId) (cs : Array Value) (x : RN) (s : Value) (S : Nat → Prop) : Prop where
  blk : w.heap[g]? = some (.cells cs t (0, 0))
  fits : o + 11 ≤ cs.size
  row : ∀ j, j < 11 → cs[o + j]? = (cellsN x s)[j]?
  own : OwnK w x s S
  out : ¬ S g

theorem lt_of_heap {w : World} {g : Nat} {v : Obj} (h : w.heap[g]? = some v) : g < w.heap.size := by
  rcases Nat.lt_or_ge g w.heap.size with h1 | h1
  · exact h1
  · rw [Array.getElem?_eq_none h1] at h; cases h

/-- What is owned lies in blocks that are there. -/
theorem OwnK.frame' {w w' : World} (x : RN) : ∀ {s : Value} {S : Nat → Prop}, OwnK w x s S → (∀ b, S b → b < w.heap.size → w'.heap[b]? = w.heap[b]?) → OwnK w' x s (fun b => S b ∧ b < w.heap.size) := by
  induction x with
  | mk v t0 t1 n kid ih =>
    intro s S h hf
    rcases OwnK_iff.1 h with h0 | ⟨g, cap, cs, T, sk, h⟩
    · exact OwnK_iff.2 (.inl h0)
    · have hg := lt_of_heap h.blk
      refine OwnAt.own (T := fun i b => T i b ∧ b < w.heap.size) ⟨h.pos, h.le, h.max, h.val, (hf g h.mem hg).trans h.blk, ⟨h.mem, hg⟩, h.size, h.row, fun i hi => ?_, fun i hi b hb => ⟨⟨(h.sub i hi b hb.1).1, hb.2⟩, (h.sub i hi b hb.1).2⟩, fun i j b hi hj hbi hbj => h.apart i j b hi hj hbi.1 hbj.1⟩
      have hk := h.kid i hi
      have hi' : i < n := hi
      rw [RN.kid_mk _ _ _ _ _ _ hi'] at hk ⊢
      exact ih ⟨i, hi'⟩ hk fun b hb hl => hf b (h.sub i hi b hb).1 hl

theorem NodeIn.lt {w : World} {g o : Nat} {t : TypeId} {cs : Array Value} {x : RN} {s : Value} {S : Nat → Prop} (h : NodeIn w g o t cs x s S) : g < w.heap.size := lt_of_heap h.blk
theorem NodeIn.put {w : World} {g o : Nat} {t : TypeId} {cs : Array Value} {x : RN} {s : Value} {S : Nat → Prop} (h : NodeIn w g o t cs x s S) : RowPut w w g o t cs (cellsN x s) cs :=
  RowPut.start h.blk rfl h.fits h.row
theorem NodeIn.cell {w : World} {g o : Nat} {t : TypeId} {cs : Array Value} {x : RN} {s : Value} {S : Nat → Prop} (h : NodeIn w g o t cs x s S) {j : Nat} (hj : j < 11) : w.cell? ⟨g, o + j, none⟩ = (cellsN x s)[j]? := by
  rw [cell_of_row _ _ _ _ _ _ h.blk, h.row j hj]
theorem NodeIn.frozen {w : World} {g o : Nat} {t : TypeId} {cs : Array Value} {x : RN} {s : Value} {S : Nat → Prop} (h : NodeIn w g o t cs x s S) (j : Nat) : w.frozen? ⟨g, j, none⟩ = false := frozen_of_row w g j cs t h.blk
theorem NodeIn.cells {w : World} {g o : Nat} {t : TypeId} {cs : Array Value} {x : RN} {s : Value} {S : Nat → Prop} (h : NodeIn w g o t cs x s S) : ∀ j v, (cellsN x s).toList[j]? = some v → w.cell? ⟨g, o + j, none⟩ = some v := by
  intro j v hj
  have h1 : j < 11 := by
    rcases Nat.lt_or_ge j 11 with h2 | h2
    · exact h2
    · rw [List.getElem?_eq_none (by rw [Array.length_toList]; exact h2)] at hj; cases hj
  rw [h.cell h1]
  simpa using hj
theorem NodeIn.below {w w' : World} {g o : Nat} {t : TypeId} {cs : Array Value} {x : RN} {s : Value} {S : Nat → Prop} (h : NodeIn w g o t cs x s S) (hb : Below w.heap.size w w') : NodeIn w' g o t cs x s S :=
  ⟨by rw [hb.block g h.lt]; exact h.blk, h.fits, h.row, h.own.frame _ fun b _ hl => hb.block b hl, h.out⟩

/-- What a change of the node leaves. -/
structure Turn (w w' : World) (g o : Nat) (t : TypeId) (cs : Array Value) (S : Nat → Prop) (y : RN) (cs' : Array Value) (s' : Value) (S' : Nat → Prop) : Prop where
  node : NodeIn w' g o t cs' y s' S'
  size : cs'.size = cs.size
  out : ∀ j, j < o ∨ o + 11 ≤ j → cs'[j]? = cs[j]?
  mod : Mod (fun b => b = g ∨ S b) w w'
  sub : ∀ b, S' b → S b ∨ w.heap.size ≤ b
def Turned (w : World) (g o : Nat) (t : TypeId) (cs : Array Value) (S : Nat → Prop) (y : RN) (e : Ending) (w' : World) : Prop :=
  e = .returned (.tuple #[]) ∧ ∃ cs' s' S', Turn w w' g o t cs S y cs' s' S'

theorem RowPut.node {w w' : World} {g o : Nat} {t : TypeId} {cs cs' : Array Value} {y : RN} {s : Value} {S : Nat → Prop} (h : RowPut w w' g o t cs (cellsN y s) cs') (ho : OwnK w y s S) (hS : ¬ S g) : NodeIn w' g o t cs' y s S :=
  ⟨h.blk, by rw [h.len]; exact h.fits, h.inn, ho.frame _ fun b hb _ => h.oth b (fun e => hS (e ▸ hb)), hS⟩
theorem RowPut.mod {w w' : World} {g o : Nat} {t : TypeId} {cs cs' row : Array Value} (h : RowPut w w' g o t cs row cs') : Mod (fun b => b = g) w w' :=
  ⟨h.os, h.tape, h.output, by rw [h.size]; exact Nat.le_refl _, fun k _ hn => h.oth k hn⟩
theorem RowPut.turn {w w' : World} {g o : Nat} {t : TypeId} {cs cs' : Array Value} {y : RN} {s : Value} {S : Nat → Prop} (h : RowPut w w' g o t cs (cellsN y s) cs') (ho : OwnK w y s S) (hS : ¬ S g) : Turn w w' g o t cs S y cs' s S :=
  ⟨h.node ho hS, h.len, h.out, h.mod.mono fun _ _ e => .inl e, fun _ hb => .inl hb⟩

/-- Row d of the children's block turned: the node is owned, with the child in its place. -/
def setKid (x : RN) (d : Nat) (y : RN) : RN := match x with | .mk v t0 t1 n kid => .mk v t0 t1 n (fun i => if i.1 = d then y else kid i)
@[simp] theorem setKid_n (x : RN) (d : Nat) (y : RN) : (setKid x d y).n = x.n := by cases x; rfl
@[simp] theorem setKid_v (x : RN) (d : Nat) (y : RN) : (setKid x d y).v = x.v := by cases x; rfl
@[simp] theorem setKid_t0 (x : RN) (d : Nat) (y : RN) : (setKid x d y).t0 = x.t0 := by cases x; rfl
@[simp] theorem setKid_t1 (x : RN) (d : Nat) (y : RN) : (setKid x d y).t1 = x.t1 := by cases x; rfl
theorem setKid_cells (x : RN) (d : Nat) (y : RN) (s : Value) : cellsN (setKid x d y) s = cellsN x s := by cases x; rfl
theorem setKid_kid (x : RN) (d : Nat) (y : RN) (i : Nat) (hi : i < x.n) : (setKid x d y).kid i = if i = d then y else x.kid i := by
  cases x with
  | mk v t0 t1 n kid =>
    have hi' : i < n := hi
    unfold setKid
    rw [RN.kid_mk _ _ _ _ _ _ hi', RN.kid_mk _ _ _ _ _ _ hi']

theorem OwnAt.setKid {w w' : World} {x y : RN} {s sy : Value} {S Sy : Nat → Prop} {g cap d : Nat} {cs cs' : Array Value} {T : Nat → Nat → Prop} {sk : Nat → Value} (h : OwnAt w x s S g cap cs T sk) (hd : d < x.n)
    (hy : NodeIn w' g (d * 11) 26 cs' y sy Sy) (hsz : cs'.size = cs.size) (hout : ∀ j, j < d * 11 ∨ d * 11 + 11 ≤ j → cs'[j]? = cs[j]?) (hsub : ∀ b, Sy b → T d b ∨ w.heap.size ≤ b)
    (hmod : Mod (fun b => b = g ∨ T d b) w w') :
    OwnAt w' (setKid x d y) s (fun b => S b ∨ w.heap.size ≤ b) g cap cs' (fun i => if i = d then Sy else fun b => T i b ∧ b < w.heap.size) (fun i => if i = d then sy else sk i) := by
  have hlt : ∀ i, i < x.n → ∀ b, T i b → b < w.heap.size ∨ w.heap.size ≤ b := fun i _ b _ => Nat.lt_or_ge _ _
  have hgl := lt_of_heap h.blk
  refine ⟨by simp [h.pos], by simp [h.le], h.max, by rw [setKid_n]; exact h.val, hy.blk, .inl h.mem, by rw [hsz, h.size], fun i hi j hj => ?_, fun i hi => ?_, fun i hi b hb => ?_, fun i j b hi hj hbi hbj => ?_⟩
  · rw [setKid_n] at hi
    rw [setKid_kid _ _ _ _ hi]
    by_cases hid : i = d
    · subst hid; simp only [if_true]; exact hy.row j hj
    · simp only [if_neg hid]; rw [hout (i * 11 + j) (by omega)]; exact h.row i hi j hj
  · rw [setKid_n] at hi
    rw [setKid_kid _ _ _ _ hi]
    by_cases hid : i = d
    · subst hid; simp only [if_true]; exact hy.own
    · simp only [if_neg hid]
      refine OwnK.frame' _ (h.kid i hi) fun b hb hl => hmod.block b hl ?_
      rintro (rfl | hbd)
      · exact (h.sub i hi _ hb).2 rfl
      · exact hid (h.apart i d b hi hd hb hbd)
  · rw [setKid_n] at hi
    by_cases hid : i = d
    · subst hid
      simp only [if_true] at hb
      rcases hsub b hb with h1 | h1
      · exact ⟨.inl (h.sub i hi b h1).1, (h.sub i hi b h1).2⟩
      · exact ⟨.inr h1, by omega⟩
    · simp only [if_neg hid] at hb
      exact ⟨.inl (h.sub i hi b hb.1).1, (h.sub i hi b hb.1).2⟩
  · rw [setKid_n] at hi hj
    by_cases hid : i = d <;> by_cases hjd : j = d
    · omega
    · subst hid
      simp only [if_true] at hbi
      simp only [if_neg hjd] at hbj
      rcases hsub b hbi with h1 | h1
      · exact h.apart _ _ b hi hj h1 hbj.1
      · omega
    · subst hjd
      simp only [if_true] at hbj
      simp only [if_neg hid] at hbi
      rcases hsub b hbj with h1 | h1
      · exact h.apart _ _ b hi hj hbi.1 h1
      · omega
    · simp only [if_neg hid] at hbi
      simp only [if_neg hjd] at hbj
      exact h.apart _ _ b hi hj hbi.1 hbj.1
end Go.Proofs.Ytcicfijpfhbcaaa
