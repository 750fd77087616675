/-
  Lists of any element in blocks of their own.
-/
import Derived.Test.YtcicfijpfhbcaaaUp
import Derived.Test.YtcicfijpfhbcaaaOr2
import Derived.Test.YtcicfijpfhbcaaaUd
import Derived.Deep.AppendLies
namespace Go.Proofs.Ytcicfijpfhbcaaa
set_option linter.unusedSimpArgs false
set_option linter.unusedVariables false
set_option linter.unusedSectionVars false
open Go.RowKit

section
variable {α : Type} (τ : TypeId) (n : Nat) (fl : α → List Value)
/-- A list in a block of its own. -/
def OwnG (w : World) (base : Nat) (l : List α) (v : Value) : Prop := w.ownsRow base τ n v l.length (l.flatMap fl)
end
section
variable {α : Type} {τ : TypeId} {n : Nat} {fl : α → List Value}
theorem OwnG.nil (w : World) (base : Nat) : OwnG τ n fl w base [] (.slice none 0 0) := ⟨by simp, .inl ⟨rfl, rfl⟩⟩
theorem OwnG.slice {w : World} {base : Nat} {l : List α} {v : Value} (h : OwnG τ n fl w base l v) : ∃ A cap, v = .slice A l.length cap ∧ l.length ≤ cap ∧ cap ≤ maxLen := by
  rcases h.2 with ⟨h1, h2⟩ | ⟨g, cap, cur, h1, -, -, h4, h5, -⟩
  · exact ⟨none, 0, by rw [h1, h2], by omega, by decide⟩
  · exact ⟨_, _, h1, h4, h5⟩
theorem OwnG.keep {w w' : World} {base : Nat} {l : List α} {v : Value} (h : OwnG τ n fl w base l v) (hk : ∀ q, v.ownBlock = some q → q < w.heap.size → w'.heap[q]? = w.heap[q]?) : OwnG τ n fl w' base l v := by
  refine ⟨h.1, ?_⟩
  rcases h.2 with h1 | ⟨g, cap, cur, h1, h2, h3, h4⟩
  · exact .inl h1
  · exact .inr ⟨g, cap, cur, h1, h2, by rw [hk g (by rw [h1]; rfl) (lt_of_heap h3)]; exact h3, h4⟩
theorem OwnG.below {w w' : World} {base : Nat} {l : List α} {v : Value} (h : OwnG τ n fl w base l v) (hb : Below w.heap.size w w') : OwnG τ n fl w' base l v := h.keep fun q _ hl => hb.block q hl
theorem OwnG.mono {w : World} {base base' : Nat} {l : List α} {v : Value} (h : OwnG τ n fl w base l v) (hb : base' ≤ base) : OwnG τ n fl w base' l v := by
  refine ⟨h.1, ?_⟩
  rcases h.2 with h1 | ⟨g, cap, cur, h1, h2, h3, h4⟩
  · exact .inl h1
  · exact .inr ⟨g, cap, cur, h1, by omega, h3, h4⟩
theorem OwnG.base_ {w : World} {base : Nat} {l : List α} {v : Value} (h : OwnG τ n fl w base l v) : ∀ g, v.ownBlock = some g → base ≤ g := fun g hg => by
  rcases h.2 with ⟨h1, -⟩ | ⟨q, cap, cur, h1, h2, -⟩
  · rw [h1] at hg; cases hg
  · rw [h1] at hg
    have : q = g := by simpa [Value.ownBlock] using hg
    omega
theorem OwnG.lt {w : World} {base : Nat} {l : List α} {v : Value} (h : OwnG τ n fl w base l v) : ∀ q, v.ownBlock = some q → q < w.heap.size := fun q hq => by
  rcases h.2 with ⟨h1, -⟩ | ⟨g, cap, cur, h1, h2, h3, -⟩
  · rw [h1] at hq; cases hq
  · rw [h1] at hq
    have : g = q := by simpa [Value.ownBlock] using hq
    subst this
    exact lt_of_heap h3
theorem flat_get' (hn : ∀ a, (fl a).length = n) : ∀ (l : List α) (k j : Nat) (a : α), l[k]? = some a → j < n → (l.flatMap fl)[k * n + j]? = (fl a)[j]?
  | [], k, j, a, h, _ => by simp at h
  | b :: l, 0, j, a, h, hj => by
    have : b = a := by simpa using h
    subst this
    rw [List.flatMap_cons, List.getElem?_append_left (by rw [hn]; omega), Nat.zero_mul, Nat.zero_add]
  | b :: l, k + 1, j, a, h, hj => by
    have h' : l[k]? = some a := by simpa using h
    rw [List.flatMap_cons, List.getElem?_append_right (by rw [hn, Nat.succ_mul]; omega), hn, show (k + 1) * n + j - n = k * n + j by rw [Nat.succ_mul]; omega]
    exact flat_get' hn l k j a h' hj
theorem flat_set' (hn : ∀ a, (fl a).length = n) : ∀ (l : List α) (k j : Nat) (a a' : α) (u : Value), l[k]? = some a → j < n → (fl a).set j u = fl a' → (l.flatMap fl).set (k * n + j) u = (l.set k a').flatMap fl
  | [], k, j, a, a', u, h, _, _ => by simp at h
  | b :: l, 0, j, a, a', u, h, hj, he => by
    have : b = a := by simpa using h
    subst this
    rw [List.flatMap_cons, List.set_append_left _ _ (by rw [hn]; omega), Nat.zero_mul, Nat.zero_add, he]
    rfl
  | b :: l, k + 1, j, a, a', u, h, hj, he => by
    have h' : l[k]? = some a := by simpa using h
    rw [List.flatMap_cons, List.set_append_right _ _ (by rw [hn, Nat.succ_mul]; omega), hn, show (k + 1) * n + j - n = k * n + j by rw [Nat.succ_mul]; omega, flat_set' hn l k j a a' u h' hj he]
    rfl
theorem idx_lt {k n j m : Nat} (hk : k < m) (hj : j < n) : k * n + j < m * n := by
  have : (k + 1) * n ≤ m * n := Nat.mul_le_mul_right _ hk
  rw [Nat.succ_mul] at this
  omega
/-- Element k of a list: its cells, and that they may be written. -/
theorem OwnG.at (hn : ∀ a, (fl a).length = n) {w : World} {base : Nat} {l : List α} {v : Value} (h : OwnG τ n fl w base l v) {k : Nat} {a : α} (hk : l[k]? = some a) :
    ∃ g cap, v = .slice (some ⟨g, 0, none⟩) l.length cap ∧ base ≤ g ∧ g < w.heap.size ∧ (∀ j, j < n → w.cell? ⟨g, k * n + j, none⟩ = (fl a)[j]?) ∧ (∀ j, w.frozen? ⟨g, j, none⟩ = false) ∧
      ∀ j a' u, j < n → (fl a).set j u = fl a' → OwnG τ n fl (w.setCell ⟨g, k * n + j, none⟩ u) base (l.set k a') v := by
  have hlt : k < l.length := (List.getElem?_eq_some_iff.1 hk).1
  rcases h.2 with ⟨h1, h2⟩ | ⟨g, cap, cur, h1, h2, h3, h4, h5, h6, h7⟩
  · omega
  · refine ⟨g, cap, h1, h2, lt_of_heap h3, fun j hj => ?_, fun j => frozen_of_row _ _ _ _ _ h3, fun j a' u hj he => ?_⟩
    · rw [cell_of_row _ _ _ _ _ _ h3, ← flat_get' hn l k j a hk hj, ← h7, List.getElem?_take, if_pos (idx_lt hlt hj), Array.getElem?_toList]
    · refine ⟨?_, .inr ⟨g, cap, cur.setIfInBounds (k * n + j) u, by rw [h1, List.length_set], h2, heap_setCell_same _ _ _ _ _ _ h3, by rw [List.length_set]; exact h4, h5, by simp [h6], ?_⟩⟩
      · rw [← flat_set' hn l k j a a' u hk hj he, List.length_set, List.length_set]; exact h.1
      · rw [Array.toList_setIfInBounds, List.length_set, List.take_set, h7]
        exact flat_set' hn l k j a a' u hk hj he
theorem OwnG.at' (hn : ∀ a, (fl a).length = n) {w : World} {base : Nat} {l : List α} {g len cap : Nat} (h : OwnG τ n fl w base l (.slice (some ⟨g, 0, none⟩) len cap)) {k : Nat} {a : α} (hk : l[k]? = some a) :
    g < w.heap.size ∧ (∀ j, j < n → w.cell? ⟨g, k * n + j, none⟩ = (fl a)[j]?) ∧ (∀ j, w.frozen? ⟨g, j, none⟩ = false) ∧
      ∀ j a' u, j < n → (fl a).set j u = fl a' → OwnG τ n fl (w.setCell ⟨g, k * n + j, none⟩ u) base (l.set k a') (.slice (some ⟨g, 0, none⟩) len cap) := by
  obtain ⟨g', cap', h1, -, h2, h3, h4, h5⟩ := h.at hn hk
  injection h1 with e1 e2 e3
  have : g = g' := by simpa using e1
  subst this
  exact ⟨h2, h3, h4, h5⟩
theorem OwnG.block {w : World} {base : Nat} {l : List α} {v : Value} (h : OwnG τ n fl w base l v) (g len cap : Nat) (hv : v = .slice (some ⟨g, 0, none⟩) len cap) : ∃ cur, w.heap[g]? = some (.cells cur τ (0, 0)) ∧ l.length * n ≤ cur.size ∧ cur.toList.take (l.length * n) = l.flatMap fl := by
  rcases h.2 with ⟨h1, h2⟩ | ⟨q, cap', cur, h1, h2, h3, h4, h5, h6, h7⟩
  · rw [h1] at hv; cases hv
  · rw [h1] at hv
    injection hv with e1 e2 e3
    have : q = g := by simpa using e1
    subst this
    exact ⟨cur, h3, by rw [h6]; exact Nat.mul_le_mul_right _ h4, h7⟩
/-- What an append to an owned list leaves. -/
structure AppG (τ : TypeId) (n : Nat) (fl : α → List Value) (w w' : World) (base : Nat) (l : List α) (v v' : Value) : Prop where
  own : OwnG τ n fl w' base l v'
  below : Below base w w'
  far : ∀ b, b < w.heap.size → v.ownBlock ≠ some b → w'.heap[b]? = w.heap[b]?
  lies : ∀ q, v'.ownBlock = some q → v.ownBlock = some q ∨ w.heap.size ≤ q
theorem below_grownG {w w' : World} {v : Value} {base : Nat} (h : w.grownBy w' v.ownBlock) (hb : base ≤ w.heap.size) (hv : ∀ g, v.ownBlock = some g → base ≤ g) : Below base w w' :=
  ⟨h.os, h.tape, h.output, h.size, fun k hk => h.block k (by omega) fun e => by have := hv k e.symm; omega⟩
theorem wpList_appendG {τs : TypeId} (hn : ∀ a, (fl a).length = n) (h0 : 0 < n) (i0 : TypeInfo) (z0 : Value) (bytes : Nat) (hu : Try.prog.underlying τs = some (.slice τ)) (hi0 : Try.prog.info? τ = some i0) (hz0 : i0.zero = some z0) (hz1 : i0.size = n) (hz2 : i0.bytes = bytes) (hz3 : z0.cells.size = n) (hby : bytes ≤ 64)
    {ops : Array Oper} {rest : List Oper} {o : Oper} {a : Act} {w : World} {Q : Exit → Act → World → Prop} (hgd : o.guard = none) (s x : Operand) (ho : o.op = .call { callee := .builtin .append, args := #[s, x], argTypes := #[τs, τs] })
    (base : Nat) (l : List α) (v : Value) (hs : a.eval s = v) (hown : OwnG τ n fl w base l v) (e : α) (t : TypeId) (cs : Array Value) (hcs : cs.toList = fl e) (h1 : ∀ u ∈ fl e, u.oneCell' = true) (hx : a.eval x = .slice (some ⟨w.heap.size, 0, none⟩) 1 1)
    (hb : base ≤ w.heap.size) (hl : l.length ≤ 1000)
    (h : ∀ v' w', AppG τ n fl (w.alloc (.cells cs t)) w' base (l ++ [e]) v v' → wpList Try.prog ops Q rest (a.put o.dst v') w') : wpList Try.prog ops Q (o :: rest) a (w.alloc (.cells cs t)) := by
  have hown' := hown.below (Below.alloc (Below.refl w.heap.size w) (Nat.le_refl _) (.cells cs t))
  refine wpList_append_lies _ hgd s x _ ho base τ i0 z0 n bytes hu hi0 hz0 hz1 hz2 hz3 h0 v l.length (l.flatMap fl) hs hown'
    ⟨w.heap.size, 0, none⟩ 1 1 (fl e) hx (by rw [hn, Nat.one_mul]) (hcs ▸ World.news_of_block (heap_alloc_new _ _)) h1
    (by omega) (by unfold maxLen; omega) ?_ (by simp; omega) _ rfl fun g cap w' h1 h2 h3 h4 => h _ _ ⟨?_, below_grownG h2 (by simp; omega) hown'.base_, fun b hb hn => h2.block b hb fun e => hn e.symm, fun q hq => ?_⟩
  · have : (l.length + 1) * bytes ≤ 1001 * 64 := Nat.mul_le_mul (by omega) hby
    omega
  · unfold OwnG
    rw [List.length_append, List.flatMap_append, List.flatMap_singleton]
    exact h1
  · have : g = q := by simpa [Value.ownBlock] using hq
    subst this
    exact h3.imp id fun e => by omega
end
theorem setRow_two {w : World} {g o : Nat} {cur : Array Value} {t : TypeId} (hg : w.heap[g]? = some (.cells cur t (0, 0))) (x y : Value) (ho : o + 2 ≤ cur.size) :
    w.setRow g (putAt cur o #[x, y]) = (w.setCell ⟨g, o, none⟩ x).setCell ⟨g, o + 1, none⟩ y := by
  rw [setCell_eq_setRow w g o cur t (0, 0) x hg, setCell_eq_setRow _ g (o + 1) _ t (0, 0) y (setRow_heap _ _ _ _ _ _ hg), setRow_setRow]
  congr 1
  apply Array.ext_getElem?
  intro i
  by_cases h : i < o ∨ o + 2 ≤ i
  · rw [putAt_out cur #[x, y] (by simp; omega) (by simpa using h), Array.getElem?_setIfInBounds_ne (by omega), Array.getElem?_setIfInBounds_ne (by omega)]
  · by_cases h1 : i = o
    · subst h1
      have := putAt_in cur #[x, y] (o := i) (j := 0) (by simp; omega) (by simp)
      rw [Nat.add_zero] at this
      rw [this, Array.getElem?_setIfInBounds_ne (by omega), Array.getElem?_setIfInBounds_self]
      simp; omega
    · obtain rfl : i = o + 1 := by omega
      rw [putAt_in cur #[x, y] (o := o) (j := 1) (by simp; omega) (by simp), Array.getElem?_setIfInBounds_self]
      simp; omega
end Go.Proofs.Ytcicfijpfhbcaaa
