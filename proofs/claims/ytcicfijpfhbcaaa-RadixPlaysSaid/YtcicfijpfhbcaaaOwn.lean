/-
  Nodes whose children's memory is owned: each array of children is a block of its own, met nowhere else.
-/
import Derived.Test.YtcicfijpfhbcaaaNode2
import Derived.Laws.OwnMore
namespace Go.Proofs.Ytcicfijpfhbcaaa
set_option linter.unusedSimpArgs false
set_option linter.unusedVariables false
set_option linter.unusedSectionVars false
open Go.RowKit

/-- From w to w' nothing but the blocks of G has turned, and new ones. -/
structure Mod (G : Nat → Prop) (w w' : World) : Prop where
  os : w'.os = w.os
  tape : w'.tape = w.tape
  output : w'.output = w.output
  size : w.heap.size ≤ w'.heap.size
  block : ∀ k, k < w.heap.size → ¬ G k → w'.heap[k]? = w.heap[k]?
theorem Mod.refl (G : Nat → Prop) (w : World) : Mod G w w := ⟨rfl, rfl, rfl, Nat.le_refl _, fun _ _ _ => rfl⟩
theorem Mod.trans {G G' : Nat → Prop} {a b c : World} (h : Mod G a b) (k : Mod G' b c) (hg : ∀ i, i < a.heap.size → G' i → G i) : Mod G a c :=
  ⟨k.os.trans h.os, k.tape.trans h.tape, k.output.trans h.output, Nat.le_trans h.size k.size, fun i hi hn => (k.block i (Nat.lt_of_lt_of_le hi h.size) (fun hh => hn (hg i hi hh))).trans (h.block i hi hn)⟩
theorem Mod.mono {G G' : Nat → Prop} {a b : World} (h : Mod G a b) (hg : ∀ i, i < a.heap.size → G i → G' i) : Mod G' a b :=
  ⟨h.os, h.tape, h.output, h.size, fun i hi hn => h.block i hi (fun hh => hn (hg i hi hh))⟩
theorem Mod.of_below {B : Nat} {a b : World} {G : Nat → Prop} (h : Below B a b) (hg : ∀ k, k < a.heap.size → B ≤ k → G k) : Mod G a b :=
  ⟨h.os, h.tape, h.output, h.size, fun k hk hn => h.block k (by
    rcases Nat.lt_or_ge k B with h1 | h1
    · exact h1
    · exact absurd (hg k hk h1) hn)⟩
theorem Mod.below {B : Nat} {a b : World} {G : Nat → Prop} (h : Mod G a b) (hB : B ≤ a.heap.size) (hg : ∀ k, G k → B ≤ k) : Below B a b :=
  ⟨h.os, h.tape, h.output, h.size, fun k hk => h.block k (by omega) (fun hh => by have := hg k hh; omega)⟩

def OwnK (w : World) : RN → Value → (Nat → Prop) → Prop
  | .mk _ _ _ n kid, s, S =>
    (n = 0 ∧ s = .slice none 0 0) ∨
    ∃ (g cap : Nat) (cs : Array Value) (T : Nat → Nat → Prop) (sk : Nat → Value),
      0 < n ∧ n ≤ cap ∧ cap ≤ maxLen ∧ s = .slice (some ⟨g, 0, none⟩) n cap ∧ w.heap[g]? = some (.cells cs 26 (0, 0)) ∧ S g ∧ cs.size = cap * 11 ∧
      (∀ (i : Nat) (h : i < n), (∀ j, j < 11 → cs[i * 11 + j]? = (cellsN (kid ⟨i, h⟩) (sk i))[j]?) ∧ OwnK w (kid ⟨i, h⟩) (sk i) (T i)) ∧
      (∀ i, i < n → ∀ b, T i b → S b ∧ b ≠ g) ∧ (∀ i j b, i < n → j < n → T i b → T j b → i = j)

/-- The same, child by child. -/
structure OwnAt (w : World) (x : RN) (s : Value) (S : Nat → Prop) (g cap : Nat) (cs : Array Value) (T : Nat → Nat → Prop) (sk : Nat → Value) : Prop where
  pos : 0 < x.n
  le : x.n ≤ cap
  max : cap ≤ maxLen
  val : s = .slice (some ⟨g, 0, none⟩) x.n cap
  blk : w.heap[g]? = some (.cells cs 26 (0, 0))
  mem : S g
  size : cs.size = cap * 11
  row : ∀ i, i < x.n → ∀ j, j < 11 → cs[i * 11 + j]? = (cellsN (x.kid i) (sk i))[j]?
  kid : ∀ i, i < x.n → OwnK w (x.kid i) (sk i) (T i)
  sub : ∀ i, i < x.n → ∀ b, T i b → S b ∧ b ≠ g
  apart : ∀ i j b, i < x.n → j < x.n → T i b → T j b → i = j

theorem OwnK_iff {w : World} {x : RN} {s : Value} {S : Nat → Prop} : OwnK w x s S ↔ (x.n = 0 ∧ s = .slice none 0 0) ∨ ∃ g cap cs T sk, OwnAt w x s S g cap cs T sk := by
  cases x with
  | mk v t0 t1 n kid =>
    rw [OwnK]
    refine or_congr Iff.rfl ⟨?_, ?_⟩
    · rintro ⟨g, cap, cs, T, sk, h1, h2, h3, h4, h5, h6, h7, h8, h9, h10⟩
      refine ⟨g, cap, cs, T, sk, h1, h2, h3, h4, h5, h6, h7, fun i hi => ?_, fun i hi => ?_, h9, h10⟩
      · rw [RN.kid_mk v t0 t1 n kid i hi]; exact (h8 i hi).1
      · rw [RN.kid_mk v t0 t1 n kid i hi]; exact (h8 i hi).2
    · rintro ⟨g, cap, cs, T, sk, h⟩
      refine ⟨g, cap, cs, T, sk, h.pos, h.le, h.max, h.val, h.blk, h.mem, h.size, fun i hi => ?_, h.sub, h.apart⟩
      have h1 := h.row i hi
      have h2 := h.kid i hi
      rw [RN.kid_mk v t0 t1 n kid i hi] at h1 h2
      exact ⟨h1, h2⟩
theorem OwnAt.own {w : World} {x : RN} {s : Value} {S : Nat → Prop} {g cap : Nat} {cs : Array Value} {T : Nat → Nat → Prop} {sk : Nat → Value} (h : OwnAt w x s S g cap cs T sk) : OwnK w x s S := OwnK_iff.2 (.inr ⟨g, cap, cs, T, sk, h⟩)
theorem OwnK.none_ {w : World} {x : RN} {S : Nat → Prop} (h : x.n = 0) : OwnK w x (.slice none 0 0) S := OwnK_iff.2 (.inl ⟨h, rfl⟩)

/-- What is owned hangs on its own blocks alone. -/
theorem OwnK.frame {w w' : World} (x : RN) : ∀ {s : Value} {S : Nat → Prop}, OwnK w x s S → (∀ b, S b → b < w.heap.size → w'.heap[b]? = w.heap[b]?) → OwnK w' x s S := by
  induction x with
  | mk v t0 t1 n kid ih =>
    intro s S h hf
    rcases OwnK_iff.1 h with h0 | ⟨g, cap, cs, T, sk, h⟩
    · exact OwnK_iff.2 (.inl h0)
    · have hg : g < w.heap.size := by
        rcases Nat.lt_or_ge g w.heap.size with h1 | h1
        · exact h1
        · have := h.blk; rw [Array.getElem?_eq_none h1] at this; cases this
      refine OwnAt.own ⟨h.pos, h.le, h.max, h.val, (hf g h.mem hg).trans h.blk, h.mem, h.size, h.row, fun i hi => ?_, h.sub, h.apart⟩
      have hk := h.kid i hi
      have hi' : i < n := hi
      rw [RN.kid_mk _ _ _ _ _ _ hi'] at hk ⊢
      exact ih ⟨i, hi'⟩ hk fun b hb hl => hf b (h.sub i hi b hb).1 hl
theorem OwnK.mono {w : World} {x : RN} {s : Value} {S S' : Nat → Prop} (h : OwnK w x s S) (hS : ∀ b, S b → S' b) : OwnK w x s S' := by
  rcases OwnK_iff.1 h with h0 | ⟨g, cap, cs, T, sk, h⟩
  · exact OwnK_iff.2 (.inl h0)
  · exact OwnAt.own ⟨h.pos, h.le, h.max, h.val, h.blk, hS _ h.mem, h.size, h.row, h.kid, fun i hi b hb => ⟨hS _ (h.sub i hi b hb).1, (h.sub i hi b hb).2⟩, h.apart⟩
theorem OwnK.slice {w : World} {x : RN} {s : Value} {S : Nat → Prop} (h : OwnK w x s S) : ∃ A cap, s = .slice A x.n cap ∧ x.n ≤ cap ∧ cap ≤ maxLen := by
  rcases OwnK_iff.1 h with ⟨h0, h1⟩ | ⟨g, cap, cs, T, sk, h⟩
  · exact ⟨none, 0, by rw [h0, h1], by omega, by decide⟩
  · exact ⟨_, cap, h.val, h.le, h.max⟩
/-- What is owned can be read. -/
theorem OwnK.rd {w : World} (x : RN) : ∀ {s : Value} {S : Nat → Prop}, OwnK w x s S → RdC w (encK x) s := by
  induction x with
  | mk v t0 t1 n kid ih =>
    intro s S h
    rcases OwnK_iff.1 h with ⟨h0, h1⟩ | ⟨g, cap, cs, T, sk, h⟩
    · subst h1
      exact ⟨none, 0, by rw [h0], by omega, by decide, fun h => absurd h (by omega)⟩
    · refine ⟨_, cap, h.val, h.le, h.max, fun _ => ⟨_, rfl, fun i hi j hj => ?_⟩⟩
      have hk := h.kid i hi
      have hi' : i < n := hi
      have hr : RdC w (encK ((RN.mk v t0 t1 n kid).kid i)) (sk i) := by
        rw [RN.kid_mk _ _ _ _ _ _ hi'] at hk ⊢
        exact ih ⟨i, hi'⟩ hk
      obtain ⟨y, hy, hry⟩ := (rdN_shut hr).2 j hj
      refine ⟨y, ?_, by show RdC w (if _ then _ else _) y; rw [if_pos hi]; exact hry⟩
      rw [addr_add_mk, cell_of_row w g _ cs _ _ h.blk, Nat.zero_add, h.row i hi j hj, hy]

/-- The cells of k rows, one behind the other. -/
def flat (f : Nat → Array Value) (k : Nat) : List Value := (List.range k).flatMap fun i => (f i).toList
theorem flat_succ (f : Nat → Array Value) (k : Nat) : flat f (k + 1) = flat f k ++ (f k).toList := by simp [flat, List.range_succ]
theorem flat_length (f : Nat → Array Value) (hf : ∀ i, (f i).size = 11) : ∀ k, (flat f k).length = k * 11
  | 0 => rfl
  | k + 1 => by rw [flat_succ, List.length_append, flat_length f hf k, Array.length_toList, hf]; omega
theorem flat_get (f : Nat → Array Value) (hf : ∀ i, (f i).size = 11) {i j : Nat} (hj : j < 11) : ∀ k, i < k → (flat f k)[i * 11 + j]? = (f i)[j]?
  | k + 1, hi => by
    rw [flat_succ]
    by_cases h : i < k
    · rw [List.getElem?_append_left (by rw [flat_length f hf]; omega), flat_get f hf hj k h]
    · obtain rfl : i = k := by omega
      rw [List.getElem?_append_right (by rw [flat_length f hf]; omega), flat_length f hf, show i * 11 + j - i * 11 = j by omega, Array.getElem?_toList]
theorem flat_congr {f g : Nat → Array Value} {k : Nat} (h : ∀ i, i < k → f i = g i) : flat f k = flat g k := by
  unfold flat
  rw [List.flatMap_def, List.flatMap_def, List.map_congr_left (fun i hi => by rw [h i (List.mem_range.1 hi)])]

end Go.Proofs.Ytcicfijpfhbcaaa
