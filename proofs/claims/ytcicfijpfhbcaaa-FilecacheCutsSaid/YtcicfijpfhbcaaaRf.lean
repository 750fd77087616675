/-
  Nodes whose children's memory is owned: each array of children is a block of its own, met nowhere else.
-/
/-
  radix.refresh; what a store into a row leaves.
-/
import Derived.Test.YtcicfijpfhbcaaaNode2
import Derived.Laws.OwnMore
import Derived.StillTailTactics
namespace Go.Proofs.Ytcicfijpfhbcaaa
set_option linter.unusedSimpArgs false
set_option linter.unusedVariables false
set_option linter.unusedSectionVars false
open Go.RowKit

/-- From w to w' nothing but the blocks of G has turned, and new ones. -/
structure Mod (G : Nat → Prop) (w w' : World) : Prop where
  os : w'.os = w.os
  tape : w'.tape = w.tape
  output : w'.output = w.output
  size : w.heap.size ≤ w'.heap.size
  block : ∀ k, k < w.heap.size → ¬ G k → w'.heap[k]? = w.heap[k]?
theorem Mod.refl (G : Nat → Prop) (w : World) : Mod G w w := ⟨rfl, rfl, rfl, Nat.le_refl _, fun _ _ _ => rfl⟩
theorem Mod.trans {G G' : Nat → Prop} {a b c : World} (h : Mod G a b) (k : Mod G' b c) (hg : ∀ i, i < a.heap.size → G' i → G i) : Mod G a c :=
  ⟨k.os.trans h.os, k.tape.trans h.tape, k.output.trans h.output, Nat.le_trans h.size k.size, fun i hi hn => (k.block i (Nat.lt_of_lt_of_le hi h.size) (fun hh => hn (hg i hi hh))).trans (h.block i hi hn)⟩
theorem Mod.mono {G G' : Nat → Prop} {a b : World} (h : Mod G a b) (hg : ∀ i, i < a.heap.size → G i → G' i) : Mod G' a b :=
  ⟨h.os, h.tape, h.output, h.size, fun i hi hn => h.block i hi (fun hh => hn (hg i hi hh))⟩
theorem Mod.of_below {B : Nat} {a b : World} {G : Nat → Prop} (h : Below B a b) (hg : ∀ k, k < a.heap.size → B ≤ k → G k) : Mod G a b :=
  ⟨h.os, h.tape, h.output, h.size, fun k hk hn => h.block k (by
    rcases Nat.lt_or_ge k B with h1 | h1
    · exact h1
    · exact absurd (hg k hk h1) hn)⟩
theorem Mod.below {B : Nat} {a b : World} {G : Nat → Prop} (h : Mod G a b) (hB : B ≤ a.heap.size) (hg : ∀ k, G k → B ≤ k) : Below B a b :=
  ⟨h.os, h.tape, h.output, h.size, fun k hk => h.block k (by omega) (fun hh => by have := hg k hh; omega)⟩

def OwnK (w : World) : RN → Value → (Nat → Prop) → Prop
  | .mk _ _ _ n kid, s, S =>
    (n = 0 ∧ s = .slice none 0 0) ∨
    ∃ (g cap : Nat) (cs : Array Value) (T : Nat → Nat → Prop) (sk : Nat → Value),
      0 < n ∧ n ≤ cap ∧ cap ≤ maxLen ∧ s = .slice (some ⟨g, 0, none⟩) n cap ∧ w.heap[g]? = some (.cells cs 26 (0, 0)) ∧ S g ∧ cs.size = cap * 11 ∧
      (∀ (i : Nat) (h : i < n), (∀ j, j < 11 → cs[i * 11 + j]? = (cellsN (kid ⟨i, h⟩) (sk i))[j]?) ∧ OwnK w (kid ⟨i, h⟩) (sk i) (T i)) ∧
      (∀ i, i < n → ∀ b, T i b → S b ∧ b ≠ g) ∧ (∀ i j b, i < n → j < n → T i b → T j b → i = j)

/-- The same, child by child. -/
structure OwnAt (w : World) (x : RN) (s : Value) (S : Nat → Prop) (g cap : Nat) (cs : Array Value) (T : Nat → Nat → Prop) (sk : Nat → Value) : Prop where
  pos : 0 < x.n
  le : x.n ≤ cap
  max : cap ≤ maxLen
  val : s = .slice (some ⟨g, 0, none⟩) x.n cap
  blk : w.heap[g]? = some (.cells cs 26 (0, 0))
  mem : S g
  size : cs.size = cap * 11
  row : ∀ i, i < x.n → ∀ j, j < 11 → cs[i * 11 + j]? = (cellsN (x.kid i) (sk i))[j]?
  kid : ∀ i, i < x.n → OwnK w (x.kid i) (sk i) (T i)
  sub : ∀ i, i < x.n → ∀ b, T i b → S b ∧ b ≠ g
  apart : ∀ i j b, i < x.n → j < x.n → T i b → T j b → i = j

theorem OwnK_iff {w : World} {x : RN} {s : Value} {S : Nat → Prop} : OwnK w x s S ↔ (x.n = 0 ∧ s = .slice none 0 0) ∨ ∃ g cap cs T sk, OwnAt w x s S g cap cs T sk := by
  cases x with
  | mk v t0 t1 n kid =>
    rw [OwnK]
    refine or_congr Iff.rfl ⟨?_, ?_⟩
    · rintro ⟨g, cap, cs, T, sk, h1, h2, h3, h4, h5, h6, h7, h8, h9, h10⟩
      refine ⟨g, cap, cs, T, sk, h1, h2, h3, h4, h5, h6, h7, fun i hi => ?_, fun i hi => ?_, h9, h10⟩
      · rw [RN.kid_mk v t0 t1 n kid i hi]; exact (h8 i hi).1
      · rw [RN.kid_mk v t0 t1 n kid i hi]; exact (h8 i hi).2
    · rintro ⟨g, cap, cs, T, sk, h⟩
      refine ⟨g, cap, cs, T, sk, h.pos, h.le, h.max, h.val, h.blk, h.mem, h.size, fun i hi => ?_, h.sub, h.apart⟩
      have h1 := h.row i hi
      have h2 := h.kid i hi
      rw [RN.kid_mk v t0 t1 n kid i hi] at h1 h2
      exact ⟨h1, h2⟩
theorem OwnAt.own {w : World} {x : RN} {s : Value} {S : Nat → Prop} {g cap : Nat} {cs : Array Value} {T : Nat → Nat → Prop} {sk : Nat → Value} (h : OwnAt w x s S g cap cs T sk) : OwnK w x s S := OwnK_iff.2 (.inr ⟨g, cap, cs, T, sk, h⟩)
theorem OwnK.none_ {w : World} {x : RN} {S : Nat → Prop} (h : x.n = 0) : OwnK w x (.slice none 0 0) S := OwnK_iff.2 (.inl ⟨h, rfl⟩)

/-- What is owned hangs on its own blocks alone. -/
theorem OwnK.frame {w w' : World} (x : RN) : ∀ {s : Value} {S : Nat → Prop}, OwnK w x s S → (∀ b, S b → b < w.heap.size → w'.heap[b]? = w.heap[b]?) → OwnK w' x s S := by
  induction x with
  | mk v t0 t1 n kid ih =>
    intro s S h hf
    rcases OwnK_iff.1 h with h0 | ⟨g, cap, cs, T, sk, h⟩
    · exact OwnK_iff.2 (.inl h0)
    · have hg : g < w.heap.size := by
        rcases Nat.lt_or_ge g w.heap.size with h1 | h1
        · exact h1
        · have := h.blk; rw [Array.getElem?_eq_none h1] at this; cases this
      refine OwnAt.own ⟨h.pos, h.le, h.max, h.val, (hf g h.mem hg).trans h.blk, h.mem, h.size, h.row, fun i hi => ?_, h.sub, h.apart⟩
      have hk := h.kid i hi
      have hi' : i < n := hi
      rw [RN.kid_mk _ _ _ _ _ _ hi'] at hk ⊢
      exact ih ⟨i, hi'⟩ hk fun b hb hl => hf b (h.sub i hi b hb).1 hl
theorem OwnK.mono {w : World} {x : RN} {s : Value} {S S' : Nat → Prop} (h : OwnK w x s S) (hS : ∀ b, S b → S' b) : OwnK w x s S' := by
  rcases OwnK_iff.1 h with h0 | ⟨g, cap, cs, T, sk, h⟩
  · exact OwnK_iff.2 (.inl h0)
  · exact OwnAt.own ⟨h.pos, h.le, h.max, h.val, h.blk, hS _ h.mem, h.size, h.row, h.kid, fun i hi b hb => ⟨hS _ (h.sub i hi b hb).1, (h.sub i hi b hb).2⟩, h.apart⟩
theorem OwnK.slice {w : World} {x : RN} {s : Value} {S : Nat → Prop} (h : OwnK w x s S) : ∃ A cap, s = .slice A x.n cap ∧ x.n ≤ cap ∧ cap ≤ maxLen := by
  rcases OwnK_iff.1 h with ⟨h0, h1⟩ | ⟨g, cap, cs, T, sk, h⟩
  · exact ⟨none, 0, by rw [h0, h1], by omega, by decide⟩
  · exact ⟨_, cap, h.val, h.le, h.max⟩
/-- What is owned can be read. -/
theorem OwnK.rd {w : World} (x : RN) : ∀ {s : Value} {S : Nat → Prop}, OwnK w x s S → RdC w (encK x) s := by
  induction x with
  | mk v t0 t1 n kid ih =>
    intro s S h
    rcases OwnK_iff.1 h with ⟨h0, h1⟩ | ⟨g, cap, cs, T, sk, h⟩
    · subst h1
      exact ⟨none, 0, by rw [h0], by omega, by decide, fun h => absurd h (by omega)⟩
    · refine ⟨_, cap, h.val, h.le, h.max, fun _ => ⟨_, rfl, fun i hi j hj => ?_⟩⟩
      have hk := h.kid i hi
      have hi' : i < n := hi
      have hr : RdC w (encK ((RN.mk v t0 t1 n kid).kid i)) (sk i) := by
        rw [RN.kid_mk _ _ _ _ _ _ hi'] at hk ⊢
        exact ih ⟨i, hi'⟩ hk
      obtain ⟨y, hy, hry⟩ := (rdN_shut hr).2 j hj
      refine ⟨y, ?_, by show RdC w (if _ then _ else _) y; rw [if_pos hi]; exact hry⟩
      rw [addr_add_mk, cell_of_row w g _ cs _ _ h.blk, Nat.zero_add, h.row i hi j hj, hy]

/-- The cells of k rows, one behind the other. -/
def flat (f : Nat → Array Value) (k : Nat) : List Value := (List.range k).flatMap fun i => (f i).toList
theorem flat_succ (f : Nat → Array Value) (k : Nat) : flat f (k + 1) = flat f k ++ (f k).toList := by simp [flat, List.range_succ]
theorem flat_length (f : Nat → Array Value) (hf : ∀ i, (f i).size = 11) : ∀ k, (flat f k).length = k * 11
  | 0 => rfl
  | k + 1 => by rw [flat_succ, List.length_append, flat_length f hf k, Array.length_toList, hf]; omega
theorem flat_get (f : Nat → Array Value) (hf : ∀ i, (f i).size = 11) {i j : Nat} (hj : j < 11) : ∀ k, i < k → (flat f k)[i * 11 + j]? = (f i)[j]?
  | k + 1, hi => by
    rw [flat_succ]
    by_cases h : i < k
    · rw [List.getElem?_append_left (by rw [flat_length f hf]; omega), flat_get f hf hj k h]
    · obtain rfl : i = k := by omega
      rw [List.getElem?_append_right (by rw [flat_length f hf]; omega), flat_length f hf, show i * 11 + j - i * 11 = j by omega, Array.getElem?_toList]
theorem flat_congr {f g : Nat → Array Value} {k : Nat} (h : ∀ i, i < k → f i = g i) : flat f k = flat g k := by
  unfold flat
  rw [List.flatMap_def, List.flatMap_def, List.map_congr_left (fun i hi => by rw [h i (List.mem_range.1 hi)])]

end Go.Proofs.Ytcicfijpfhbcaaa
namespace Go.Proofs.Ytcicfijpfhbcaaa
set_option linter.unusedSimpArgs false
set_option linter.unusedVariables false
set_option linter.unusedSectionVars false
open Go.RowKit

/-- From w to w' nothing has turned but the eleven cells from o on in block g, which now hold 'row'; cs' is the block. -/
structure RowPut (w w' : World) (g o : Nat) (t : TypeId) (cs row cs' : Array Value) : Prop where
  os : w'.os = w.os
  tape : w'.tape = w.tape
  output : w'.output = w.output
  size : w'.heap.size = w.heap.size
  blk : w'.heap[g]? = some (.cells cs' t (0, 0))
  len : cs'.size = cs.size
  rowsz : row.size = 11
  fits : o + 11 ≤ cs.size
  inn : ∀ j, j < 11 → cs'[o + j]? = row[j]?
  out : ∀ j, j < o ∨ o + 11 ≤ j → cs'[j]? = cs[j]?
  oth : ∀ q, q ≠ g → w'.heap[q]? = w.heap[q]?
theorem RowPut.start {w : World} {g o : Nat} {t : TypeId} {cs row : Array Value} (hb : w.heap[g]? = some (.cells cs t (0, 0))) (hr : row.size = 11) (hf : o + 11 ≤ cs.size) (h : ∀ j, j < 11 → cs[o + j]? = row[j]?) : RowPut w w g o t cs row cs :=
  ⟨rfl, rfl, rfl, rfl, hb, rfl, hr, hf, h, fun _ _ => rfl, fun _ _ => rfl⟩
theorem RowPut.drew {w w' : World} {g o : Nat} {t : TypeId} {cs row cs' : Array Value} (h : RowPut w w' g o t cs row cs') : RowPut w w'.drew g o t cs row cs' :=
  ⟨h.os, h.tape, h.output, h.size, h.blk, h.len, h.rowsz, h.fits, h.inn, h.out, h.oth⟩
theorem RowPut.drewN {w w' : World} {g o : Nat} {t : TypeId} {cs row cs' : Array Value} (h : RowPut w w' g o t cs row cs') (n : Nat) : RowPut w (w'.drewN n) g o t cs row cs' :=
  ⟨h.os, h.tape, h.output, h.size, h.blk, h.len, h.rowsz, h.fits, h.inn, h.out, h.oth⟩
theorem RowPut.set {w w' : World} {g o : Nat} {t : TypeId} {cs row cs' : Array Value} (h : RowPut w w' g o t cs row cs') {j p : Nat} (hj : j < 11) (hp : p = o + j) (u : Value) :
    RowPut w (w'.setCell ⟨g, p, none⟩ u) g o t cs (row.setIfInBounds j u) (cs'.setIfInBounds p u) := by
  subst hp
  refine ⟨h.os, h.tape, h.output, by simp [h.size], heap_setCell_same _ _ _ _ _ _ h.blk, by simp [h.len], by simp [h.rowsz], h.fits, fun i hi => ?_, fun i hi => ?_, fun q hq => by rw [heap_setCell_other w' _ q _ hq]; exact h.oth q hq⟩
  · have hf := h.fits
    have hl := h.len
    have hrz := h.rowsz
    rw [Array.getElem?_setIfInBounds, Array.getElem?_setIfInBounds]
    by_cases hij : j = i
    · subst hij
      rw [if_pos rfl, if_pos rfl, if_pos (by omega), if_pos (by omega)]
    · rw [if_neg (by omega), if_neg hij]; exact h.inn i hi
  · rw [Array.getElem?_setIfInBounds, if_neg (by omega)]
    exact h.out i hi
theorem RowPut.cell {w w' : World} {g o : Nat} {t : TypeId} {cs row cs' : Array Value} (h : RowPut w w' g o t cs row cs') {j : Nat} (hj : j < 11) : w'.cell? ⟨g, o + j, none⟩ = row[j]? := by
  rw [cell_of_row _ _ _ _ _ _ h.blk, h.inn j hj]

theorem RowPut.cast {w w' : World} {g o : Nat} {t : TypeId} {cs row row' cs' : Array Value} (h : RowPut w w' g o t cs row cs') (e : row = row') : RowPut w w' g o t cs row' cs' := e ▸ h
theorem RowPut.set8 {w w' : World} {g o : Nat} {t : TypeId} {cs row cs' : Array Value} {u : Value} (h : RowPut w w' g o t cs row cs') :
    RowPut w (w'.setCell ⟨g, o + 8, none⟩ u) g o t cs (row.setIfInBounds 8 u) (cs'.setIfInBounds (o + 8) u) := h.set (j := 8) (by omega) rfl u
theorem RowPut.set9 {w w' : World} {g o : Nat} {t : TypeId} {cs row cs' : Array Value} {u : Value} (h : RowPut w w' g o t cs row cs') :
    RowPut w (w'.setCell ⟨g, o + 8 + 1, none⟩ u) g o t cs (row.setIfInBounds 9 u) (cs'.setIfInBounds (o + 8 + 1) u) := h.set (j := 9) (by omega) (by omega) u
theorem RowPut.ex {w w' : World} {g o : Nat} {t : TypeId} {cs row row' cs' : Array Value} (h : RowPut w w' g o t cs row cs') (e : row = row') : ∃ cs', RowPut w w' g o t cs row' cs' := ⟨cs', e ▸ h⟩

/-- Tag j of the node, computed anew for child d. -/
def refT (d : Nat) (kt t : Int) : Int := if kt != 0 then bits .or .i64 (bits .andNot .i64 t (wrap64 (2 ^ d))) (wrap64 (2 ^ d)) else bits .andNot .i64 t (wrap64 (2 ^ d))
def refreshN : RN → Nat → RN
  | .mk v t0 t1 n kid, d => .mk v (refT d ((RN.mk v t0 t1 n kid).kid d).t0 t0) (refT d ((RN.mk v t0 t1 n kid).kid d).t1 t1) n kid
theorem cellsN_refresh (x : RN) (d : Nat) (s : Value) : cellsN (refreshN x d) s = ((cellsN x s).setIfInBounds 8 (.int .i64 (refT d (x.kid d).t0 x.t0))).setIfInBounds 9 (.int .i64 (refT d (x.kid d).t1 x.t1)) := by cases x; rfl

/-- The first k tags computed anew. -/
def refTo (x : RN) (d k : Nat) : RN := .mk x.v (if 1 ≤ k then refT d (x.kid d).t0 x.t0 else x.t0) (if 2 ≤ k then refT d (x.kid d).t1 x.t1 else x.t1) 0 (fun i => absurd i.2 (by omega))
theorem refTo_0 (x : RN) (d : Nat) (s : Value) : cellsN (refTo x d 0) s = cellsN x s := rfl
theorem refTo_1 (x : RN) (d : Nat) (s : Value) : cellsN (refTo x d 1) s = (cellsN x s).setIfInBounds 8 (.int .i64 (refT d (x.kid d).t0 x.t0)) := rfl
theorem refTo_2 (x : RN) (d : Nat) (s : Value) : cellsN (refTo x d 2) s = (cellsN (refTo x d 1) s).setIfInBounds 9 (.int .i64 (refT d (x.kid d).t1 x.t1)) := rfl
theorem refTo_end (x : RN) (d : Nat) (s : Value) : cellsN (refTo x d 2) s = cellsN (refreshN x d) s := by cases x; rfl

theorem RowPut.cell_other {w w' : World} {g o : Nat} {t : TypeId} {cs row cs' : Array Value} (h : RowPut w w' g o t cs row cs') {q j : Nat} (hq : q ≠ g) : w'.cell? ⟨q, j, none⟩ = w.cell? ⟨q, j, none⟩ :=
  World.cell?_of_block (a := ⟨q, j, none⟩) (h.oth q hq)
theorem RowPut.frozen {w w' : World} {g o : Nat} {t : TypeId} {cs row cs' : Array Value} (h : RowPut w w' g o t cs row cs') (j : Nat) : w'.frozen? ⟨g, j, none⟩ = false := frozen_of_row w' g j cs' t h.blk

set_option maxRecDepth 100000 in
set_option maxHeartbeats 1000000 in
theorem p_refresh (x : RN) (d g o gk cap : Nat) (t : TypeId) (cs : Array Value) (w : World) (hd : d < 8) (hdn : d < x.n) (hn : x.n ≤ 9223372036854775807)
    (h : RowPut w w g o t cs (cellsN x (.slice (some ⟨gk, 0, none⟩) x.n cap)) cs) (hg : gk ≠ g)
    (k8 : w.cell? ⟨gk, d * 11 + 8, none⟩ = some (.int .i64 (x.kid d).t0)) (k9 : w.cell? ⟨gk, d * 11 + 9, none⟩ = some (.int .i64 (x.kid d).t1)) :
    Calls Try.prog 73 #[.pointer (some ⟨g, o, none⟩), .int .i64 d] w fun e w' => e = .returned (.tuple #[]) ∧ ∃ cs', RowPut w w' g o t cs (cellsN (refreshN x d) (.slice (some ⟨gk, 0, none⟩) x.n cap)) cs' := by
  have H := Lib.hid h
  have K8 := Lib.hid k8
  have K9 := Lib.hid k9
  have hd2 : (d : Int) < (x.n : Int) := by omega
  clear h k8 k9
  go_enter Try.func73, Try.ntmps73
  go_wp2_with fail
  go_loopw [5] (fun i wr => ∃ k : Nat, k ≤ 2 ∧ i = .int .i64 k ∧ ∃ cs', RowPut w wr g o t cs (cellsN (refTo x d k) (.slice (some ⟨gk, 0, none⟩) x.n cap)) cs') (fun i _ => 2 - (intOf i).toNat)
  case atStart => exact ⟨0, by omega, rfl, cs, H.out⟩
  case round =>
    obtain ⟨k, hk, rfl, cs', hp⟩ := hrel
    have k8 := (hp.cell_other hg).trans K8.out
    have k9 := (hp.cell_other hg).trans K9.out
    have c8 := hp.cell (j := 8) (by omega)
    have c9 := hp.cell (j := 9) (by omega)
    have c10 := hp.cell (j := 10) (by omega)
    have f8 := hp.frozen (o + 8)
    have f9 := hp.frozen (o + 9)
    have f9' := hp.frozen (o + 8 + 1)
    have HP := Lib.hid hp
    clear hp
    obtain rfl | rfl | rfl : k = 0 ∨ k = 1 ∨ k = 2 := by omega
    · rw [refTo_0] at c8 c9 c10
      cases b : ((x.kid d).t0 != 0)
      · go_wp2_with fail
        (refine wp_region_still_tail 12 (by kernel_rfl) (by kernel_rfl) ?_; simp only [World.drew_eq, plus_drew, List.take_succ_cons, List.take_zero, List.drop_succ_cons, List.drop_zero]; (repeat still_step); refine wpStill_nil ?_)
        go_wp2_with fail
        refine ⟨⟨1, by omega, rfl, _, ((HP.out.set8).drew).cast ?_⟩, by simp [intOf]⟩
        rw [refTo_1, refT, b]; rfl
      · go_wp2_with fail
        (refine wp_region_still_tail 12 (by kernel_rfl) (by kernel_rfl) ?_; simp only [World.drew_eq, plus_drew, List.take_succ_cons, List.take_zero, List.drop_succ_cons, List.drop_zero]; (repeat still_step); refine wpStill_nil ?_)
        go_wp2_with fail
        have e8 := (HP.out.set8 (u := .int .i64 (bits BinOp.andNot IntKind.i64 x.t0 (wrap64 (2 ^ d))))).drew
        have d8 : (wr.setCell ⟨g, o + 8, none⟩ (.int .i64 (bits BinOp.andNot IntKind.i64 x.t0 (wrap64 (2 ^ d))))).drew.cell? ⟨g, o + 8, none⟩ = some (.int .i64 (bits BinOp.andNot IntKind.i64 x.t0 (wrap64 (2 ^ d)))) := e8.cell (j := 8) (by omega)
        have g8 := e8.frozen (o + 8)
        have E8 := Lib.hid e8
        clear e8
        generalize World.drew (World.setCell wr _ _) = W at *
        generalize hq : bits BinOp.andNot IntKind.i64 x.t0 (wrap64 (2 ^ d)) = q at *
        (refine wp_region_still_tail 12 (by kernel_rfl) (by kernel_rfl) ?_; simp only [World.drew_eq, plus_drew, List.take_succ_cons, List.take_zero, List.drop_succ_cons, List.drop_zero]; (repeat still_step); refine wpStill_nil ?_)
        go_wp2_with fail
        refine ⟨⟨1, by omega, rfl, _, ((E8.out.set8).drew).cast ?_⟩, by simp [intOf]⟩
        rw [refTo_1, refT, b, if_pos rfl, hq]; rfl
    · clear c8 c9 c10
      have c9 : wr.cell? ⟨g, o + 9, none⟩ = some (.int .i64 x.t1) := HP.out.cell (j := 9) (by omega)
      have c9' : wr.cell? ⟨g, o + 8 + 1, none⟩ = some (.int .i64 x.t1) := c9
      have c10 : wr.cell? ⟨g, o + 10, none⟩ = some (.slice (some ⟨gk, 0, none⟩) x.n cap) := HP.out.cell (j := 10) (by omega)
      cases b : ((x.kid d).t1 != 0)
      · go_wp2_with fail
        (refine wp_region_still_tail 12 (by kernel_rfl) (by kernel_rfl) ?_; simp only [World.drew_eq, plus_drew, List.take_succ_cons, List.take_zero, List.drop_succ_cons, List.drop_zero]; (repeat still_step); refine wpStill_nil ?_)
        go_wp2_with fail
        refine ⟨⟨2, by omega, rfl, _, ((HP.out.set9).drew).cast ?_⟩, by simp [intOf]⟩
        rw [refTo_2, refT, b]; rfl
      · go_wp2_with fail
        (refine wp_region_still_tail 12 (by kernel_rfl) (by kernel_rfl) ?_; simp only [World.drew_eq, plus_drew, List.take_succ_cons, List.take_zero, List.drop_succ_cons, List.drop_zero]; (repeat still_step); refine wpStill_nil ?_)
        go_wp2_with fail
        have e8 := (HP.out.set9 (u := .int .i64 (bits BinOp.andNot IntKind.i64 x.t1 (wrap64 (2 ^ d))))).drew
        have d8 : (wr.setCell ⟨g, o + 8 + 1, none⟩ (.int .i64 (bits BinOp.andNot IntKind.i64 x.t1 (wrap64 (2 ^ d))))).drew.cell? ⟨g, o + 8 + 1, none⟩ = some (.int .i64 (bits BinOp.andNot IntKind.i64 x.t1 (wrap64 (2 ^ d)))) := e8.cell (j := 9) (by omega)
        have g8 := e8.frozen (o + 8 + 1)
        have E8 := Lib.hid e8
        clear e8
        generalize World.drew (World.setCell wr _ _) = W at *
        generalize hq : bits BinOp.andNot IntKind.i64 x.t1 (wrap64 (2 ^ d)) = q at *
        (refine wp_region_still_tail 12 (by kernel_rfl) (by kernel_rfl) ?_; simp only [World.drew_eq, plus_drew, List.take_succ_cons, List.take_zero, List.drop_succ_cons, List.drop_zero]; (repeat still_step); refine wpStill_nil ?_)
        go_wp2_with fail
        refine ⟨⟨2, by omega, rfl, _, ((E8.out.set9).drew).cast ?_⟩, by simp [intOf]⟩
        rw [refTo_2, refT, b, if_pos rfl, hq]; rfl
    · go_wp2_with fail
      go_end0
      exact ⟨rfl, cs', by rw [← refTo_end]; exact HP.out⟩
end Go.Proofs.Ytcicfijpfhbcaaa
