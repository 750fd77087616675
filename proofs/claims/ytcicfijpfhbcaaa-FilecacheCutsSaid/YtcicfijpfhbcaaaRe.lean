/-
  The reference's lists of entries: span, at, has.
-/
/-
  The reference's entries, Entries.
-/
import Derived.Test.YtcicfijpfhbcaaaUp
import Derived.Test.YtcicfijpfhbcaaaPe
import Derived.Test.YtcicfijpfhbcaaaOr2
namespace Go.Proofs.Ytcicfijpfhbcaaa
set_option linter.unusedSimpArgs false
set_option linter.unusedVariables false
set_option linter.unusedSectionVars false
open Go.RowKit

theorem pow8_10 : ∀ k, k ≤ 9 → (8 : Nat) ^ k ≤ 134217728 := by decide
set_option maxRecDepth 100000 in
set_option maxHeartbeats 1000000 in
theorem r_span (l : Nat) (hl : l ≤ 10) (w : World) : Calls Try.prog 102 #[.int .i64 (l : Int)] w fun e w' => e = .returned (.int .i64 ((8 ^ l : Nat) : Int)) ∧ w = w' := by
  go_enter Try.func102, Try.ntmps102
  go_wp2_with fail
  go_loop [3, 4] (fun n i => ∃ k : Nat, k ≤ l ∧ i = .int .i64 k ∧ n = .int .i64 ((8 ^ k : Nat) : Int)) (fun _ i => l - (intOf i).toNat)
  case atStart => exact ⟨0, by omega, rfl, rfl⟩
  case round =>
    obtain ⟨k, hk, rfl, rfl⟩ := hrel
    by_cases hlt : k < l
    · have h8 := pow8_10 k (by omega)
      have hs : Hid ((8 : Nat) ^ (k + 1) = 8 ^ k * 8) := Nat.pow_succ ..
      generalize (8 : Nat) ^ k = p at *
      go_wp2_with fail
      exact ⟨⟨k + 1, by omega, by go_num, by rw [hs.out]; push_cast; rfl⟩, by simp [intOf]; omega⟩
    · obtain rfl : k = l := by omega
      go_wp2_with fail
      go_ret
      exact ⟨rfl, rfl⟩

/-- An entry as the reference lists it: index, value, tags. -/
abbrev E3 := Int × Int × Int
def flatE (l : List E3) : List Value := l.flatMap fun e => [.int .i64 e.1, .int .i64 e.2.1, .int .i64 e.2.2]
def OwnE (w : World) (base : Nat) (l : List E3) (v : Value) : Prop := w.ownsRow base 83 3 v l.length (flatE l)
theorem flatE_len (l : List E3) : (flatE l).length = l.length * 3 := by
  induction l with
  | nil => rfl
  | cons e l ih => simp [flatE, List.flatMap_cons] at ih ⊢; omega
theorem flatE_append (l l' : List E3) : flatE (l ++ l') = flatE l ++ flatE l' := by simp [flatE]
theorem flatE_get : ∀ (l : List E3) (k : Nat) (e : E3), l[k]? = some e → (flatE l)[k * 3]? = some (.int .i64 e.1) ∧ (flatE l)[k * 3 + 1]? = some (.int .i64 e.2.1) ∧ (flatE l)[k * 3 + 2]? = some (.int .i64 e.2.2)
  | [], k, e, h => by simp at h
  | a :: l, 0, e, h => by
    have : a = e := by simpa using h
    subst this
    exact ⟨rfl, rfl, rfl⟩
  | a :: l, k + 1, e, h => by
    have h' : l[k]? = some e := by simpa using h
    have ih := flatE_get l k e h'
    have hx : ∀ j, (flatE (a :: l))[j + 3]? = (flatE l)[j]? := fun j => rfl
    refine ⟨?_, ?_, ?_⟩
    · rw [show (k + 1) * 3 = k * 3 + 3 by omega, hx]; exact ih.1
    · rw [show (k + 1) * 3 + 1 = k * 3 + 1 + 3 by omega, hx]; exact ih.2.1
    · rw [show (k + 1) * 3 + 2 = k * 3 + 2 + 3 by omega, hx]; exact ih.2.2
theorem OwnE.nil (w : World) (base : Nat) : OwnE w base [] (.slice none 0 0) := ⟨rfl, .inl ⟨rfl, rfl⟩⟩
theorem OwnE.slice {w : World} {base : Nat} {l : List E3} {v : Value} (h : OwnE w base l v) : ∃ A cap, v = .slice A l.length cap ∧ l.length ≤ cap ∧ cap ≤ maxLen := by
  rcases h.2 with ⟨h1, h2⟩ | ⟨g, cap, cur, h1, -, -, h4, h5, -⟩
  · exact ⟨none, 0, by rw [h1, h2], by omega, by decide⟩
  · exact ⟨_, _, h1, h4, h5⟩
theorem OwnE.below {w w' : World} {base : Nat} {l : List E3} {v : Value} (h : OwnE w base l v) (hb : Below w.heap.size w w') : OwnE w' base l v := by
  refine ⟨h.1, ?_⟩
  rcases h.2 with h1 | ⟨g, cap, cur, h1, h2, h3, h4⟩
  · exact .inl h1
  · exact .inr ⟨g, cap, cur, h1, h2, by rw [hb.block _ (lt_of_heap h3)]; exact h3, h4⟩
theorem OwnE.mono {w : World} {base base' : Nat} {l : List E3} {v : Value} (h : OwnE w base l v) (hb : base' ≤ base) : OwnE w base' l v := by
  refine ⟨h.1, ?_⟩
  rcases h.2 with h1 | ⟨g, cap, cur, h1, h2, h3, h4⟩
  · exact .inl h1
  · exact .inr ⟨g, cap, cur, h1, by omega, h3, h4⟩
/-- Element k of a list. -/
theorem OwnE.at {w : World} {base : Nat} {l : List E3} {v : Value} (h : OwnE w base l v) {k : Nat} {e : E3} (hk : l[k]? = some e) :
    ∃ g cap, v = .slice (some ⟨g, 0, none⟩) l.length cap ∧ base ≤ g ∧ g < w.heap.size ∧ w.cell? ⟨g, k * 3, none⟩ = some (.int .i64 e.1) ∧ w.cell? ⟨g, k * 3 + 1, none⟩ = some (.int .i64 e.2.1) ∧ w.cell? ⟨g, k * 3 + 2, none⟩ = some (.int .i64 e.2.2) := by
  have hlt : k < l.length := (List.getElem?_eq_some_iff.1 hk).1
  rcases h.2 with ⟨h1, h2⟩ | ⟨g, cap, cur, h1, h2, h3, h4, h5, h6, h7⟩
  · omega
  · have hc : ∀ j, j < l.length * 3 → w.cell? ⟨g, j, none⟩ = (flatE l)[j]? := fun j hj => by
      rw [cell_of_row _ _ _ _ _ _ h3, ← h7, List.getElem?_take, if_pos hj, Array.getElem?_toList]
    have hf := flatE_get l k e hk
    exact ⟨g, cap, h1, h2, lt_of_heap h3, by rw [hc _ (by omega)]; exact hf.1, by rw [hc _ (by omega)]; exact hf.2.1, by rw [hc _ (by omega)]; exact hf.2.2⟩

/-- The number of entries ahead of an index. -/
def atP (l : List E3) (i : Int) : Nat := (l.takeWhile fun e => decide (e.1 < i)).length
theorem atP_le (l : List E3) (i : Int) : atP l i ≤ l.length := (List.takeWhile_sublist _).length_le
theorem at_step {l : List E3} {i : Int} {k : Nat} (h : k ≤ atP l i) : (k < atP l i ↔ ∃ e, l[k]? = some e ∧ e.1 < i) := by
  induction l generalizing k with
  | nil => simp [atP]
  | cons a l ih =>
    unfold atP at h ⊢
    by_cases ha : a.1 < i
    · rw [List.takeWhile_cons_of_pos (by simpa using ha), List.length_cons] at h ⊢
      match k with
      | 0 => simp [ha]
      | k + 1 =>
        have := ih (k := k) (by unfold atP; omega)
        unfold atP at this
        simp only [List.getElem?_cons_succ]
        rw [← this]
        omega
    · rw [List.takeWhile_cons_of_neg (by simpa using ha)] at h ⊢
      have : k = 0 := by simpa using h
      subst this
      simp [ha]

set_option maxRecDepth 100000 in
set_option maxHeartbeats 1000000 in
theorem r_at (v : Value) (l : List E3) (i : Int) (base : Nat) (w : World) (h : OwnE w base l v) :
    Calls Try.prog 79 #[v, .int .i64 i] w fun e w' => e = .returned (.int .i64 (atP l i : Int)) ∧ w = w' := by
  obtain ⟨A, cap, rfl, hc1, hc2⟩ := h.slice
  have H := Lib.hid h
  have hle := atP_le l i
  have hmax : (l.length : Int) ≤ 9223372036854775807 := by unfold maxLen at hc2; omega
  have HST : Hid (∀ k, k ≤ atP l i → (k < atP l i ↔ ∃ e, l[k]? = some e ∧ e.1 < i)) := fun k hk => at_step hk
  clear h
  generalize atP l i = p at *
  go_enter Try.func79, Try.ntmps79
  go_wp2_with fail
  go_loop [5] (fun n => ∃ k : Nat, k ≤ p ∧ n = .int .i64 k) (fun n => l.length - (intOf n).toNat)
  case atStart => exact ⟨0, by omega, rfl⟩
  case round =>
    obtain ⟨k, hk, rfl⟩ := hrel
    have hst := HST.out k hk
    by_cases hlt : k < l.length
    · have hg : l[k]? = some l[k] := List.getElem?_eq_getElem hlt
      obtain ⟨g, cap', hs, -, -, c0, -, -⟩ := H.out.at hg
      injection hs with h1 h2 h3
      subst h1
      by_cases hi : l[k].1 < i
      · have hk' : k < p := hst.2 ⟨_, hg, hi⟩
        generalize l[k] = e at c0 hi
        clear hst hg
        go_wp2_with fail
        exact ⟨⟨k + 1, by omega, by go_num⟩, by simp [intOf]; omega⟩
      · have hk' : k = p := by
          rcases Nat.lt_or_ge k p with h' | h'
          · obtain ⟨e, he, hei⟩ := hst.1 h'
            rw [hg] at he; injection he with he; subst he; exact absurd hei hi
          · omega
        generalize l[k] = e at c0 hi
        clear hst hg
        subst hk'
        go_wp2_with fail
        go_ret
        exact ⟨rfl, rfl⟩
    · obtain rfl : k = p := by omega
      clear hst
      go_wp2_with fail
      go_ret
      exact ⟨rfl, rfl⟩
end Go.Proofs.Ytcicfijpfhbcaaa
namespace Go.Proofs.Ytcicfijpfhbcaaa
set_option linter.unusedSimpArgs false
set_option linter.unusedVariables false
set_option linter.unusedSectionVars false
open Go.RowKit

theorem infoE : (Try.prog.info? 83).map (fun i => (i.size, i.bytes, i.zero.map fun z => z.cells.size)) = some (3, 24, some 3) := by kernel_rfl
theorem info_partsE : ∃ i z, Try.prog.info? 83 = some i ∧ i.zero = some z ∧ i.size = 3 ∧ i.bytes = 24 ∧ z.cells.size = 3 := by
  have h := infoE
  cases hi : Try.prog.info? 83 with
  | none => rw [hi] at h; simp at h
  | some i =>
    rw [hi] at h
    simp only [Option.map_some, Option.some.injEq, Prod.mk.injEq] at h
    obtain ⟨h1, h2, h3⟩ := h
    cases hz : i.zero with
    | none => rw [hz] at h3; simp at h3
    | some z => rw [hz] at h3; exact ⟨i, z, rfl, hz, h1, h2, by simpa using h3⟩
theorem below_grown {w w' : World} {v : Value} {base : Nat} (h : w.grownBy w' v.ownBlock) (hb : base ≤ w.heap.size) (hv : ∀ g, v.ownBlock = some g → base ≤ g) : Below base w w' :=
  ⟨h.os, h.tape, h.output, h.size, fun k hk => h.block k (by omega) fun e => by have := hv k e.symm; omega⟩
theorem OwnE.base_ {w : World} {base : Nat} {l : List E3} {v : Value} (h : OwnE w base l v) : ∀ g, v.ownBlock = some g → base ≤ g := fun g hg => by
  rcases h.2 with ⟨h1, -⟩ | ⟨q, cap, cur, h1, h2, -⟩
  · rw [h1] at hg; cases hg
  · rw [h1] at hg
    have : q = g := by simpa [Value.ownBlock] using hg
    omega
/-- What an append to an owned list leaves: a list that is owned, all other blocks as they were. -/
structure AppE (w w' : World) (base : Nat) (l : List E3) (v v' : Value) : Prop where
  own : OwnE w' base l v'
  below : Below base w w'
  far : ∀ b, b < w.heap.size → v.ownBlock ≠ some b → w'.heap[b]? = w.heap[b]?
  lies : ∀ q, v'.ownBlock = some q → v.ownBlock = some q ∨ w.heap.size ≤ q
theorem OwnE.keep {w w' : World} {base : Nat} {l : List E3} {v : Value} (h : OwnE w base l v) (hk : ∀ q, v.ownBlock = some q → q < w.heap.size → w'.heap[q]? = w.heap[q]?) : OwnE w' base l v := by
  refine ⟨h.1, ?_⟩
  rcases h.2 with h1 | ⟨g, cap, cur, h1, h2, h3, h4⟩
  · exact .inl h1
  · exact .inr ⟨g, cap, cur, h1, h2, by rw [hk g (by rw [h1]; rfl) (lt_of_heap h3)]; exact h3, h4⟩
theorem OwnE.lt {w : World} {base : Nat} {l : List E3} {v : Value} (h : OwnE w base l v) : ∀ q, v.ownBlock = some q → q < w.heap.size := fun q hq => by
  rcases h.2 with ⟨h1, -⟩ | ⟨g, cap, cur, h1, h2, h3, -⟩
  · rw [h1] at hq; cases hq
  · rw [h1] at hq
    have : g = q := by simpa [Value.ownBlock] using hq
    subst this
    exact lt_of_heap h3
/-- Two lists that lie in blocks of their own. -/
def ApartV (v u : Value) : Prop := ∀ q, v.ownBlock = some q → u.ownBlock ≠ some q
theorem AppE.other {w w' : World} {base base' : Nat} {l m : List E3} {v v' u : Value} (h : AppE w w' base l v v') (hu : OwnE w base' m u) (ha : ApartV v u) : OwnE w' base' m u ∧ ApartV v' u :=
  ⟨hu.keep fun q hq hl => h.far q hl fun e => ha q e hq, fun q hq hq' => (h.lies q hq).elim (fun e => ha q e hq') fun e => by have := hu.lt q hq'; omega⟩
/-- One entry is appended to an owned list. -/
theorem wpList_appendE {ops : Array Oper} {rest : List Oper} {o : Oper} {a : Act} {w : World} {Q : Exit → Act → World → Prop} (hgd : o.guard = none) (s x : Operand) (ho : o.op = .call { callee := .builtin .append, args := #[s, x], argTypes := #[79, 79] })
    (base : Nat) (l : List E3) (v : Value) (hs : a.eval s = v) (hown : OwnE w base l v) (g0 : Nat) (e : E3) (t : TypeId) (hx : a.eval x = .slice (some ⟨g0, 0, none⟩) 1 1)
    (hg0 : w.heap[g0]? = some (.cells #[.int .i64 e.1, .int .i64 e.2.1, .int .i64 e.2.2] t (0, 0))) (hb : base ≤ w.heap.size) (hl : l.length ≤ 1073741824)
    (h : ∀ v' w', AppE w w' base (l ++ [e]) v v' → wpList Try.prog ops Q rest (a.put o.dst v') w') : wpList Try.prog ops Q (o :: rest) a w := by
  obtain ⟨i0, z0, hi0, hz0, hz1, hz2, hz3⟩ := info_partsE
  refine wpList_append_lies w hgd s x _ ho base 83 i0 z0 3 24 Try.underlying79 hi0 hz0 hz1 hz2 hz3 (by omega) v l.length (flatE l) hs hown
    ⟨g0, 0, none⟩ 1 1 [.int .i64 e.1, .int .i64 e.2.1, .int .i64 e.2.2] hx rfl (World.news_of_block hg0) (by simp [Value.oneCell'])
    (by omega) (by unfold maxLen; omega) (by omega) hb _ rfl fun g cap w' h1 h2 h3 h4 => h _ _ ⟨?_, below_grown h2 hb hown.base_, fun b hb hn => h2.block b hb fun e => hn e.symm, fun q hq => ?_⟩
  · unfold OwnE
    rw [List.length_append, flatE_append]
    exact h1
  · have : g = q := by simpa [Value.ownBlock] using hq
    subst this
    exact h3.imp id fun e => by omega
theorem wpList_appendE' {ops : Array Oper} {rest : List Oper} {o : Oper} {a : Act} {w : World} {Q : Exit → Act → World → Prop} (hgd : o.guard = none) (s x : Operand) (ho : o.op = .call { callee := .builtin .append, args := #[s, x], argTypes := #[79, 79] })
    (base : Nat) (l : List E3) (v : Value) (hs : a.eval s = v) (hown : OwnE w base l v) (e : E3) (t : TypeId) (hx : a.eval x = .slice (some ⟨w.heap.size, 0, none⟩) 1 1)
    (hb : base ≤ w.heap.size) (hl : l.length ≤ 1073741824)
    (h : ∀ v' w', AppE w w' base (l ++ [e]) v v' → wpList Try.prog ops Q rest (a.put o.dst v') w') : wpList Try.prog ops Q (o :: rest) a (w.alloc (.cells #[.int .i64 e.1, .int .i64 e.2.1, .int .i64 e.2.2] t)) :=
  wpList_appendE hgd s x ho base l v hs (hown.below (Below.alloc (Below.refl _ _) (Nat.le_refl _) _)) w.heap.size e t hx (heap_alloc_new _ _) (by simp; omega) hl fun v' w' h1 =>
    h v' w' ⟨h1.own, ((Below.refl base w).alloc hb _).trans h1.below, fun b hb hn => (h1.far b (by simp; omega) hn).trans (Below.heap_alloc _ _ _ hb), fun q hq => (h1.lies q hq).imp id fun e => by simp at e; omega⟩

/-- Where a loop stands that appends one list to another one. -/
structure CopyI (w0 wz : World) (base base' : Nat) (lp le : List E3) (n : Nat) (v u : Value) : Prop where
  own : OwnE wz base (lp ++ le.take n) v
  src : OwnE wz base' le u
  apart : ApartV v u
  below : Below base w0 wz
theorem CopyI.step {w0 wz w' : World} {base base' : Nat} {lp le : List E3} {n : Nat} {v u v' : Value} {e : E3} (h : CopyI w0 wz base base' lp le n v u) (he : le[n]? = some e) (ha : AppE wz w' base ((lp ++ le.take n) ++ [e]) v v') : CopyI w0 w' base base' lp le (n + 1) v' u := by
  have h1 := ha.other h.src h.apart
  refine ⟨?_, h1.1, h1.2, h.below.trans ha.below⟩
  have hlt : n < le.length := (List.getElem?_eq_some_iff.1 he).1
  have e2 : le.take (n + 1) = le.take n ++ [e] := by rw [List.take_add_one, he]; rfl
  rw [e2, ← List.append_assoc]
  exact ha.own
theorem CopyI.start {w0 wr wz : World} {base : Nat} {lp le : List E3} {v u : Value} (h : OwnE wr base lp v) (hb : Below wr.heap.size wr wz) (hu : OwnE wz wr.heap.size le u) (hw : Below base w0 wz) : CopyI w0 wz base wr.heap.size lp le 0 v u :=
  ⟨by rw [List.take_zero, List.append_nil]; exact h.below hb, hu, fun q h1 h2 => by have := h.lt q h1; have := hu.base_ q h2; omega, hw⟩
theorem CopyI.done {w0 wz : World} {base base' : Nat} {lp le : List E3} {v u : Value} (h : CopyI w0 wz base base' lp le le.length v u) : OwnE wz base (lp ++ le) v := by
  have := h.own
  rwa [List.take_length] at this

/-- The entry at an index as a row of the reference's list. -/
def row3 (first : Int) (e : Ent) (j : Nat) : List E3 := if e.1 = 0 then [] else [(first + j, e.1, tgE e)]
/-- The reference's entries below a node of level m + 1. -/
def ent3 : Nat → RN → Int → List E3
  | 0, x, first => (List.range 8).flatMap fun d => row3 first (ent x d) d
  | m + 1, x, first => (List.range 8).flatMap fun d => if absentB (x.kid d) then [] else ent3 m (x.kid d) (first + d * 8 ^ (m + 1))
def ent3D : Nat → RN → Int → Nat → List E3
  | 0, x, first, d => row3 first (ent x d) d
  | m + 1, x, first, d => if absentB (x.kid d) then [] else ent3 m (x.kid d) (first + d * 8 ^ (m + 1))
def ent3To (m : Nat) (x : RN) (first : Int) (k : Nat) : List E3 := (List.range k).flatMap (ent3D m x first)
theorem ent3To_8 (m : Nat) (x : RN) (first : Int) : ent3To m x first 8 = ent3 m x first := by cases m <;> rfl
theorem ent3To_succ (m : Nat) (x : RN) (first : Int) (k : Nat) : ent3To m x first (k + 1) = ent3To m x first k ++ ent3D m x first k := by simp [ent3To, List.range_succ]
theorem ent3_all : ∀ (m : Nat) (x : RN) (first : Int), ent3 m x first = (List.range (8 ^ (m + 1))).flatMap fun j => row3 first (lk m x j) j
  | 0, x, first => by
    show (List.range 8).flatMap _ = (List.range 8).flatMap _
    refine flatMap_congr' fun j hj => ?_
    have hj8 : j % 8 = j := Nat.mod_eq_of_lt (List.mem_range.1 hj)
    show row3 first (ent x j) j = row3 first (ent x (j % 8)) j
    rw [hj8]
  | m + 1, x, first => by
    rw [show (8 : Nat) ^ (m + 1 + 1) = 8 * 8 ^ (m + 1) by rw [Nat.pow_succ, Nat.mul_comm], range_mul]
    show (List.range 8).flatMap _ = _
    refine flatMap_congr' fun d hd => ?_
    have hd8 := List.mem_range.1 hd
    have e : ∀ r ∈ List.range (8 ^ (m + 1)), row3 first (lk (m + 1) x (d * 8 ^ (m + 1) + r)) (d * 8 ^ (m + 1) + r) = row3 (first + ((d : Int) * 8 ^ (m + 1))) (lk m (x.kid d) r) r := fun r hr => by
      rw [lk_top x hd8 (List.mem_range.1 hr)]
      unfold row3
      split
      · rfl
      · congr 2; push_cast; omega
    rw [flatMap_congr' e]
    by_cases ha : absentB (x.kid d) = true
    · rw [if_pos ha]
      have e2 : ∀ r ∈ List.range (8 ^ (m + 1)), row3 (first + ((d : Int) * 8 ^ (m + 1))) (lk m (x.kid d) r) r = [] := fun r _ => by rw [lk_absent m ha, row3, if_pos (show e0.1 = 0 from rfl)]
      rw [flatMap_congr' e2]; simp
    · rw [if_neg ha]
      exact ent3_all m _ _
theorem flatMap_len {α : Type} (b : Nat) (f : Nat → List α) (hf : ∀ d, (f d).length ≤ b) : ∀ k, ((List.range k).flatMap f).length ≤ k * b
  | 0 => by simp
  | k + 1 => by
    rw [List.range_succ, List.flatMap_append, List.length_append, Nat.succ_mul]
    have := flatMap_len b f hf k
    have := hf k
    simp only [List.flatMap_cons, List.flatMap_nil, List.append_nil]
    omega
theorem row3_len (first : Int) (e : Ent) (j : Nat) : (row3 first e j).length ≤ 1 := by unfold row3; split <;> simp
theorem ent3_len (m : Nat) (x : RN) (first : Int) : (ent3 m x first).length ≤ 8 ^ (m + 1) := by
  rw [ent3_all]
  have := flatMap_len 1 (fun j => row3 first (lk m x j) j) (fun d => row3_len _ _ _) (8 ^ (m + 1))
  omega
theorem ent3D_len (m : Nat) (x : RN) (first : Int) (d : Nat) : (ent3D m x first d).length ≤ 8 ^ m := by
  match m with
  | 0 => exact row3_len _ _ _
  | m + 1 =>
    show (if absentB (x.kid d) then [] else ent3 m (x.kid d) (first + d * 8 ^ (m + 1))).length ≤ _
    split
    · exact Nat.zero_le _
    · exact ent3_len _ _ _
theorem ent3To_len (m : Nat) (x : RN) (first : Int) (k : Nat) : (ent3To m x first k).length ≤ k * 8 ^ m := flatMap_len _ _ (ent3D_len m x first) k

/-- The tags of an entry as the reference reckons them. -/
theorem shl_tab : ∀ a b : Bool, bits .or .i64 (if a then 1 else 0) (wrap64 ((if b then 1 else 0) * 2)) = (if a then 1 else 0) + (if b then 1 else 0) * 2 := by decide +kernel
theorem tags_eq (x : RN) (k : Nat) : bits .or .i64 (tagI x.t0 k) (wrap64 (tagI x.t1 k * 2)) = tgE (ent x k) := shl_tab _ _

def EntPost (l : List E3) (w : World) (e : Ending) (w' : World) : Prop := ∃ v, e = .returned v ∧ OwnE w' w.heap.size l v ∧ Below w.heap.size w w'

set_option maxRecDepth 100000 in
set_option maxHeartbeats 1000000 in
theorem r_entries_leaf (cs : Array Value) (x : RN) (first : Int) (w : World) (h : RdVals w cs 11 (encN x)) (hx : okN 0 x) (f0 : 0 ≤ first) (f1 : first + 8 ≤ 1073741824) :
    Calls Try.prog 101 #[.agg cs, .int .i64 1, .int .i64 first] w (EntPost (ent3 0 x first) w) := by
  obtain ⟨A, cap, rfl, hk⟩ := rdN_open h
  obtain ⟨-, r0, r1, -⟩ := hx.1
  have hv := fun s => listN_v x s
  have HV := Lib.hid hv
  clear h hk hx hv
  go_enter Try.func101, Try.ntmps101
  go_wp2_with fail
  go_loopw [7, 8] (fun v i wr => ∃ k : Nat, k ≤ 8 ∧ i = .int .i64 k ∧ OwnE wr (w.heap.size + 1) (ent3To 0 x first k) v ∧ Below (w.heap.size + 1) (w.alloc (.cells (cellsN x (.slice A x.n cap)) 26)) wr) (fun _ i _ => 8 - (intOf i).toNat)
  case atStart => exact ⟨0, by omega, rfl, OwnE.nil _ _, by (repeat' (first | (with_reducible exact Below.refl _ _) | (with_reducible assumption) | (with_reducible refine below_plus ?_ ?_ _) | (with_reducible refine Below.alloc ?_ ?_ _) | (with_reducible refine Below.drew ?_) | (with_reducible refine below_drewN ?_ _) | (with_reducible refine Below.setCell ?_ ?_ _) | (first | omega | (simp only [World.size_alloc, size_plus, World.size_drew, World.size_setCell] <;> omega) | (simp <;> omega)) | omega | (simp; omega)))⟩
  case round =>
    obtain ⟨k, hk, rfl, hown, hb⟩ := hrel
    rcases Nat.lt_or_ge k 8 with hlt | hge
    · have hbox : wr.heap[w.heap.size]? = some (.cells (cellsN x (.slice A x.n cap)) 26 (0, 0)) := (hb.block _ (by omega)).trans (heap_alloc_new _ _)
      have cv : wr.cell? ⟨w.heap.size, k, none⟩ = some (.int .i64 (x.v k)) := by rw [cell_of_row _ _ _ _ _ _ hbox, cellsN_v _ _ _ hlt]
      have c8 : wr.cell? ⟨w.heap.size, 8, none⟩ = some (.int .i64 x.t0) := by rw [cell_of_row _ _ _ _ _ _ hbox]; rfl
      have c9 : wr.cell? ⟨w.heap.size, 9, none⟩ = some (.int .i64 x.t1) := by rw [cell_of_row _ _ _ _ _ _ hbox]; rfl
      have b0 := tag_bits r0 hlt
      have b1 := tag_bits r1 hlt
      have hown' := Lib.hid hown
      have hb' := Lib.hid hb
      clear hown hb hbox
      have htg := Lib.hid (tags_eq x k)
      have hsz : w.heap.size + 1 ≤ wr.heap.size := by have := hb'.out.size; simpa using this
      have hlen : (ent3To 0 x first k).length ≤ 1073741824 := Nat.le_trans (ent3To_len 0 x first k) (by omega)
      have hs3 := Lib.hid (ent3To_succ 0 x first k)
      by_cases hz : x.v k = 0
      · have hD : ent3D 0 x first k = [] := by show row3 first (ent x k) k = []; rw [row3, if_pos (show (ent x k).1 = 0 from hz)]
        rw [Hid, hD, List.append_nil] at hs3
        have hs3 := Lib.hid hs3
        go_wp2_with fail
        exact ⟨⟨k + 1, by omega, by go_num, by rw [hs3.out]; exact hown'.out, hb'.out⟩, by simp [intOf]; omega⟩
      · have hD : ent3D 0 x first k = [(first + k, x.v k, tgE (ent x k))] := by show row3 first (ent x k) k = _; rw [row3, if_neg (show ¬ (ent x k).1 = 0 from hz)]; rfl
        rw [Hid, hD] at hs3
        have hs3 := Lib.hid hs3
        go_wp2_with ((with_reducible refine wpList_appendE' ?_ (.tmp 39) (.tmp 49) ?_ (w.heap.size + 1) _ _ ?_ hown'.out (first + k, x.v k, _) _ ?_ hsz hlen ?_); rfl; (with_reducible rfl); rfl; rfl; (intro v' w' ho2); rw [htg.out] at ho2; have HO2 := Lib.hid ho2.own; have HB2 := Lib.hid ho2.below; clear ho2)
        exact ⟨⟨k + 1, by omega, by go_num, by rw [hs3.out]; exact HO2.out, hb'.out.trans HB2.out⟩, by simp [intOf]; omega⟩
    · obtain rfl : k = 8 := by omega
      have HF : Hid (EntPost (ent3 0 x first) w (.returned u7) wr) := ⟨_, rfl, by rw [← ent3To_8]; exact hown.mono (by omega), ((Below.refl w.heap.size w).alloc (Nat.le_refl _) _).trans (hb.mono (by omega))⟩
      clear hown hb
      go_wp2_with fail
      go_ret
      exact HF.out

set_option maxRecDepth 100000 in
set_option maxHeartbeats 1000000 in
theorem r_entries_step (m : Nat) (hm : m ≤ 8) (cs : Array Value) (x : RN) (first : Int) (w : World) (h : RdVals w cs 11 (encN x)) (hx : okN (m + 1) x) (f0 : 0 ≤ first) (f1 : first + 8 ^ (m + 2) ≤ 1073741824)
    (IH : ∀ (cs : Array Value) (y : RN) (f : Int) (w : World), RdVals w cs 11 (encN y) → okN m y → 0 ≤ f → f + 8 ^ (m + 1) ≤ 1073741824 → Calls Try.prog 101 #[.agg cs, .int .i64 ((m : Int) + 1), .int .i64 f] w (EntPost (ent3 m y f) w)) :
    Calls Try.prog 101 #[.agg cs, .int .i64 ((m : Int) + 2), .int .i64 first] w (EntPost (ent3 (m + 1) x first) w) := by
  obtain ⟨A, cap, rfl, hk⟩ := rdN_open h
  have hn8 := Lib.hid (show x.n = 8 from hx.1.1)
  have hcap := (encK_n hk).2
  have HK := Lib.hid hk
  have HX := Lib.hid hx
  have HI := Lib.hid IH
  have hm2 : ((m : Int) + 2 == 1) = false := by simp; omega
  clear h hk hx IH
  go_enter Try.func101, Try.ntmps101
  go_wp2_with fail
  go_loopw [7, 8] (fun v i wr => ∃ k : Nat, k ≤ 8 ∧ i = .int .i64 k ∧ OwnE wr (w.heap.size + 1) (ent3To (m + 1) x first k) v ∧ Below (w.heap.size + 1) (w.alloc (.cells (cellsN x (.slice A x.n cap)) 26)) wr) (fun _ i _ => 8 - (intOf i).toNat)
  case atStart => exact ⟨0, by omega, rfl, OwnE.nil _ _, by (repeat' (first | (with_reducible exact Below.refl _ _) | (with_reducible assumption) | (with_reducible refine below_plus ?_ ?_ _) | (with_reducible refine Below.alloc ?_ ?_ _) | (with_reducible refine Below.drew ?_) | (with_reducible refine below_drewN ?_ _) | (with_reducible refine Below.setCell ?_ ?_ _) | (first | omega | (simp only [World.size_alloc, size_plus, World.size_drew, World.size_setCell] <;> omega) | (simp <;> omega)) | omega | (simp; omega)))⟩
  case round =>
    obtain ⟨k, hk, rfl, hown, hb⟩ := hrel
    rcases Nat.lt_or_ge k 8 with hlt | hge
    · have hbox : wr.heap[w.heap.size]? = some (.cells (cellsN x (.slice A x.n cap)) 26 (0, 0)) := (hb.block _ (by omega)).trans (heap_alloc_new _ _)
      obtain ⟨g, b, s, rfl, hgl, hks, hvk, hck⟩ := encK_kid (i := k) HK.out (by have := hn8.out; omega)
      have ck : wr.cell? ⟨w.heap.size, 10, none⟩ = some (.slice (some ⟨g, b, none⟩) x.n cap) := by rw [cell_of_row _ _ _ _ _ _ hbox]; rfl
      have hbw : Below w.heap.size w wr := ((Below.refl w.heap.size w).alloc (Nat.le_refl _) _).trans (hb.mono (by omega))
      have hkn : (k : Int) < (x.n : Int) := by have := hn8.out; omega
      have HC : Hid (∀ j v, (cellsN (x.kid k) s).toList[j]? = some v → wr.cell? ⟨g, b + k * 11 + j, none⟩ = some v) := fun j v hj => below_keeps hbw _ _ (hck j v hj)
      have HV := Lib.hid (hvk.keep (below_keeps hbw))
      have HOWN := Lib.hid hown
      have HB := Lib.hid hb
      have HBW := Lib.hid hbw
      have hsz : w.heap.size + 1 ≤ wr.heap.size := by have := hb.size; simpa using this
      have hs3 := Lib.hid (ent3To_succ (m + 1) x first k)
      clear hck hvk hown hb hbw hbox hks
      cases ha : absentB (x.kid k)
      · obtain ⟨p, hp⟩ : ∃ p, (8 : Nat) ^ (m + 1) = p := ⟨_, rfl⟩
        have hpI : (8 : Int) ^ (m + 1) = (p : Int) := by rw [← hp]; push_cast; rfl
        have hp0 : 0 < p := by rw [← hp]; exact pow8_pos _
        have f2 : first + 8 * (p : Int) ≤ 1073741824 := by
          have e : (8 : Int) ^ (m + 2) = 8 ^ (m + 1) * 8 := Int.pow_succ ..
          rw [e, hpI] at f1; omega
        have hkp : (k : Int) * p ≤ 7 * p := Int.mul_le_mul_of_nonneg_right (by omega) (by omega)
        have hkp0 : 0 ≤ (k : Int) * p := Int.mul_nonneg (by omega) (by omega)
        have hD : ent3D (m + 1) x first k = ent3 m (x.kid k) (first + k * p) := by show (if absentB (x.kid k) then [] else ent3 m (x.kid k) (first + k * 8 ^ (m + 1))) = _; rw [if_neg (by rw [ha]; decide), hpI]
        rw [Hid, hD] at hs3
        have hlen : (ent3To (m + 1) x first k ++ ent3 m (x.kid k) (first + k * p)).length ≤ 1073741824 := by
          rw [← hs3]
          refine Nat.le_trans (ent3To_len (m + 1) x first (k + 1)) ?_
          rw [hp]
          have h1 : (k + 1) * p ≤ 8 * p := Nat.mul_le_mul_right _ (by omega)
          omega
        have hs3 := Lib.hid hs3
        have hokk : okN m (x.kid k) := by
          have hq : okQ (m + 1) x := .inr HX.out.1
          rcases hq.kid (i := k) (by omega) with hh | hh
          · rw [ha] at hh; cases hh
          · exact hh
        have HIK : Hid (∀ W, Below wr.heap.size wr W → Calls Try.prog 101 #[.agg (cellsN (x.kid k) s), .int .i64 ((m : Int) + 1), .int .i64 (first + k * p)] W (EntPost (ent3 m (x.kid k) (first + k * p)) W)) := fun W hW =>
          HI.out _ _ _ _ (HV.out.keep (below_keeps hW)) hokk (by omega) (by rw [hpI]; omega)
        have HSP : Hid (∀ W, Calls Try.prog 102 #[.int .i64 ((m : Int) + 1)] W fun e w' => e = .returned (.int .i64 (p : Int)) ∧ W = w') := fun W => by
          have := r_span (m + 1) (by omega) W
          rw [hp] at this
          push_cast at this; exact this
        clear hp hpI hD hokk f1
        go_upto_region 10 with (first
          | ((with_reducible refine wpList_loadN (.tmp 54) ?_ ?_ (g) (b + k * 11) ?_ (x.kid k) (s) ?_ ?_); (with_reducible rfl); rfl; rfl; (intro j v hj; exact below_keeps (by (repeat' (first | (with_reducible exact Below.refl _ _) | (with_reducible assumption) | (with_reducible refine below_plus ?_ ?_ _) | (with_reducible refine Below.alloc ?_ ?_ _) | (with_reducible refine Below.drew ?_) | (with_reducible refine below_drewN ?_ _) | (with_reducible refine Below.setCell ?_ ?_ _) | (first | omega | (simp only [World.size_alloc, size_plus, World.size_drew, World.size_setCell] <;> omega) | (simp <;> omega)) | omega | (simp; omega)))) _ _ (HC.out j v hj)))
          | (go_at_call 69; refine (r_Absent _ (x.kid k) _ ?_).mono ?_; exact HV.out.keep (below_keeps (by (repeat' (first | (with_reducible exact Below.refl _ _) | (with_reducible assumption) | (with_reducible refine below_plus ?_ ?_ _) | (with_reducible refine Below.alloc ?_ ?_ _) | (with_reducible refine Below.drew ?_) | (with_reducible refine below_drewN ?_ _) | (with_reducible refine Below.setCell ?_ ?_ _) | (first | omega | (simp only [World.size_alloc, size_plus, World.size_drew, World.size_setCell] <;> omega) | (simp <;> omega)) | omega | (simp; omega))))); rintro e w' ⟨rfl, hb⟩; (first | (obtain ⟨X, rfl⟩ := plus_again hb) | (obtain ⟨X, rfl⟩ := plus_of_below hb)); clear hb; rw [ha]))
        generalize hW1 : World.plus wr _ = W1
        have hb1 : Below wr.heap.size wr W1 := by rw [← hW1]; exact below_plus (Below.refl _ _) (Nat.le_refl _) _
        clear hW1
        have hbd := hb1.drew
        have hS : (∀ j u, (cellsN (x.kid k) s).toList[j]? = some u → W1.drew.cell? ⟨g, b + k * 11 + j, none⟩ = some u) ∧ W1.drew.cell? ⟨w.heap.size, 10, none⟩ = some (.slice (some ⟨g, b, none⟩) x.n cap) := ⟨fun j u hj => below_keeps hbd _ _ (HC.out j u hj), below_keeps hbd _ _ ck⟩
        have HB1 := Lib.hid hbd
        have hsz1 := hb1.size
        clear hb1 hbd
        refine wp_region_G (fun W => (∀ j u, (cellsN (x.kid k) s).toList[j]? = some u → W.cell? ⟨g, b + k * 11 + j, none⟩ = some u) ∧ W.cell? ⟨w.heap.size, 10, none⟩ = some (.slice (some ⟨g, b, none⟩) x.n cap)) [] (by kernel_rfl) ?_
        refine wpAnyG_take (i := 0) (v := .pointer (some ⟨w.heap.size, 10, none⟩)) rfl (by kernel_rfl) (by kernel_rfl) (by kernel_rfl) (by kernel_rfl) (by kernel_rfl) (fun _ _ _ h => h) (Or.inl ⟨by rfl, ?_⟩) hS ?_
        · intro W hW
          have hc := hW.2
          clear hW hS
          go_simp
          all_goals (try (rw [IntKind.wrap_i64]; omega))
        try simp only [Act.put, List.setIfInBounds_toArray, List.set_cons_zero, List.set_cons_succ]
        refine wpAnyG_take (i := 1) (v := .slice (some ⟨g, b, none⟩) x.n cap) rfl (by kernel_rfl) (by kernel_rfl) (by kernel_rfl) (by kernel_rfl) (by kernel_rfl) (fun _ _ _ h => h) (Or.inl ⟨by rfl, ?_⟩) hS ?_
        · intro W hW
          have hc := hW.2
          clear hW hS
          go_simp
          all_goals (try (rw [IntKind.wrap_i64]; omega))
        try simp only [Act.put, List.setIfInBounds_toArray, List.set_cons_zero, List.set_cons_succ]
        refine wpAnyG_take (i := 2) (v := .int .i64 k) rfl (by kernel_rfl) (by kernel_rfl) (by kernel_rfl) (by kernel_rfl) (by kernel_rfl) (fun _ _ _ h => h) (Or.inl ⟨by rfl, ?_⟩) hS ?_
        · intro W hW
          have hc := hW.2
          clear hW hS
          go_simp
          all_goals (try (rw [IntKind.wrap_i64]; omega))
        try simp only [Act.put, List.setIfInBounds_toArray, List.set_cons_zero, List.set_cons_succ]
        refine wpAnyG_take (i := 3) (v := .pointer (some ⟨g, b + k * 11, none⟩)) rfl (by kernel_rfl) (by kernel_rfl) (by kernel_rfl) (by kernel_rfl) (by kernel_rfl) (fun _ _ _ h => h) (Or.inl ⟨by rfl, ?_⟩) hS ?_
        · intro W hW
          have hc := hW.2
          clear hW hS
          go_simp
          all_goals (try (rw [IntKind.wrap_i64]; omega))
        try simp only [Act.put, List.setIfInBounds_toArray, List.set_cons_zero, List.set_cons_succ]
        refine wpAnyG_take (i := 4) (v := .agg (cellsN (x.kid k) s)) rfl (by kernel_rfl) (by kernel_rfl) (by kernel_rfl) (by kernel_rfl) (by kernel_rfl) (fun _ _ _ h => h) (Or.inl ⟨by rfl, fun W hW => run_loadN (.tmp 61) rfl g (b + k * 11) rfl _ _ hW.1⟩) hS ?_
        try simp only [Act.put, List.setIfInBounds_toArray, List.set_cons_zero, List.set_cons_succ]
        refine wpAnyG_take (i := 5) (v := .int .i64 ((m : Int) + 2)) rfl (by kernel_rfl) (by kernel_rfl) (by kernel_rfl) (by kernel_rfl) (by kernel_rfl) (fun _ _ _ h => h) (Or.inl ⟨by rfl, ?_⟩) hS ?_
        · intro W hW
          have hc := hW.2
          clear hW hS
          go_simp
          all_goals (try (rw [IntKind.wrap_i64]; omega))
        try simp only [Act.put, List.setIfInBounds_toArray, List.set_cons_zero, List.set_cons_succ]
        refine wpAnyG_take (i := 6) (v := .int .i64 ((m : Int) + 1)) rfl (by kernel_rfl) (by kernel_rfl) (by kernel_rfl) (by kernel_rfl) (by kernel_rfl) (fun _ _ _ h => h) (Or.inl ⟨by rfl, ?_⟩) hS ?_
        · intro W hW
          have hc := hW.2
          clear hW hS
          go_simp
          all_goals (try (rw [IntKind.wrap_i64]; omega))
        try simp only [Act.put, List.setIfInBounds_toArray, List.set_cons_zero, List.set_cons_succ]
        refine wpAnyG_take (i := 7) (v := .int .i64 first) rfl (by kernel_rfl) (by kernel_rfl) (by kernel_rfl) (by kernel_rfl) (by kernel_rfl) (fun _ _ _ h => h) (Or.inl ⟨by rfl, ?_⟩) hS ?_
        · intro W hW
          have hc := hW.2
          clear hW hS
          go_simp
          all_goals (try (rw [IntKind.wrap_i64]; omega))
        try simp only [Act.put, List.setIfInBounds_toArray, List.set_cons_zero, List.set_cons_succ]
        refine wpAnyG_take (i := 8) (v := .int .i64 k) rfl (by kernel_rfl) (by kernel_rfl) (by kernel_rfl) (by kernel_rfl) (by kernel_rfl) (fun _ _ _ h => h) (Or.inl ⟨by rfl, ?_⟩) hS ?_
        · intro W hW
          have hc := hW.2
          clear hW hS
          go_simp
          all_goals (try (rw [IntKind.wrap_i64]; omega))
        try simp only [Act.put, List.setIfInBounds_toArray, List.set_cons_zero, List.set_cons_succ]
        refine wpAnyG_take (i := 9) (v := .int .i64 ((m : Int) + 2)) rfl (by kernel_rfl) (by kernel_rfl) (by kernel_rfl) (by kernel_rfl) (by kernel_rfl) (fun _ _ _ h => h) (Or.inl ⟨by rfl, ?_⟩) hS ?_
        · intro W hW
          have hc := hW.2
          clear hW hS
          go_simp
          all_goals (try (rw [IntKind.wrap_i64]; omega))
        try simp only [Act.put, List.setIfInBounds_toArray, List.set_cons_zero, List.set_cons_succ]
        refine wpAnyG_take (i := 10) (v := .int .i64 ((m : Int) + 1)) rfl (by kernel_rfl) (by kernel_rfl) (by kernel_rfl) (by kernel_rfl) (by kernel_rfl) (fun _ _ _ h => h) (Or.inl ⟨by rfl, ?_⟩) hS ?_
        · intro W hW
          have hc := hW.2
          clear hW hS
          go_simp
          all_goals (try (rw [IntKind.wrap_i64]; omega))
        try simp only [Act.put, List.setIfInBounds_toArray, List.set_cons_zero, List.set_cons_succ]
        refine wpAnyG_one (i := 11) (by kernel_rfl) rfl (fun K' hK => ?_)
        have HKK := Lib.hid hK
        clear hK
        go_simp
        refine (HSP.out _).mono ?_
        rintro e W2 ⟨rfl, rfl⟩
        refine HKK.out _ _ (fun _ _ => hS) ?_
        clear HKK K'
        try simp only [Act.put, List.setIfInBounds_toArray, List.set_cons_zero, List.set_cons_succ]
        refine wpAnyG_take (i := 12) (v := .int .i64 ((k : Int) * p)) rfl (by kernel_rfl) (by kernel_rfl) (by kernel_rfl) (by kernel_rfl) (by kernel_rfl) (fun _ _ _ h => h) (Or.inl ⟨by rfl, ?_⟩) hS ?_
        · intro W hW
          have hc := hW.2
          clear hW hS
          go_simp
          all_goals (try (rw [IntKind.wrap_i64]; omega))
        try simp only [Act.put, List.setIfInBounds_toArray, List.set_cons_zero, List.set_cons_succ]
        refine wpAnyG_take (i := 13) (v := .int .i64 (first + k * p)) rfl (by kernel_rfl) (by kernel_rfl) (by kernel_rfl) (by kernel_rfl) (by kernel_rfl) (fun _ _ _ h => h) (Or.inl ⟨by rfl, ?_⟩) hS ?_
        · intro W hW
          have hc := hW.2
          clear hW hS
          go_simp
          all_goals (try (rw [IntKind.wrap_i64]; omega))
        try simp only [Act.put, List.setIfInBounds_toArray, List.set_cons_zero, List.set_cons_succ]
        refine wpAnyG_one (i := 14) (by kernel_rfl) rfl (fun K' hK => ?_)
        have HKK := Lib.hid hK
        clear hK
        go_simp
        refine (HIK.out _ HB1.out).mono ?_
        rintro e W2 ⟨v10, rfl, ho10, hb2⟩
        obtain ⟨A10, cap10, rfl, hc1, hc2⟩ := ho10.slice
        have hb3 := HB1.out.trans (hb2.mono hsz1)
        have hS : (∀ j u, (cellsN (x.kid k) s).toList[j]? = some u → W2.cell? ⟨g, b + k * 11 + j, none⟩ = some u) ∧ W2.cell? ⟨w.heap.size, 10, none⟩ = some (.slice (some ⟨g, b, none⟩) x.n cap) := ⟨fun j u hj => below_keeps hb3 _ _ (HC.out j u hj), below_keeps hb3 _ _ ck⟩
        have HB3 := Lib.hid hb3
        have ho10K := Lib.hid (ho10.mono hsz1)
        clear hb2 hb3 ho10
        refine HKK.out _ _ (fun _ _ => hS) ?_
        clear HKK K'
        try simp only [Act.put, List.setIfInBounds_toArray, List.set_cons_zero, List.set_cons_succ]
        refine wpAnyG_one (i := 15) (by kernel_rfl) rfl (fun K' hK => ?_)
        have HKK := Lib.hid hK
        clear hK
        go_simp
        refine HKK.out _ _ (fun _ _ => hS) ?_
        clear HKK K'
        try simp only [Act.put, List.setIfInBounds_toArray, List.set_cons_zero, List.set_cons_succ]
        refine wpAnyG_done (by kernel_rfl) ?_ _
        clear hS
        go_wp2_with fail
        have hlm : ((ent3 m (x.kid k) (first + k * p)).length : Int) ≤ 1073741824 := by rw [List.length_append] at hlen; omega
        have HL := Lib.hid hlen
        generalize ent3 m (x.kid k) (first + k * p) = le at *
        generalize ent3To (m + 1) x first k = lp at *
        clear hlen
        have HST := Lib.hid (CopyI.start (w0 := w.alloc (.cells (cellsN x (.slice (some ⟨g, b, none⟩) x.n cap)) 26)) HOWN.out HB3.out ho10K.out (HB.out.trans (HB3.out.mono hsz)))
        clear ho10K HB3 HB1 HSP HIK
        go_loopw [7, 11] (fun v j wz => ∃ n : Nat, n ≤ le.length ∧ j = .int .i64 n ∧ CopyI (w.alloc (.cells (cellsN x (.slice (some ⟨g, b, none⟩) x.n cap)) 26)) wz (w.heap.size + 1) wr.heap.size lp le n v (.slice A10 le.length cap10)) (fun _ j _ => le.length - (intOf j).toNat)
        case atStart => exact ⟨0, by omega, rfl, HST.out⟩
        case round =>
          obtain ⟨n, hn, rfl, hC⟩ := hrel
          by_cases hln : n < le.length
          · have hg : le[n]? = some le[n] := List.getElem?_eq_getElem hln
            obtain ⟨g10, cap', hs10, -, -, c0, c1, c2⟩ := hC.src.at hg
            injection hs10 with h1 h2 h3
            subst h1 h3
            clear h2
            have HG := Lib.hid hg
            have hlen : (lp ++ le.take n).length ≤ 1073741824 := by have := HL.out; rw [List.length_append] at this ⊢; rw [List.length_take]; omega
            have hown := Lib.hid hC.own
            have hC' := Lib.hid hC
            have hszz : w.heap.size + 1 ≤ wr.heap.size := by have := hC.below.size; simpa using this
            clear hC hg
            generalize le[n] = en at c0 c1 c2 HG
            go_wp2_with ((with_reducible refine wpList_appendE' ?_ (.tmp 79) (.tmp 84) ?_ (w.heap.size + 1) _ _ ?_ hown.out en _ ?_ hszz hlen ?_); rfl; (with_reducible rfl); rfl; rfl; (intro v' w' hap); have HCS := Lib.hid (hC'.out.step HG.out hap); clear hap)
            exact ⟨⟨n + 1, by omega, by go_num, HCS.out⟩, by simp [intOf]; omega⟩
          · obtain rfl : n = le.length := by omega
            have hd := hC.done
            have HF : Hid (OwnE wr (w.heap.size + 1) (ent3To (m + 1) x first (k + 1)) u7 ∧ Below (w.heap.size + 1) (w.alloc (.cells (cellsN x (.slice (some ⟨g, b, none⟩) x.n cap)) 26)) wr) := ⟨by rw [hs3.out]; exact hd, hC.below⟩
            clear hd hC
            go_wp2_with fail
            exact ⟨⟨k + 1, by omega, by go_num, HF.out⟩, by simp [intOf]; omega⟩
      · have hD : ent3D (m + 1) x first k = [] := by show (if absentB (x.kid k) then [] else _) = []; rw [if_pos ha]
        rw [Hid, hD, List.append_nil] at hs3
        have hs3 := Lib.hid hs3
        go_wp2_with (first
          | ((with_reducible refine wpList_loadN (.tmp 54) ?_ ?_ (g) (b + k * 11) ?_ (x.kid k) (s) ?_ ?_); (with_reducible rfl); rfl; rfl; (intro j v hj; exact below_keeps (by (repeat' (first | (with_reducible exact Below.refl _ _) | (with_reducible assumption) | (with_reducible refine below_plus ?_ ?_ _) | (with_reducible refine Below.alloc ?_ ?_ _) | (with_reducible refine Below.drew ?_) | (with_reducible refine below_drewN ?_ _) | (with_reducible refine Below.setCell ?_ ?_ _) | (first | omega | (simp only [World.size_alloc, size_plus, World.size_drew, World.size_setCell] <;> omega) | (simp <;> omega)) | omega | (simp; omega)))) _ _ (HC.out j v hj)))
          | (go_at_call 69; refine (r_Absent _ (x.kid k) _ ?_).mono ?_; exact HV.out.keep (below_keeps (by (repeat' (first | (with_reducible exact Below.refl _ _) | (with_reducible assumption) | (with_reducible refine below_plus ?_ ?_ _) | (with_reducible refine Below.alloc ?_ ?_ _) | (with_reducible refine Below.drew ?_) | (with_reducible refine below_drewN ?_ _) | (with_reducible refine Below.setCell ?_ ?_ _) | (first | omega | (simp only [World.size_alloc, size_plus, World.size_drew, World.size_setCell] <;> omega) | (simp <;> omega)) | omega | (simp; omega))))); rintro e w' ⟨rfl, hb⟩; (first | (obtain ⟨X, rfl⟩ := plus_again hb) | (obtain ⟨X, rfl⟩ := plus_of_below hb)); clear hb; rw [ha]))
        exact ⟨⟨k + 1, by omega, by go_num, by rw [hs3.out]; exact HOWN.out.below (below_plus (Below.refl _ _) (Nat.le_refl _) _), below_plus HB.out hsz _⟩, by simp [intOf]; omega⟩
    · obtain rfl : k = 8 := by omega
      have HF : Hid (EntPost (ent3 (m + 1) x first) w (.returned u7) wr) := ⟨_, rfl, by rw [← ent3To_8]; exact hown.mono (by omega), ((Below.refl w.heap.size w).alloc (Nat.le_refl _) _).trans (hb.mono (by omega))⟩
      clear hown hb
      go_wp2_with fail
      go_ret
      exact HF.out

/-- The reference's entries below a well-formed node. -/
theorem r_entries : ∀ (m : Nat), m ≤ 9 → ∀ (cs : Array Value) (x : RN) (first : Int) (w : World), RdVals w cs 11 (encN x) → okN m x → 0 ≤ first → first + 8 ^ (m + 1) ≤ 1073741824 →
    Calls Try.prog 101 #[.agg cs, .int .i64 ((m : Int) + 1), .int .i64 first] w (EntPost (ent3 m x first) w)
  | 0, _, cs, x, first, w, h, hx, f0, f1 => by
    have := r_entries_leaf cs x first w h hx f0 (by simpa using f1)
    simpa using this
  | m + 1, hm, cs, x, first, w, h, hx, f0, f1 => by
    have := r_entries_step m (by omega) cs x first w h hx f0 f1 fun cs y f w h1 h2 h3 h4 => r_entries m (by omega) cs y f w h1 h2 h3 h4
    rw [show ((m + 1 : Nat) : Int) + 1 = (m : Int) + 2 by omega]
    exact this
end Go.Proofs.Ytcicfijpfhbcaaa
