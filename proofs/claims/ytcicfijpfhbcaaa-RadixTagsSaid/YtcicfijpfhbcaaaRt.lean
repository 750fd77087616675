/-
  The reference's lists of entries: span, at, has.
-/
import Derived.Test.YtcicfijpfhbcaaaUp
namespace Go.Proofs.Ytcicfijpfhbcaaa
set_option linter.unusedSimpArgs false
set_option linter.unusedVariables false
set_option linter.unusedSectionVars false
open Go.RowKit

theorem pow8_10 : ∀ k, k ≤ 9 → (8 : Nat) ^ k ≤ 134217728 := by decide
set_option maxRecDepth 100000 in
set_option maxHeartbeats 1000000 in
theorem r_span (l : Nat) (hl : l ≤ 10) (w : World) : Calls Try.prog 102 #[.int .i64 (l : Int)] w fun e w' => e = .returned (.int .i64 ((8 ^ l : Nat) : Int)) ∧ w = w' := by
  go_enter Try.func102, Try.ntmps102
  go_wp2_with fail
  go_loop [3, 4] (fun n i => ∃ k : Nat, k ≤ l ∧ i = .int .i64 k ∧ n = .int .i64 ((8 ^ k : Nat) : Int)) (fun _ i => l - (intOf i).toNat)
  case atStart => exact ⟨0, by omega, rfl, rfl⟩
  case round =>
    obtain ⟨k, hk, rfl, rfl⟩ := hrel
    by_cases hlt : k < l
    · have h8 := pow8_10 k (by omega)
      have hs : Hid ((8 : Nat) ^ (k + 1) = 8 ^ k * 8) := Nat.pow_succ ..
      generalize (8 : Nat) ^ k = p at *
      go_wp2_with fail
      exact ⟨⟨k + 1, by omega, by go_num, by rw [hs.out]; push_cast; rfl⟩, by simp [intOf]; omega⟩
    · obtain rfl : k = l := by omega
      go_wp2_with fail
      go_ret
      exact ⟨rfl, rfl⟩

/-- An entry as the reference lists it: index, value, tags. -/
abbrev E3 := Int × Int × Int
def flatE (l : List E3) : List Value := l.flatMap fun e => [.int .i64 e.1, .int .i64 e.2.1, .int .i64 e.2.2]
def OwnE (w : World) (base : Nat) (l : List E3) (v : Value) : Prop := w.ownsRow base 83 3 v l.length (flatE l)
theorem flatE_len (l : List E3) : (flatE l).length = l.length * 3 := by
  induction l with
  | nil => rfl
  | cons e l ih => simp [flatE, List.flatMap_cons] at ih ⊢; omega
theorem flatE_append (l l' : List E3) : flatE (l ++ l') = flatE l ++ flatE l' := by simp [flatE]
theorem flatE_get : ∀ (l : List E3) (k : Nat) (e : E3), l[k]? = some e → (flatE l)[k * 3]? = some (.int .i64 e.1) ∧ (flatE l)[k * 3 + 1]? = some (.int .i64 e.2.1) ∧ (flatE l)[k * 3 + 2]? = some (.int .i64 e.2.2)
  | [], k, e, h => by simp at h
  | a :: l, 0, e, h => by
    have : a = e := by simpa using h
    subst this
    exact ⟨rfl, rfl, rfl⟩
  | a :: l, k + 1, e, h => by
    have h' : l[k]? = some e := by simpa using h
    have ih := flatE_get l k e h'
    have hx : ∀ j, (flatE (a :: l))[j + 3]? = (flatE l)[j]? := fun j => rfl
    refine ⟨?_, ?_, ?_⟩
    · rw [show (k + 1) * 3 = k * 3 + 3 by omega, hx]; exact ih.1
    · rw [show (k + 1) * 3 + 1 = k * 3 + 1 + 3 by omega, hx]; exact ih.2.1
    · rw [show (k + 1) * 3 + 2 = k * 3 + 2 + 3 by omega, hx]; exact ih.2.2
theorem OwnE.nil (w : World) (base : Nat) : OwnE w base [] (.slice none 0 0) := ⟨rfl, .inl ⟨rfl, rfl⟩⟩
theorem OwnE.slice {w : World} {base : Nat} {l : List E3} {v : Value} (h : OwnE w base l v) : ∃ A cap, v = .slice A l.length cap ∧ l.length ≤ cap ∧ cap ≤ maxLen := by
  rcases h.2 with ⟨h1, h2⟩ | ⟨g, cap, cur, h1, -, -, h4, h5, -⟩
  · exact ⟨none, 0, by rw [h1, h2], by omega, by decide⟩
  · exact ⟨_, _, h1, h4, h5⟩
theorem OwnE.below {w w' : World} {base : Nat} {l : List E3} {v : Value} (h : OwnE w base l v) (hb : Below w.heap.size w w') : OwnE w' base l v := by
  refine ⟨h.1, ?_⟩
  rcases h.2 with h1 | ⟨g, cap, cur, h1, h2, h3, h4⟩
  · exact .inl h1
  · exact .inr ⟨g, cap, cur, h1, h2, by rw [hb.block _ (lt_of_heap h3)]; exact h3, h4⟩
theorem OwnE.mono {w : World} {base base' : Nat} {l : List E3} {v : Value} (h : OwnE w base l v) (hb : base' ≤ base) : OwnE w base' l v := by
  refine ⟨h.1, ?_⟩
  rcases h.2 with h1 | ⟨g, cap, cur, h1, h2, h3, h4⟩
  · exact .inl h1
  · exact .inr ⟨g, cap, cur, h1, by omega, h3, h4⟩
/-- Element k of a list. -/
theorem OwnE.at {w : World} {base : Nat} {l : List E3} {v : Value} (h : OwnE w base l v) {k : Nat} {e : E3} (hk : l[k]? = some e) :
    ∃ g cap, v = .slice (some ⟨g, 0, none⟩) l.length cap ∧ base ≤ g ∧ g < w.heap.size ∧ w.cell? ⟨g, k * 3, none⟩ = some (.int .i64 e.1) ∧ w.cell? ⟨g, k * 3 + 1, none⟩ = some (.int .i64 e.2.1) ∧ w.cell? ⟨g, k * 3 + 2, none⟩ = some (.int .i64 e.2.2) := by
  have hlt : k < l.length := (List.getElem?_eq_some_iff.1 hk).1
  rcases h.2 with ⟨h1, h2⟩ | ⟨g, cap, cur, h1, h2, h3, h4, h5, h6, h7⟩
  · omega
  · have hc : ∀ j, j < l.length * 3 → w.cell? ⟨g, j, none⟩ = (flatE l)[j]? := fun j hj => by
      rw [cell_of_row _ _ _ _ _ _ h3, ← h7, List.getElem?_take, if_pos hj, Array.getElem?_toList]
    have hf := flatE_get l k e hk
    exact ⟨g, cap, h1, h2, lt_of_heap h3, by rw [hc _ (by omega)]; exact hf.1, by rw [hc _ (by omega)]; exact hf.2.1, by rw [hc _ (by omega)]; exact hf.2.2⟩

/-- The number of entries ahead of an index. -/
def atP (l : List E3) (i : Int) : Nat := (l.takeWhile fun e => decide (e.1 < i)).length
theorem atP_le (l : List E3) (i : Int) : atP l i ≤ l.length := (List.takeWhile_sublist _).length_le
theorem at_step {l : List E3} {i : Int} {k : Nat} (h : k ≤ atP l i) : (k < atP l i ↔ ∃ e, l[k]? = some e ∧ e.1 < i) := by
  induction l generalizing k with
  | nil => simp [atP]
  | cons a l ih =>
    unfold atP at h ⊢
    by_cases ha : a.1 < i
    · rw [List.takeWhile_cons_of_pos (by simpa using ha), List.length_cons] at h ⊢
      match k with
      | 0 => simp [ha]
      | k + 1 =>
        have := ih (k := k) (by unfold atP; omega)
        unfold atP at this
        simp only [List.getElem?_cons_succ]
        rw [← this]
        omega
    · rw [List.takeWhile_cons_of_neg (by simpa using ha)] at h ⊢
      have : k = 0 := by simpa using h
      subst this
      simp [ha]

set_option maxRecDepth 100000 in
set_option maxHeartbeats 1000000 in
theorem r_at (v : Value) (l : List E3) (i : Int) (base : Nat) (w : World) (h : OwnE w base l v) :
    Calls Try.prog 79 #[v, .int .i64 i] w fun e w' => e = .returned (.int .i64 (atP l i : Int)) ∧ w = w' := by
  obtain ⟨A, cap, rfl, hc1, hc2⟩ := h.slice
  have H := Lib.hid h
  have hle := atP_le l i
  have hmax : (l.length : Int) ≤ 9223372036854775807 := by unfold maxLen at hc2; omega
  have HST : Hid (∀ k, k ≤ atP l i → (k < atP l i ↔ ∃ e, l[k]? = some e ∧ e.1 < i)) := fun k hk => at_step hk
  clear h
  generalize atP l i = p at *
  go_enter Try.func79, Try.ntmps79
  go_wp2_with fail
  go_loop [5] (fun n => ∃ k : Nat, k ≤ p ∧ n = .int .i64 k) (fun n => l.length - (intOf n).toNat)
  case atStart => exact ⟨0, by omega, rfl⟩
  case round =>
    obtain ⟨k, hk, rfl⟩ := hrel
    have hst := HST.out k hk
    by_cases hlt : k < l.length
    · have hg : l[k]? = some l[k] := List.getElem?_eq_getElem hlt
      obtain ⟨g, cap', hs, -, -, c0, -, -⟩ := H.out.at hg
      injection hs with h1 h2 h3
      subst h1
      by_cases hi : l[k].1 < i
      · have hk' : k < p := hst.2 ⟨_, hg, hi⟩
        generalize l[k] = e at c0 hi
        clear hst hg
        go_wp2_with fail
        exact ⟨⟨k + 1, by omega, by go_num⟩, by simp [intOf]; omega⟩
      · have hk' : k = p := by
          rcases Nat.lt_or_ge k p with h' | h'
          · obtain ⟨e, he, hei⟩ := hst.1 h'
            rw [hg] at he; injection he with he; subst he; exact absurd hei hi
          · omega
        generalize l[k] = e at c0 hi
        clear hst hg
        subst hk'
        go_wp2_with fail
        go_ret
        exact ⟨rfl, rfl⟩
    · obtain rfl : k = p := by omega
      clear hst
      go_wp2_with fail
      go_ret
      exact ⟨rfl, rfl⟩
end Go.Proofs.Ytcicfijpfhbcaaa
