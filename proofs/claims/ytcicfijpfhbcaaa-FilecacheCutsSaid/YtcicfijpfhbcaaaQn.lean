/-
  The map in memory, and what each call of the script does to it. No program walked.
-/
import Derived.Test.YtcicfijpfhbcaaaQm
namespace Go.Proofs.Ytcicfijpfhbcaaa
set_option linter.unusedSimpArgs false
set_option linter.unusedVariables false
set_option linter.unusedSectionVars false
open Go.RowKit

/-- The cells of a page. -/
def pgCell (p : Pg) : Nat → Value
  | 0 => .int .i64 p.1
  | 1 => .int .i64 p.2.1
  | _ => .bool p.2.2
def MapR (row : Array Value) (m : Nat → Pg) : Prop := row.size = 72 ∧ ∀ i, i < 24 → ∀ j, j < 3 → row[i * 3 + j]? = some (pgCell (m i) j)
def MapAt (W : World) (g : Nat) (m : Nat → Pg) : Prop := ∃ row, W.heap[g]? = some (.cells row 60 (0, 0)) ∧ MapR row m
section
variable {W W' : World} {g : Nat} {m : Nat → Pg}
theorem MapAt.keep (h : MapAt W g m) (hb : W'.heap[g]? = W.heap[g]?) : MapAt W' g m := by
  obtain ⟨row, h1, h2⟩ := h
  exact ⟨row, hb.trans h1, h2⟩
theorem MapAt.lt (h : MapAt W g m) : g < W.heap.size := by
  obtain ⟨row, h1, -⟩ := h
  exact lt_of_heap h1
theorem MapAt.cell (h : MapAt W g m) {i j : Nat} (hi : i < 24) (hj : j < 3) : W.cell? ⟨g, i * 3 + j, none⟩ = some (pgCell (m i) j) := by
  obtain ⟨row, h1, -, h2⟩ := h
  exact (cell_of_row _ _ _ _ _ _ h1).trans (h2 i hi j hj)
theorem MapAt.frozen (h : MapAt W g m) (j : Nat) : W.frozen? ⟨g, j, none⟩ = false := by
  obtain ⟨row, h1, -⟩ := h
  exact frozen_of_row _ _ _ _ _ h1
theorem MapAt.set (h : MapAt W g m) {i j : Nat} (hi : i < 24) (hj : j < 3) {p : Pg} {v : Value} (hv : v = pgCell p j) (ho : ∀ k, k < 3 → k ≠ j → pgCell p k = pgCell (m i) k) : MapAt (W.setCell ⟨g, i * 3 + j, none⟩ v) g (updM m i p) := by
  obtain ⟨row, h1, h2, h3⟩ := h
  refine ⟨_, heap_setCell_same _ _ _ _ _ _ h1, by simp [h2], fun a ha b hb => ?_⟩
  by_cases ea : a = i
  · subst ea
    rw [updM_same]
    by_cases eb : b = j
    · subst eb
      rw [Array.getElem?_setIfInBounds_self_of_lt (by omega), hv]
    · rw [Array.getElem?_setIfInBounds_ne (by omega), h3 a ha b hb, ho b hb eb]
  · rw [updM_other _ _ _ ea, Array.getElem?_setIfInBounds_ne (by omega), h3 a ha b hb]
end
theorem updM_twice (m : Nat → Pg) (i : Nat) (p q : Pg) : updM (updM m i p) i q = updM m i q := by
  funext j
  by_cases h : j = i
  · subst h; rw [updM_same, updM_same]
  · rw [updM_other _ _ _ h, updM_other _ _ _ h, updM_other _ _ _ h]
theorem updM_id (m : Nat → Pg) {i : Nat} {p : Pg} (h : m i = p) : updM m i p = m := by
  funext j
  by_cases e : j = i
  · subst e; rw [updM_same, h]
  · rw [updM_other _ _ _ e]
theorem MapAt.two {W : World} {g n : Nat} {m : Nat → Pg} {a b : Int} (h : MapAt W g m) (hn : n < 24) : MapAt ((W.setCell ⟨g, n * 3, none⟩ (.int .i64 a)).setCell ⟨g, n * 3 + 1, none⟩ (.int .i64 b)) g (updM m n (a, b, (m n).2.2)) := by
  have h1 := h.set (j := 0) hn (by omega) (p := (a, (m n).2.1, (m n).2.2)) rfl fun k hk hne => by
    match k, hk, hne with
    | 1, _, _ => rfl
    | 2, _, _ => rfl
  have h2 := h1.set (j := 1) hn (by omega) (p := (a, b, (m n).2.2)) rfl fun k hk hne => by
    rw [updM_same]
    match k, hk, hne with
    | 0, _, _ => rfl
    | 2, _, _ => rfl
  rw [updM_twice] at h2
  exact h2
theorem MapAt.two' {W : World} {g n : Nat} {m : Nat → Pg} {a b : Int} (h : MapAt W g m) (hn : n < 24) : MapAt ((W.setCell ⟨g, n * 3 + 1, none⟩ (.int .i64 b)).setCell ⟨g, n * 3, none⟩ (.int .i64 a)) g (updM m n (a, b, (m n).2.2)) := by
  have h1 := h.set (j := 1) hn (by omega) (p := ((m n).1, b, (m n).2.2)) rfl fun k hk hne => by
    match k, hk, hne with
    | 0, _, _ => rfl
    | 2, _, _ => rfl
  have h2 := h1.set (j := 0) hn (by omega) (p := (a, b, (m n).2.2)) rfl fun k hk hne => by
    rw [updM_same]
    match k, hk, hne with
    | 1, _, _ => rfl
    | 2, _, _ => rfl
  rw [updM_twice] at h2
  exact h2
theorem MapAt.dirty {W : World} {g n : Nat} {m : Nat → Pg} {d : Bool} (h : MapAt W g m) (hn : n < 24) : MapAt (W.setCell ⟨g, n * 3 + 2, none⟩ (.bool d)) g (updM m n ((m n).1, (m n).2.1, d)) :=
  h.set (j := 2) hn (by omega) (p := ((m n).1, (m n).2.1, d)) rfl fun k hk hne => by
    rcases (by omega : k = 0 ∨ k = 1) with rfl | rfl <;> rfl
/-- Nothing but block g has changed, of what lay in V. -/
structure MTn (g : Nat) (V W : World) : Prop where
  os : W.os = V.os
  tape : W.tape = V.tape
  output : W.output = V.output
  size : V.heap.size ≤ W.heap.size
  far : ∀ k, k < V.heap.size → k ≠ g → W.heap[k]? = V.heap[k]?
theorem MTn.refl (g : Nat) (V : World) : MTn g V V := ⟨rfl, rfl, rfl, Nat.le_refl _, fun _ _ _ => rfl⟩
section
variable {g : Nat} {V W X : World}
theorem MTn.trans (h : MTn g V W) (k : MTn g W X) : MTn g V X :=
  ⟨k.os.trans h.os, k.tape.trans h.tape, k.output.trans h.output, Nat.le_trans h.size k.size, fun i hi hn => (k.far i (Nat.lt_of_lt_of_le hi h.size) hn).trans (h.far i hi hn)⟩
theorem MTn.of_below {B : Nat} (h : Below B V W) (hB : V.heap.size ≤ B) : MTn g V W := ⟨h.os, h.tape, h.output, h.size, fun k hk _ => h.block k (Nat.lt_of_lt_of_le hk hB)⟩
theorem MTn.go {B : Nat} (h : MTn g V W) (hb : Below B W X) (hB : W.heap.size ≤ B) : MTn g V X := h.trans (.of_below hb hB)
theorem MTn.set (h : MTn g V W) (j : Nat) (v : Value) : MTn g V (W.setCell ⟨g, j, none⟩ v) :=
  h.trans ⟨rfl, rfl, rfl, by simp, fun k _ hn => heap_setCell_other _ _ _ _ hn⟩
theorem MTn.row (h : MTn g V W) (cs : Array Value) : MTn g V (W.setRow g cs) :=
  h.trans ⟨rfl, rfl, rfl, by simp, fun k _ hn => setRow_other _ _ _ _ hn⟩
theorem MTn.rowNew (h : MTn g V W) {q : Nat} (hq : V.heap.size ≤ q) (cs : Array Value) : MTn g V (W.setRow q cs) :=
  ⟨h.os, h.tape, h.output, by rw [size_setRow]; exact h.size, fun k hk hn => (setRow_other _ _ _ _ (by omega)).trans (h.far k hk hn)⟩
theorem MTn.below (h : MTn g V W) {B : Nat} (hg : B ≤ g) (hB : B ≤ V.heap.size) : Below B V W := ⟨h.os, h.tape, h.output, h.size, fun k hk => h.far k (by omega) (by omega)⟩
theorem MTn.own (h : MTn g V W) {x : RN} {s : Value} {S : Nat → Prop} (ho : OwnK V x s S) (hS : ¬ S g) : OwnK W x s S := ho.frame _ fun b hb hl => h.far b hl fun e => hS (e ▸ hb)
end

/-- What one operation of the script leaves. -/
def PlayPost (gm : Nat) (S : Nat → Prop) (w : World) (e : Ending) (w' : World) : Prop :=
  ∃ (t : Nat × RN) (A : Option Addr) (cap : Nat) (S' : Nat → Prop) (m : Nat → Pg), e = .returned (.tuple #[.agg (cellsR t.1 t.2 (.slice A t.2.n cap)), .bool true]) ∧ okM m ∧ Cp (mF m) t ∧ MapAt w' gm m ∧ OwnK w' t.2 (.slice A t.2.n cap) S' ∧ (∀ b, S' b → S b ∨ w.heap.size ≤ b) ∧ MTn gm w w'

theorem PlayPost.mono {gm : Nat} {S S' : Nat → Prop} {w w' : World} {e : Ending} (h : PlayPost gm S w e w') (hS : ∀ b, S b → S' b) : PlayPost gm S' w e w' := by
  obtain ⟨t, A, cap, S1, m, h1, h2, h3, h4, h5, h6, h7⟩ := h
  exact ⟨t, A, cap, S1, m, h1, h2, h3, h4, h5, fun b hb => (h6 b hb).imp (hS b) id, h7⟩
theorem play_same {gm : Nat} {S : Nat → Prop} {m : Nat → Pg} {t : Nat × RN} {A : Option Addr} {cap : Nat} {w w' : World} (hm : okM m) (hc : Cp (mF m) t) (hM : MapAt w gm m) (hO : OwnK w t.2 (.slice A t.2.n cap) S) (hb : Below w.heap.size w w') :
    PlayPost gm S w (.returned (.tuple #[.agg (cellsR t.1 t.2 (.slice A t.2.n cap)), .bool true])) w' :=
  ⟨t, A, cap, S, m, rfl, hm, hc, hM.keep (hb.block _ hM.lt), hO.frame _ fun b _ hl => hb.block b hl, fun b h => .inl h, .of_below hb (Nat.le_refl _)⟩

section
variable {m : Nat → Pg} {t : Nat × RN} {n : Nat} {f : Int}
theorem taken_no {k : Nat} (h : takenB m k f = false) : ∀ j, j < k → (m j).1 ≠ f := fun j hj e => by
  unfold takenB at h
  rw [List.any_eq_false] at h
  exact h j (List.mem_range.2 hj) (by simp [e])
theorem pg_none (hm : okM m) (h : (m n).1 < 0) : (m n).1 = -1 ∧ (m n).2.2 = false := by
  have ok := hm.pg n
  unfold okPg at ok
  refine ⟨by omega, ?_⟩
  cases hd : (m n).2.2
  · rfl
  · have := ok.2.2 hd; omega
theorem gv_pos (hm : okM m) (hc : Cp (mF m) t) (hn : n < 24) : 0 < getP t.1 t.2 n ↔ 0 ≤ (m n).1 := by
  rw [cm_get hc hn]
  have ok := hm.pg n
  unfold okPg at ok
  unfold pgE
  by_cases a : 0 ≤ (m n).1
  · rw [if_pos a]; simp; omega
  · rw [if_neg a]
    by_cases b : 0 ≤ (m n).2.1
    · rw [if_pos b]; simp; omega
    · rw [if_neg b]; simp [e0]; omega
theorem put_bad (hm : okM m) (hc : Cp (mF m) t) (hn : n < 24) (f0 : 0 ≤ f) (f1 : f < 256) (h : 0 ≤ (m n).1 ∨ takenB m 24 f = true) : putP t.1 t.2 n f = badT 7 := by
  unfold putP
  rw [if_neg (by simp [cm_fcI hm hc hn]), if_neg (by omega), if_pos]
  exact h.imp (gv_pos hm hc hn).2 fun h => by rw [cm_has hm hc f0]; exact h
theorem put_yes (hm : okM m) (hc : Cp (mF m) t) (hn : n < 24) (f0 : 0 ≤ f) (f1 : f < 256) (h : (m n).1 < 0) (ht : takenB m 24 f = false) : ∃ u : Nat × RN, putP t.1 t.2 n f = ((u.1 : Int), u.2, 0) ∧ okM (updM m n (f, -1, (m n).2.2)) ∧ Cp (mF (updM m n (f, -1, (m n).2.2))) u := by
  have hp : okPg (f, -1, (m n).2.2) := ⟨.inr ⟨f0, f1⟩, .inl rfl, fun _ => f0⟩
  have hE : (pgE (f, -1, (m n).2.2)).1 = f + 1 := by unfold pgE; rw [if_pos f0]
  have hs := cm_set hm hc hn (p := (f, -1, (m n).2.2)) rfl hp (by rw [hE]; omega)
  rw [hE] at hs
  refine ⟨stepT t n (f + 1), ?_, hm.upd n hp fun _ j hj _ => taken_no ht j hj, hs.2⟩
  unfold putP
  rw [if_neg (by simp [cm_fcI hm hc hn]), if_neg (by omega), if_neg, hs.1]
  rintro (h1 | h1)
  · have := (gv_pos hm hc hn).1 h1; omega
  · rw [cm_has hm hc f0, ht] at h1; cases h1
theorem move_none (hm : okM m) (hc : Cp (mF m) t) (hn : n < 24) (f0 : 0 ≤ f) (f1 : f < 256) (h : (m n).1 < 0) : moveP t.1 t.2 n f = badT 6 := by
  unfold moveP
  rw [if_neg (by simp [cm_fcI hm hc hn]), if_neg (by omega), if_pos (by rw [cm_fr hm hc hn]; exact h)]
theorem move_bad (hm : okM m) (hc : Cp (mF m) t) (hn : n < 24) (f0 : 0 ≤ f) (f1 : f < 256) (h : 0 ≤ (m n).1) (ht : takenB m 24 f = true) : moveP t.1 t.2 n f = badT 7 := by
  unfold moveP
  rw [if_neg (by simp [cm_fcI hm hc hn]), if_neg (by omega), if_neg (by rw [cm_fr hm hc hn]; omega), if_pos (by rw [cm_has hm hc f0]; exact ht)]
theorem move_yes (hm : okM m) (hc : Cp (mF m) t) (hn : n < 24) (f0 : 0 ≤ f) (f1 : f < 256) (h : 0 ≤ (m n).1) (ht : takenB m 24 f = false) : ∃ u : Nat × RN, moveP t.1 t.2 n f = ((u.1 : Int), u.2, 0) ∧ okM (updM m n (f, -1, (m n).2.2)) ∧ Cp (mF (updM m n (f, -1, (m n).2.2))) u := by
  have hp : okPg (f, -1, (m n).2.2) := ⟨.inr ⟨f0, f1⟩, .inl rfl, fun _ => f0⟩
  have hE : (pgE (f, -1, (m n).2.2)).1 = f + 1 := by unfold pgE; rw [if_pos f0]
  have hs := cm_set hm hc hn (p := (f, -1, (m n).2.2)) rfl hp (by rw [hE]; omega)
  rw [hE] at hs
  refine ⟨stepT t n (f + 1), ?_, hm.upd n hp fun _ j hj _ => taken_no ht j hj, hs.2⟩
  unfold moveP
  rw [if_neg (by simp [cm_fcI hm hc hn]), if_neg (by omega), if_neg (by rw [cm_fr hm hc hn]; omega), if_neg (by rw [cm_has hm hc f0, ht]; simp), hs.1]
theorem evict_none (hm : okM m) (hc : Cp (mF m) t) (hn : n < 24) (f0 : 0 ≤ f) (h : (m n).1 < 0) : evictP t.1 t.2 n f = badT 6 := by
  unfold evictP
  rw [if_neg (by simp [cm_fcI hm hc hn]), if_neg (by omega), if_pos (by rw [cm_fr hm hc hn]; exact h)]
theorem evict_bad (hm : okM m) (hc : Cp (mF m) t) (hn : n < 24) (f0 : 0 ≤ f) (h : 0 ≤ (m n).1) (hd : (m n).2.2 = true) : evictP t.1 t.2 n f = badT 11 := by
  unfold evictP
  rw [if_neg (by simp [cm_fcI hm hc hn]), if_neg (by omega), if_neg (by rw [cm_fr hm hc hn]; omega), if_pos (.inl (by rw [(pg_tag hm hc hn).1, hd]))]
theorem evict_yes (hm : okM m) (hc : Cp (mF m) t) (hn : n < 24) (f0 : 0 ≤ f) (f1 : f < 256) (h : 0 ≤ (m n).1) (hd : (m n).2.2 = false) : ∃ u : Nat × RN, evictP t.1 t.2 n f = ((u.1 : Int), u.2, 0) ∧ okM (updM m n (-1, f, (m n).2.2)) ∧ Cp (mF (updM m n (-1, f, (m n).2.2))) u := by
  have hp : okPg (-1, f, (m n).2.2) := ⟨.inl rfl, .inr ⟨f0, f1, rfl⟩, fun e => by rw [hd] at e; cases e⟩
  have hE : (pgE (-1, f, (m n).2.2)).1 = -1 - f := by unfold pgE; rw [if_neg (show ¬ (0 : Int) ≤ -1 by decide), if_pos f0]
  have hs := cm_set hm hc hn (p := (-1, f, (m n).2.2)) rfl hp (by rw [hE]; omega)
  rw [hE] at hs
  refine ⟨stepT t n (-1 - f), ?_, hm.upd n hp fun e => absurd e (show ¬ (0 : Int) ≤ -1 by decide), hs.2⟩
  unfold evictP
  have ht := pg_tag hm hc hn
  rw [if_neg (by simp [cm_fcI hm hc hn]), if_neg (by omega), if_neg (by rw [cm_fr hm hc hn]; omega), if_neg (by rw [ht.1, ht.2, hd]; simp), hs.1]
theorem remove_none (hm : okM m) (hc : Cp (mF m) t) (hn : n < 24) (h : (m n).1 < 0) (h2 : (m n).2.1 < 0) : removeP t.1 t.2 n = badT 6 ∧ m n = pg0 := by
  have ok := hm.pg n
  have hd := pg_none hm h
  have h3 : (m n).2.1 = -1 := by unfold okPg at ok; omega
  refine ⟨?_, Prod.ext hd.1 (Prod.ext h3 hd.2)⟩
  unfold removeP
  rw [if_neg (by simp [cm_fcI hm hc hn]), if_pos (by rw [cm_get hc hn, (pgE_zero ok).2 ⟨hd.1, h3⟩])]
theorem remove_yes (hm : okM m) (hc : Cp (mF m) t) (hn : n < 24) (h : ¬ ((m n).1 < 0 ∧ (m n).2.1 < 0)) : ∃ u : Nat × RN, removeP t.1 t.2 n = ((u.1 : Int), u.2, 0) ∧ okM (updM m n pg0) ∧ Cp (mF (updM m n pg0)) u := by
  have hs := cm_del hm hc hn
  refine ⟨stepT t n 0, ?_, hm.upd n ok0 fun e => absurd e (by decide), hs.2⟩
  unfold removeP
  rw [if_neg (by simp [cm_fcI hm hc hn]), if_neg (by rw [cm_get hc hn, pgE_zero (hm.pg n)]; omega), hs.1]
theorem dirty_none (hm : okM m) (hc : Cp (mF m) t) (hn : n < 24) (on : Bool) (h : (m n).1 < 0) : dirtyT t.1 t.2 n on = badT 6 := by
  unfold dirtyT
  rw [if_neg (by simp [cm_fcI hm hc hn]), if_pos (by rw [cm_fr hm hc hn]; exact h)]
theorem dirty_yes (hm : okM m) (hc : Cp (mF m) t) (hn : n < 24) (on : Bool) (h : 0 ≤ (m n).1) : ∃ u : Nat × RN, dirtyT t.1 t.2 n on = ((u.1 : Int), u.2, 0) ∧ okM (updM m n ((m n).1, (m n).2.1, on)) ∧ Cp (mF (updM m n ((m n).1, (m n).2.1, on))) u := by
  have hs := cm_dirty hm hc hn h on
  have ok := hm.pg n
  unfold okPg at ok
  refine ⟨_, ?_, hm.upd n ⟨ok.1, ok.2.1, fun _ => h⟩ (fun h0 j hj hne e => hne (hm.inj j n hj hn (by rw [e]; exact h0) e)), hs.2⟩
  unfold dirtyT
  rw [if_neg (by simp [cm_fcI hm hc hn]), if_neg (by rw [cm_fr hm hc hn]; omega), hs.1]
end
end Go.Proofs.Ytcicfijpfhbcaaa
