/-
  What the reference's node needs: masks of tags, children that are appended one by one.
-/
import Derived.Test.YtcicfijpfhbcaaaNp
import Derived.Test.YtcicfijpfhbcaaaCh
namespace Go.Proofs.Ytcicfijpfhbcaaa
set_option linter.unusedSimpArgs false
set_option linter.unusedVariables false
set_option linter.unusedSectionVars false
open Go.RowKit

theorem or_tab : ∀ a b : Fin 4, (0 ≤ bits .or .i64 (a.1 : Int) b.1 ∧ bits .or .i64 (a.1 : Int) b.1 ≤ 3) ∧ tb0 (bits .or .i64 (a.1 : Int) b.1) = (tb0 a.1 || tb0 b.1) ∧ tb1 (bits .or .i64 (a.1 : Int) b.1) = (tb1 a.1 || tb1 b.1) := by decide +kernel
theorem and_tab : ∀ a : Fin 4, bits .and .i64 (a.1 : Int) 1 = (if tb0 a.1 then 1 else 0) ∧ bits .and .i64 ((a.1 : Int) / 2) 1 = (if tb1 a.1 then 1 else 0) := by decide +kernel
def four (t : Int) : Prop := 0 ≤ t ∧ t ≤ 3
theorem four_fin {t : Int} (h : four t) : ∃ k : Fin 4, t = (k.1 : Int) := ⟨⟨t.toNat, by unfold four at h; omega⟩, by unfold four at h; show t = (t.toNat : Int); omega⟩
/-- The tags of the first n entries together. -/
def mskE (l : List E3) (n : Nat) : Int := (l.take n).foldl (fun a e => bits .or .i64 a e.2.2) 0
theorem mskE_succ {l : List E3} {n : Nat} {e : E3} (h : l[n]? = some e) : mskE l (n + 1) = bits .or .i64 (mskE l n) e.2.2 := by
  unfold mskE
  rw [List.take_add_one, h, List.foldl_append]; rfl
theorem msk_fold : ∀ (l : List E3) (a : Int), (∀ e ∈ l, four e.2.2) → four a → four (l.foldl (fun a e => bits .or .i64 a e.2.2) a) ∧ tb0 (l.foldl (fun a e => bits .or .i64 a e.2.2) a) = (tb0 a || any0 l) ∧ tb1 (l.foldl (fun a e => bits .or .i64 a e.2.2) a) = (tb1 a || any1 l)
  | [], a, _, ha => ⟨ha, by simp [any0], by simp [any1]⟩
  | e :: l, a, hl, ha => by
    obtain ⟨k, hk⟩ := four_fin ha
    obtain ⟨j, hj⟩ := four_fin (hl e (List.mem_cons_self ..))
    have ht := or_tab k j
    rw [← hk, ← hj] at ht
    have ih := msk_fold l (bits .or .i64 a e.2.2) (fun x hx => hl x (List.mem_cons_of_mem _ hx)) ht.1
    rw [List.foldl_cons]
    refine ⟨ih.1, ?_, ?_⟩
    · rw [ih.2.1, ht.2.1, any0, any0, List.any_cons, Bool.or_assoc]
    · rw [ih.2.2, ht.2.2, any1, any1, List.any_cons, Bool.or_assoc]
theorem msk_end {l : List E3} (h : ∀ e ∈ l, four e.2.2) : four (mskE l l.length) ∧ bits .and .i64 (mskE l l.length) 1 = (if any0 l then 1 else 0) ∧ bits .and .i64 (mskE l l.length / 2) 1 = (if any1 l then 1 else 0) := by
  have := msk_fold l 0 h (by unfold four; omega)
  unfold mskE
  rw [List.take_length]
  obtain ⟨k, hk⟩ := four_fin this.1
  have ht := and_tab k
  rw [← hk, this.2.1, this.2.2] at ht
  exact ⟨this.1, ht.1, ht.2⟩
/-- The tags of the first k digits. -/
def orT (f : Nat → Bool) : Nat → Int
  | 0 => 0
  | k + 1 => orT f k + if f k then 2 ^ k else 0
theorem orT_lt (f : Nat → Bool) : ∀ k, 0 ≤ orT f k ∧ orT f k < 2 ^ k
  | 0 => by simp [orT]
  | k + 1 => by
    have ih := orT_lt f k
    rw [orT, Int.pow_succ]
    split <;> omega
set_option maxRecDepth 100000 in
theorem put_or_tab : ∀ k : Fin 8, ∀ t : Fin 128, t.1 < 2 ^ k.1 → ∀ b : Bool, bits .or .i64 (t.1 : Int) (wrap64 ((if b then 1 else 0) * 2 ^ k.1)) = (t.1 : Int) + if b then 2 ^ k.1 else 0 := by decide +kernel
theorem orT_step (f : Nat → Bool) {k : Nat} (hk : k < 8) : bits .or .i64 (orT f k) (wrap64 ((if f k then 1 else 0) * 2 ^ k)) = orT f (k + 1) := by
  have h := orT_lt f k
  have h2 : (2 : Int) ^ k ≤ 128 := by
    have : (2 : Nat) ^ k ≤ 2 ^ 7 := Nat.pow_le_pow_right (by omega) (by omega)
    exact_mod_cast this
  obtain ⟨t, ht⟩ : ∃ t : Nat, orT f k = t := ⟨(orT f k).toNat, by omega⟩
  have ht2 : t < 2 ^ k := by
    have := h.2
    rw [ht] at this
    exact_mod_cast this
  have := put_or_tab ⟨k, hk⟩ ⟨t, by omega⟩ ht2 (f k)
  rw [orT, ht]
  exact this
theorem orT_8 (f : Nat → Bool) : orT f 8 = bsum f := by
  simp only [orT, bsum, Int.zero_add]
  rfl

/-- Children that are owned, in a block that grows. -/
structure GrowK (B : Nat) (kid : Nat → RN) (wr : World) (k : Nat) (v : Value) (sk : Nat → Value) (T : Nat → Nat → Prop) : Prop where
  own : wr.ownsRow B 26 11 v k (flat (fun i => cellsN (kid i) (sk i)) k)
  kid : ∀ i, i < k → OwnK wr (kid i) (sk i) (T i)
  sub : ∀ i, i < k → ∀ b, T i b → B ≤ b ∧ b < wr.heap.size ∧ v.ownBlock ≠ some b
  apart : ∀ i j b, i < k → j < k → T i b → T j b → i = j
  nil : k = 0 → v = .slice none 0 0
section
variable {B : Nat} {kid : Nat → RN} {wr : World} {k : Nat} {v : Value} {sk : Nat → Value} {T : Nat → Nat → Prop}
theorem GrowK.start (B : Nat) (kid : Nat → RN) (w : World) : GrowK B kid w 0 (.slice none 0 0) (fun _ => undef) (fun _ _ => False) :=
  ⟨⟨rfl, .inl ⟨rfl, rfl⟩⟩, fun i hi => absurd hi (by omega), fun i hi => absurd hi (by omega), fun i j b hi => absurd hi (by omega), fun _ => rfl⟩
theorem GrowK.ownIn (inv : GrowK B kid wr k v sk T) {q : Nat} (hq : v.ownBlock = some q) : B ≤ q ∧ q < wr.heap.size := by
  rcases inv.own.2 with ⟨h1, _⟩ | ⟨q', cap', cur, h1, h2, h3, _⟩
  · rw [h1] at hq; cases hq
  · rw [h1] at hq
    have : q' = q := by simpa [Value.ownBlock] using hq
    subst this
    exact ⟨h2, lt_of_heap h3⟩
theorem GrowK.frame (inv : GrowK B kid wr k v sk T) {W : World} (hs : wr.heap.size ≤ W.heap.size) (h : ∀ q, B ≤ q → q < wr.heap.size → W.heap[q]? = wr.heap[q]?) : GrowK B kid W k v sk T := by
  refine ⟨⟨inv.own.1, ?_⟩, fun i hi => (inv.kid i hi).frame _ fun b hb _ => ?_, fun i hi b hb => ?_, inv.apart, inv.nil⟩
  · rcases inv.own.2 with h1 | ⟨q, cap', cur, h1, h2, h3, h4⟩
    · exact .inl h1
    · exact .inr ⟨q, cap', cur, h1, h2, by rw [h q h2 (lt_of_heap h3)]; exact h3, h4⟩
  · have := inv.sub i hi b hb
    exact h b this.1 this.2.1
  · have := inv.sub i hi b hb
    exact ⟨this.1, by omega, this.2.2⟩
theorem GrowK.step (inv : GrowK B kid wr k v sk T) {W W2 : World} {s1 : Value} {H g2 cap3 : Nat} (hH : wr.heap.size ≤ H) (hHW : H ≤ W.heap.size) (hB : B ≤ wr.heap.size)
    (hW : ∀ q, B ≤ q → q < wr.heap.size → W.heap[q]? = wr.heap[q]?) (hown1 : OwnK W (kid k) s1 (fun b => wr.heap.size ≤ b ∧ b < H)) (hgrow : W.grownBy W2 v.ownBlock)
    (hown3 : W2.ownsRow B 26 11 (.slice (some ⟨g2, 0, none⟩) (k + 1) cap3) (k + 1) (flat (fun i => cellsN (kid i) (sk i)) k ++ (cellsN (kid k) s1).toList))
    (hat : v.ownBlock = some g2 ∨ g2 = W.heap.size) :
    GrowK B kid W2 (k + 1) (.slice (some ⟨g2, 0, none⟩) (k + 1) cap3) (fun i => if i = k then s1 else sk i) (fun i => if i = k then (fun b => wr.heap.size ≤ b ∧ b < H) else T i) := by
  have hsz := hgrow.size
  have hW2 : ∀ q, q < W.heap.size → v.ownBlock ≠ some q → W2.heap[q]? = W.heap[q]? := fun q hq hn => hgrow.block q hq fun e => hn e.symm
  have hT : ∀ i, i < k → ∀ b, T i b → b < wr.heap.size ∧ B ≤ b ∧ v.ownBlock ≠ some b := fun i hi b hb => ⟨(inv.sub i hi b hb).2.1, (inv.sub i hi b hb).1, (inv.sub i hi b hb).2.2⟩
  refine ⟨⟨?_, ?_⟩, ?_, ?_, ?_, fun h => absurd h (by omega)⟩
  · rw [flat_length _ (fun _ => rfl)]
  · have e : flat (fun i => cellsN (kid i) (if i = k then s1 else sk i)) (k + 1) = flat (fun i => cellsN (kid i) (sk i)) k ++ (cellsN (kid k) s1).toList := by
      rw [flat_succ, if_pos rfl]
      congr 1
      exact flat_congr fun i hi => by rw [if_neg (by omega)]
    rw [e]
    exact hown3.2
  · intro i hi
    by_cases hik : i = k
    · subst hik
      simp only [if_true]
      refine OwnK.frame _ hown1 fun b hb hl => hW2 b hl fun e => ?_
      have := inv.ownIn e; omega
    · simp only [if_neg hik]
      refine OwnK.frame _ (inv.kid i (by omega)) fun b hb hl => ?_
      have := hT i (by omega) b hb
      rw [hW2 b (by omega) this.2.2, hW b this.2.1 this.1]
  · intro i hi b hb
    by_cases hik : i = k
    · subst hik
      simp only [if_true] at hb
      refine ⟨by omega, by omega, ?_⟩
      simp only [Value.ownBlock, ne_eq, Option.some.injEq]
      rcases hat with h | h
      · have := inv.ownIn h; omega
      · omega
    · simp only [if_neg hik] at hb
      have := hT i (by omega) b hb
      refine ⟨this.2.1, by omega, ?_⟩
      simp only [Value.ownBlock, ne_eq, Option.some.injEq]
      rintro rfl
      rcases hat with h | h
      · exact this.2.2 h
      · omega
  · intro i j b hi hj hbi hbj
    by_cases hik : i = k <;> by_cases hjk : j = k
    · omega
    · subst hik
      simp only [if_true] at hbi
      simp only [if_neg hjk] at hbj
      have := hT j (by omega) b hbj
      omega
    · subst hjk
      simp only [if_true] at hbj
      simp only [if_neg hik] at hbi
      have := hT i (by omega) b hbi
      omega
    · simp only [if_neg hik] at hbi
      simp only [if_neg hjk] at hbj
      exact inv.apart i j b (by omega) (by omega) hbi hbj
/-- At the end the children are owned. -/
theorem GrowK.own_ {x : RN} (inv : GrowK B x.kid wr x.n v sk T) : OwnK wr x v (fun b => B ≤ b ∧ b < wr.heap.size) := by
  by_cases h0 : x.n = 0
  · rw [inv.nil h0]; exact OwnK.none_ h0
  · rcases inv.own.2 with ⟨_, h1⟩ | ⟨g, cap, cur, h1, h2, h3, h4, h5, h6, h7⟩
    · exact absurd h1 h0
    · have hg := inv.ownIn (q := g) (by rw [h1]; rfl)
      refine OwnAt.own (g := g) (cap := cap) (cs := cur) (T := T) (sk := sk) ⟨by omega, h4, h5, h1, h3, by omega, h6, fun i hi j hj => ?_, inv.kid, fun i hi b hb => ?_, inv.apart⟩
      · have := flat_get (fun i => cellsN (x.kid i) (sk i)) (fun _ => rfl) hj x.n hi
        rw [← this, ← h7, List.getElem?_take, if_pos (by omega), Array.getElem?_toList]
      · have := inv.sub i hi b hb
        refine ⟨by omega, fun e => this.2.2 ?_⟩
        rw [h1, e]; rfl
end
end Go.Proofs.Ytcicfijpfhbcaaa
