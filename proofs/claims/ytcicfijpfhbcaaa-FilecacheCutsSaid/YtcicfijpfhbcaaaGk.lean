/-
  The reference's node, in plain words: the node that is made of a list of entries. No program.
-/
/-
  What the reference's node needs: masks of tags, children that are appended one by one.
-/
import Derived.Test.YtcicfijpfhbcaaaRe
import Derived.Test.YtcicfijpfhbcaaaCh
namespace Go.Proofs.Ytcicfijpfhbcaaa
set_option linter.unusedSimpArgs false
set_option linter.unusedVariables false
set_option linter.unusedSectionVars false

def tb0 (t : Int) : Bool := bits .and .i64 t 1 == 1
def tb1 (t : Int) : Bool := bits .and .i64 (t / 2) 1 == 1
def any0 (l : List E3) : Bool := l.any fun e => tb0 e.2.2
def any1 (l : List E3) : Bool := l.any fun e => tb1 e.2.2
theorem tb_ent (e : Ent) : tb0 (tgE e) = e.2.1 ∧ tb1 (tgE e) = e.2.2 := by
  have h : ∀ a b : Bool, tb0 ((if a then 1 else 0) + (if b then 1 else 0) * 2) = a ∧ tb1 ((if a then 1 else 0) + (if b then 1 else 0) * 2) = b := by decide +kernel
  exact h e.2.1 e.2.2
theorem tg_in (e : Ent) : 0 ≤ tgE e ∧ tgE e ≤ 3 := by unfold tgE; split <;> split <;> omega
/-- The entries of a list that lie below digit i. -/
def partE (l : List E3) (first w : Int) (i : Nat) : List E3 := l.filter fun e => decide ((e.1 - first) / w = i)
def headV : List E3 → Int
  | [] => 0
  | e :: _ => e.2.1
/-- What the reference's node makes of a list, at level m + 1. -/
def nodeP : Nat → List E3 → Int → RN
  | 0, l, first => match l with
    | [] => zeroN
    | e :: r => .mk (fun i => headV (partE (e :: r) first 1 i)) (bsum fun i => any0 (partE (e :: r) first 1 i)) (bsum fun i => any1 (partE (e :: r) first 1 i)) 0 (fun i => absurd i.2 (by omega))
  | m + 1, l, first => match l with
    | [] => zeroN
    | e :: r => .mk (fun _ => 0) (bsum fun i => any0 (partE (e :: r) first (8 ^ (m + 1)) i)) (bsum fun i => any1 (partE (e :: r) first (8 ^ (m + 1)) i)) 8 (fun i => nodeP m (partE (e :: r) first (8 ^ (m + 1)) i.1) (first + (i.1 : Int) * 8 ^ (m + 1)))
theorem nodeP_nil (m : Nat) (first : Int) : nodeP m [] first = zeroN := by cases m <;> rfl
theorem nodeP_leaf {l : List E3} (h : l ≠ []) (first : Int) : nodeP 0 l first = .mk (fun i => headV (partE l first 1 i)) (bsum fun i => any0 (partE l first 1 i)) (bsum fun i => any1 (partE l first 1 i)) 0 (fun i => absurd i.2 (by omega)) := by
  cases l with
  | nil => exact absurd rfl h
  | cons e r => rfl
theorem nodeP_inner (m : Nat) {l : List E3} (h : l ≠ []) (first : Int) : nodeP (m + 1) l first = .mk (fun _ => 0) (bsum fun i => any0 (partE l first (8 ^ (m + 1)) i)) (bsum fun i => any1 (partE l first (8 ^ (m + 1)) i)) 8 (fun i => nodeP m (partE l first (8 ^ (m + 1)) i.1) (first + (i.1 : Int) * 8 ^ (m + 1))) := by
  cases l with
  | nil => exact absurd rfl h
  | cons e r => rfl

/-- The entries that f lists, n indices from 'first' on. -/
def lsE (n : Nat) (first : Int) (f : Nat → Ent) : List E3 := (List.range n).flatMap fun j => row3 first (f j) j
theorem lsE_mem {n : Nat} {first : Int} {f : Nat → Ent} {e : E3} : e ∈ lsE n first f ↔ ∃ j, j < n ∧ (f j).1 ≠ 0 ∧ e = (first + j, (f j).1, tgE (f j)) := by
  unfold lsE
  rw [List.mem_flatMap]
  constructor
  · rintro ⟨j, hj, he⟩
    unfold row3 at he
    split at he
    · cases he
    · rename_i h0
      rw [List.mem_singleton] at he
      exact ⟨j, List.mem_range.1 hj, h0, he⟩
  · rintro ⟨j, hj, h0, he⟩
    exact ⟨j, List.mem_range.2 hj, by rw [row3, if_neg h0, he]; exact List.mem_singleton.2 rfl⟩
theorem lsE_split (p : Nat) (first : Int) (f : Nat → Ent) (a : Nat) : lsE (a * p) first f = (List.range a).flatMap fun d : Nat => lsE p (first + (d : Int) * p) fun r => f (d * p + r) := by
  unfold lsE
  rw [range_mul]
  refine flatMap_congr' fun d _ => flatMap_congr' fun r _ => ?_
  unfold row3
  split
  · rfl
  · congr 2; push_cast; omega
theorem flat_one {α : Type} (L : List α) (i : Nat) : ∀ n, ((List.range n).flatMap fun d => if d = i then L else []) = if i < n then L else []
  | 0 => by simp
  | n + 1 => by
    rw [List.range_succ, List.flatMap_append, flat_one L i n]
    simp only [List.flatMap_cons, List.flatMap_nil, List.append_nil]
    by_cases h1 : i < n
    · rw [if_pos h1, if_neg (by omega), if_pos (by omega), List.append_nil]
    · by_cases h2 : n = i
      · rw [if_neg h1, if_pos h2, if_pos (by omega)]; rfl
      · rw [if_neg h1, if_neg h2, if_neg (by omega)]; rfl
/-- The part below a digit of such a list. -/
theorem part_ls {p : Nat} (hp : 0 < p) (first : Int) (f : Nat → Ent) {i a : Nat} (hi : i < a) : partE (lsE (a * p) first f) first p i = lsE p (first + (i : Int) * p) fun r => f (i * p + r) := by
  unfold partE
  rw [lsE_split, List.filter_flatMap]
  have e : ∀ d ∈ List.range a, (lsE p (first + (d : Int) * p) fun r => f (d * p + r)).filter (fun e => decide ((e.1 - first) / (p : Int) = i)) = if d = i then lsE p (first + (i : Int) * p) (fun r => f (i * p + r)) else [] := fun d _ => by
    have hin : ∀ e ∈ lsE p (first + (d : Int) * p) (fun r => f (d * p + r)), (e.1 - first) / (p : Int) = d := fun e he => by
      obtain ⟨j, hj, -, rfl⟩ := lsE_mem.1 he
      show (first + (d : Int) * p + j - first) / (p : Int) = d
      rw [show first + (d : Int) * p + j - first = j + (d : Int) * p by omega, Int.add_mul_ediv_right _ _ (by omega), Int.ediv_eq_zero_of_lt (by omega) (by omega)]
      omega
    by_cases h : d = i
    · subst h
      rw [if_pos rfl]
      exact List.filter_eq_self.2 fun e he => by rw [hin e he]; simp
    · rw [if_neg h]
      rw [List.filter_eq_nil_iff]
      intro e he
      rw [hin e he]
      simp; omega
  rw [flatMap_congr' e, flat_one, if_pos hi]

def wfE (f : Nat → Ent) : Prop := ∀ j, (f j).1 = 0 → f j = e0
theorem lsE_nil {n : Nat} {first : Int} {f : Nat → Ent} (hf : wfE f) (h : lsE n first f = []) {j : Nat} (hj : j < n) : f j = e0 := by
  refine hf j (Classical.byContradiction fun h0 => ?_)
  have : (first + j, (f j).1, tgE (f j)) ∈ lsE n first f := lsE_mem.2 ⟨j, hj, h0, rfl⟩
  rw [h] at this; cases this
set_option maxRecDepth 100000 in
theorem bsum_tab : ∀ b0 b1 b2 b3 b4 b5 b6 b7 : Bool, (0 ≤ (if b0 then 1 else 0) + (if b1 then 2 else 0) + (if b2 then 4 else 0) + (if b3 then 8 else 0) + (if b4 then 16 else 0) + (if b5 then 32 else 0) + (if b6 then 64 else 0) + (if b7 then (128 : Int) else 0) ∧ (if b0 then 1 else 0) + (if b1 then 2 else 0) + (if b2 then 4 else 0) + (if b3 then 8 else 0) + (if b4 then 16 else 0) + (if b5 then 32 else 0) + (if b6 then 64 else 0) + (if b7 then (128 : Int) else 0) < 256) ∧
    bitB ((if b0 then 1 else 0) + (if b1 then 2 else 0) + (if b2 then 4 else 0) + (if b3 then 8 else 0) + (if b4 then 16 else 0) + (if b5 then 32 else 0) + (if b6 then 64 else 0) + (if b7 then (128 : Int) else 0)) 0 = b0 ∧
    bitB ((if b0 then 1 else 0) + (if b1 then 2 else 0) + (if b2 then 4 else 0) + (if b3 then 8 else 0) + (if b4 then 16 else 0) + (if b5 then 32 else 0) + (if b6 then 64 else 0) + (if b7 then (128 : Int) else 0)) 1 = b1 ∧
    bitB ((if b0 then 1 else 0) + (if b1 then 2 else 0) + (if b2 then 4 else 0) + (if b3 then 8 else 0) + (if b4 then 16 else 0) + (if b5 then 32 else 0) + (if b6 then 64 else 0) + (if b7 then (128 : Int) else 0)) 2 = b2 ∧
    bitB ((if b0 then 1 else 0) + (if b1 then 2 else 0) + (if b2 then 4 else 0) + (if b3 then 8 else 0) + (if b4 then 16 else 0) + (if b5 then 32 else 0) + (if b6 then 64 else 0) + (if b7 then (128 : Int) else 0)) 3 = b3 ∧
    bitB ((if b0 then 1 else 0) + (if b1 then 2 else 0) + (if b2 then 4 else 0) + (if b3 then 8 else 0) + (if b4 then 16 else 0) + (if b5 then 32 else 0) + (if b6 then 64 else 0) + (if b7 then (128 : Int) else 0)) 4 = b4 ∧
    bitB ((if b0 then 1 else 0) + (if b1 then 2 else 0) + (if b2 then 4 else 0) + (if b3 then 8 else 0) + (if b4 then 16 else 0) + (if b5 then 32 else 0) + (if b6 then 64 else 0) + (if b7 then (128 : Int) else 0)) 5 = b5 ∧
    bitB ((if b0 then 1 else 0) + (if b1 then 2 else 0) + (if b2 then 4 else 0) + (if b3 then 8 else 0) + (if b4 then 16 else 0) + (if b5 then 32 else 0) + (if b6 then 64 else 0) + (if b7 then (128 : Int) else 0)) 6 = b6 ∧
    bitB ((if b0 then 1 else 0) + (if b1 then 2 else 0) + (if b2 then 4 else 0) + (if b3 then 8 else 0) + (if b4 then 16 else 0) + (if b5 then 32 else 0) + (if b6 then 64 else 0) + (if b7 then (128 : Int) else 0)) 7 = b7 := by decide +kernel
theorem bsum_rng (f : Nat → Bool) : rng (bsum f) := (bsum_tab (f 0) (f 1) (f 2) (f 3) (f 4) (f 5) (f 6) (f 7)).1
theorem bsum_bit (f : Nat → Bool) : ∀ i, i < 8 → bitB (bsum f) i = f i
  | 0, _ => (bsum_tab (f 0) (f 1) (f 2) (f 3) (f 4) (f 5) (f 6) (f 7)).2.1
  | 1, _ => (bsum_tab (f 0) (f 1) (f 2) (f 3) (f 4) (f 5) (f 6) (f 7)).2.2.1
  | 2, _ => (bsum_tab (f 0) (f 1) (f 2) (f 3) (f 4) (f 5) (f 6) (f 7)).2.2.2.1
  | 3, _ => (bsum_tab (f 0) (f 1) (f 2) (f 3) (f 4) (f 5) (f 6) (f 7)).2.2.2.2.1
  | 4, _ => (bsum_tab (f 0) (f 1) (f 2) (f 3) (f 4) (f 5) (f 6) (f 7)).2.2.2.2.2.1
  | 5, _ => (bsum_tab (f 0) (f 1) (f 2) (f 3) (f 4) (f 5) (f 6) (f 7)).2.2.2.2.2.2.1
  | 6, _ => (bsum_tab (f 0) (f 1) (f 2) (f 3) (f 4) (f 5) (f 6) (f 7)).2.2.2.2.2.2.2.1
  | 7, _ => (bsum_tab (f 0) (f 1) (f 2) (f 3) (f 4) (f 5) (f 6) (f 7)).2.2.2.2.2.2.2.2
  | i + 8, h => absurd h (by omega)
theorem bsum_ne (f : Nat → Bool) : (bsum f != 0) = (List.range 8).any f := by
  cases h : (List.range 8).any f
  · have : bsum f = 0 := bits_zero (bsum_rng f) fun i hi => by
      rw [bsum_bit f i hi]
      cases hf : f i
      · rfl
      · have := List.any_eq_true.2 ⟨i, List.mem_range.2 hi, hf⟩
        rw [h] at this; cases this
    rw [this]; rfl
  · obtain ⟨i, hi, hf⟩ := List.any_eq_true.1 h
    have hi8 := List.mem_range.1 hi
    have hb := bsum_bit f i hi8
    rw [hf] at hb
    rw [bne_iff_ne]
    intro h0
    rw [h0, bitB_0 i hi8] at hb
    cases hb
theorem any_split {p : Nat} (hp : 0 < p) (first : Int) (f : Nat → Ent) (q : E3 → Bool) : (lsE (8 * p) first f).any q = (List.range 8).any fun d => (partE (lsE (8 * p) first f) first p d).any q := by
  have e : (lsE (8 * p) first f) = (List.range 8).flatMap fun d => partE (lsE (8 * p) first f) first p d := by
    conv => lhs; rw [lsE_split]
    refine flatMap_congr' fun d hd => ?_
    rw [part_ls hp first f (List.mem_range.1 hd)]
  conv => lhs; rw [e]
  rw [List.any_flatMap]

theorem nodeP_t0 (m : Nat) (l : List E3) (first : Int) : (nodeP m l first).t0 = if l = [] then 0 else bsum fun i => any0 (partE l first (8 ^ m) i) := by
  by_cases h : l = []
  · rw [if_pos h, h, nodeP_nil]; rfl
  · rw [if_neg h]
    cases m with
    | zero => rw [nodeP_leaf h]; rfl
    | succ m => rw [nodeP_inner m h]; rfl
theorem nodeP_t1 (m : Nat) (l : List E3) (first : Int) : (nodeP m l first).t1 = if l = [] then 0 else bsum fun i => any1 (partE l first (8 ^ m) i) := by
  by_cases h : l = []
  · rw [if_pos h, h, nodeP_nil]; rfl
  · rw [if_neg h]
    cases m with
    | zero => rw [nodeP_leaf h]; rfl
    | succ m => rw [nodeP_inner m h]; rfl
theorem t_any (m : Nat) (first : Int) (f : Nat → Ent) :
    ((nodeP m (lsE (8 ^ (m + 1)) first f) first).t0 != 0) = any0 (lsE (8 ^ (m + 1)) first f) ∧ ((nodeP m (lsE (8 ^ (m + 1)) first f) first).t1 != 0) = any1 (lsE (8 ^ (m + 1)) first f) := by
  have hp : 0 < 8 ^ m := pow8_pos m
  have hw : ((8 ^ m : Nat) : Int) = 8 ^ m := by push_cast; rfl
  have e8 : (8 : Nat) ^ (m + 1) = 8 * 8 ^ m := by rw [Nat.pow_succ, Nat.mul_comm]
  rw [nodeP_t0, nodeP_t1]
  by_cases h : lsE (8 ^ (m + 1)) first f = []
  · rw [if_pos h, if_pos h, h]; exact ⟨rfl, rfl⟩
  · rw [if_neg h, if_neg h, bsum_ne, bsum_ne, ← hw, e8]
    exact ⟨(any_split hp first f _).symm, (any_split hp first f _).symm⟩

theorem nodeP_ok0 (f : Nat → Ent) (first : Int) (hf : wfE f) (hne : lsE 8 first f ≠ []) :
    okN 0 (nodeP 0 (lsE 8 first f) first) ∧ ∀ j, j < 8 → lk 0 (nodeP 0 (lsE 8 first f) first) j = f j := by
  have hpart : ∀ i, i < 8 → partE (lsE 8 first f) first 1 i = row3 first (f i) i := fun i hi => by
    have h1 := part_ls (p := 1) (by omega) first f (i := i) (a := 8) hi
    rw [Nat.mul_one, Int.natCast_one] at h1
    rw [h1]
    unfold lsE
    rw [List.range_one, List.flatMap_cons, List.flatMap_nil, List.append_nil]
    unfold row3
    show (if (f (i * 1 + 0)).1 = 0 then [] else [(first + (i : Int) * 1 + ((0 : Nat) : Int), (f (i * 1 + 0)).1, tgE (f (i * 1 + 0)))]) = _
    rw [Nat.mul_one, Nat.add_zero, Int.mul_one]
    split
    · rfl
    · simp
  have hv : ∀ i, i < 8 → headV (partE (lsE 8 first f) first 1 i) = (f i).1 := fun i hi => by
    rw [hpart i hi]
    unfold row3
    split
    · rename_i h; rw [h]; rfl
    · rfl
  have h0 : ∀ i, i < 8 → any0 (partE (lsE 8 first f) first 1 i) = (f i).2.1 := fun i hi => by
    rw [hpart i hi]
    unfold row3
    split
    · rename_i h; rw [hf i h]; rfl
    · simp [any0, (tb_ent (f i)).1]
  have h1 : ∀ i, i < 8 → any1 (partE (lsE 8 first f) first 1 i) = (f i).2.2 := fun i hi => by
    rw [hpart i hi]
    unfold row3
    split
    · rename_i h; rw [hf i h]; rfl
    · simp [any1, (tb_ent (f i)).2]
  have hmem : ∃ j, j < 8 ∧ (f j).1 ≠ 0 := by
    obtain ⟨e, he⟩ := List.exists_mem_of_ne_nil _ hne
    obtain ⟨j, hj, hj0, -⟩ := lsE_mem.1 he
    exact ⟨j, hj, hj0⟩
  rw [nodeP_leaf hne]
  generalize partE (lsE 8 first f) first 1 = P at *
  have e0' := bsum_bit fun i => any0 (P i)
  have e1' := bsum_bit fun i => any1 (P i)
  have r0 := bsum_rng fun i => any0 (P i)
  have r1 := bsum_rng fun i => any1 (P i)
  generalize (bsum fun i => any0 (P i)) = T0 at *
  generalize (bsum fun i => any1 (P i)) = T1 at *
  have hok : okP 0 (.mk (fun i => headV (P i)) T0 T1 0 (fun i => absurd i.2 (by omega))) :=
    ⟨rfl, r0, r1, fun i hi hz => by
      have hz' : (f i).1 = 0 := by rw [← hv i hi]; exact hz
      have hfi := hf i hz'
      refine ⟨?_, ?_⟩
      · refine (e0' i hi).trans ((h0 i hi).trans ?_); rw [hfi]; rfl
      · refine (e1' i hi).trans ((h1 i hi).trans ?_); rw [hfi]; rfl⟩
  refine ⟨⟨hok, Bool.eq_false_iff.2 fun he => ?_⟩, fun j hj => ?_⟩
  · obtain ⟨j, hj, hj0⟩ := hmem
    have hz := (empty_leaf hok).1 he j hj
    exact hj0 ((hv j hj).symm.trans hz)
  · show ent _ (j % 8) = f j
    rw [Nat.mod_eq_of_lt hj]
    show (headV (P j), bitB T0 j, bitB T1 j) = f j
    rw [hv j hj, e0' j hj, e1' j hj, h0 j hj, h1 j hj]

/-- THE NODE OF A LIST IS WELL FORMED AND HOLDS THE LIST'S ENTRIES. -/
theorem nodeP_ok : ∀ (m : Nat) (f : Nat → Ent) (first : Int), wfE f → lsE (8 ^ (m + 1)) first f ≠ [] →
    okN m (nodeP m (lsE (8 ^ (m + 1)) first f) first) ∧ ∀ j, j < 8 ^ (m + 1) → lk m (nodeP m (lsE (8 ^ (m + 1)) first f) first) j = f j
  | 0, f, first, hf, hne => nodeP_ok0 f first hf hne
  | m + 1, f, first, hf, hne => by
    have hp : 0 < 8 ^ (m + 1) := pow8_pos _
    have e8 : (8 : Nat) ^ (m + 1 + 1) = 8 * 8 ^ (m + 1) := by rw [Nat.pow_succ, Nat.mul_comm]
    have hw : ((8 ^ (m + 1) : Nat) : Int) = 8 ^ (m + 1) := by push_cast; rfl
    obtain ⟨F, hF⟩ : ∃ F : Nat → Nat → Ent, ∀ i r, F i r = f (i * 8 ^ (m + 1) + r) := ⟨fun i r => f (i * 8 ^ (m + 1) + r), fun _ _ => rfl⟩
    have hpart : ∀ i, i < 8 → partE (lsE (8 ^ (m + 1 + 1)) first f) first (8 ^ (m + 1)) i = lsE (8 ^ (m + 1)) (first + (i : Int) * 8 ^ (m + 1)) (F i) := fun i hi => by
      have h1 := part_ls hp first f (i := i) (a := 8) hi
      rw [hw, ← e8] at h1
      rw [h1]
      congr 1
      funext r
      rw [hF]
    have hfi : ∀ i, wfE (F i) := fun i j h => by rw [hF] at h ⊢; exact hf _ h
    have hcase : ∀ i : Nat, i < 8 → lsE (8 ^ (m + 1)) (first + (i : Int) * 8 ^ (m + 1)) (F i) = [] ∨ (okN m (nodeP m (lsE (8 ^ (m + 1)) (first + (i : Int) * 8 ^ (m + 1)) (F i)) (first + (i : Int) * 8 ^ (m + 1))) ∧ ∀ j, j < 8 ^ (m + 1) → lk m (nodeP m (lsE (8 ^ (m + 1)) (first + (i : Int) * 8 ^ (m + 1)) (F i)) (first + (i : Int) * 8 ^ (m + 1))) j = F i j) := fun i hi =>
      (Classical.em _).imp id fun h => nodeP_ok m _ _ (hfi i) h
    have hmem : ∃ i : Nat, i < 8 ∧ lsE (8 ^ (m + 1)) (first + (i : Int) * 8 ^ (m + 1)) (F i) ≠ [] := by
      obtain ⟨e, he⟩ := List.exists_mem_of_ne_nil _ hne
      obtain ⟨j, hj, hj0, -⟩ := lsE_mem.1 he
      have hd : j / 8 ^ (m + 1) < 8 := by rw [e8] at hj; exact Nat.div_lt_of_lt_mul (by rw [Nat.mul_comm]; exact hj)
      refine ⟨j / 8 ^ (m + 1), hd, fun h => ?_⟩
      have := lsE_nil (hfi _) h (Nat.mod_lt j hp)
      rw [hF, show j / 8 ^ (m + 1) * 8 ^ (m + 1) + j % 8 ^ (m + 1) = j by rw [Nat.mul_comm]; exact Nat.div_add_mod j _] at this
      rw [this] at hj0
      exact hj0 rfl
    have htk := fun i : Nat => t_any m (first + (i : Int) * 8 ^ (m + 1)) (F i)
    rw [nodeP_inner m hne]
    generalize hP : partE (lsE (8 ^ (m + 1 + 1)) first f) first (8 ^ (m + 1)) = P at *
    have e0' := bsum_bit fun i => any0 (P i)
    have e1' := bsum_bit fun i => any1 (P i)
    have r0 := bsum_rng fun i => any0 (P i)
    have r1 := bsum_rng fun i => any1 (P i)
    generalize (bsum fun i => any0 (P i)) = T0 at *
    generalize (bsum fun i => any1 (P i)) = T1 at *
    have hkid : ∀ i, i < 8 → (RN.mk (fun _ => 0) T0 T1 8 (fun i => nodeP m (P i.1) (first + (i.1 : Int) * 8 ^ (m + 1)))).kid i = nodeP m (lsE (8 ^ (m + 1)) (first + (i : Int) * 8 ^ (m + 1)) (F i)) (first + (i : Int) * 8 ^ (m + 1)) := fun i hi => by
      rw [RN.kid_mk _ _ _ _ _ i hi, hpart i hi]
    have hn : (RN.mk (fun _ => 0) T0 T1 8 (fun i => nodeP m (P i.1) (first + (i.1 : Int) * 8 ^ (m + 1)))).n = 8 := rfl
    have ht0 : (RN.mk (fun _ => 0) T0 T1 8 (fun i => nodeP m (P i.1) (first + (i.1 : Int) * 8 ^ (m + 1)))).t0 = T0 := rfl
    have ht1 : (RN.mk (fun _ => 0) T0 T1 8 (fun i => nodeP m (P i.1) (first + (i.1 : Int) * 8 ^ (m + 1)))).t1 = T1 := rfl
    have hv : ∀ i, (RN.mk (fun _ => 0) T0 T1 8 (fun i => nodeP m (P i.1) (first + (i.1 : Int) * 8 ^ (m + 1)))).v i = 0 := fun _ => rfl
    generalize RN.mk (fun _ => 0) T0 T1 8 (fun i => nodeP m (P i.1) (first + (i.1 : Int) * 8 ^ (m + 1))) = X at *
    have hok : okP (m + 1) X := by
      refine ⟨hn, by rw [ht0]; exact r0, by rw [ht1]; exact r1, fun i _ => hv i, fun i hi => ⟨?_, ?_, ?_⟩⟩
      · rw [hkid i hi]
        rcases hcase i hi with h | h
        · left; rw [h, nodeP_nil]; exact absent_zeroN
        · right; exact h.1
      · rw [hkid i hi, (htk i).1, ht0, e0' i hi, hpart i hi]
      · rw [hkid i hi, (htk i).2, ht1, e1' i hi, hpart i hi]
    refine ⟨⟨hok, Bool.eq_false_iff.2 fun he => ?_⟩, fun j hj => ?_⟩
    · obtain ⟨i, hi8, hne'⟩ := hmem
      have hz := (empty_inner hok).1 he i hi8
      rw [hkid i hi8] at hz
      rcases hcase i hi8 with h | h
      · exact hne' h
      · have h3 := empty_of_absent hz
        rw [h.1.2] at h3; cases h3
    · have hd : j / 8 ^ (m + 1) < 8 := by rw [e8] at hj; exact Nat.div_lt_of_lt_mul (by rw [Nat.mul_comm]; exact hj)
      have hmod : j % 8 ^ (m + 1) < 8 ^ (m + 1) := Nat.mod_lt _ hp
      have hj' : j / 8 ^ (m + 1) * 8 ^ (m + 1) + j % 8 ^ (m + 1) = j := by rw [Nat.mul_comm]; exact Nat.div_add_mod j _
      have hl := lk_top X hd hmod
      rw [hj', hkid _ hd] at hl
      rw [hl]
      rcases hcase _ hd with h | h
      · have h2 := lsE_nil (hfi _) h hmod
        rw [h, nodeP_nil, lk_absent m absent_zeroN, ← h2, hF, hj']
      · rw [h.2 _ hmod, hF, hj']
end Go.Proofs.Ytcicfijpfhbcaaa
namespace Go.Proofs.Ytcicfijpfhbcaaa
set_option linter.unusedSimpArgs false
set_option linter.unusedVariables false
set_option linter.unusedSectionVars false
open Go.RowKit

theorem or_tab : ∀ a b : Fin 4, (0 ≤ bits .or .i64 (a.1 : Int) b.1 ∧ bits .or .i64 (a.1 : Int) b.1 ≤ 3) ∧ tb0 (bits .or .i64 (a.1 : Int) b.1) = (tb0 a.1 || tb0 b.1) ∧ tb1 (bits .or .i64 (a.1 : Int) b.1) = (tb1 a.1 || tb1 b.1) := by decide +kernel
theorem and_tab : ∀ a : Fin 4, bits .and .i64 (a.1 : Int) 1 = (if tb0 a.1 then 1 else 0) ∧ bits .and .i64 ((a.1 : Int) / 2) 1 = (if tb1 a.1 then 1 else 0) := by decide +kernel
def four (t : Int) : Prop := 0 ≤ t ∧ t ≤ 3
theorem four_fin {t : Int} (h : four t) : ∃ k : Fin 4, t = (k.1 : Int) := ⟨⟨t.toNat, by unfold four at h; omega⟩, by unfold four at h; show t = (t.toNat : Int); omega⟩
/-- The tags of the first n entries together. -/
def mskE (l : List E3) (n : Nat) : Int := (l.take n).foldl (fun a e => bits .or .i64 a e.2.2) 0
theorem mskE_succ {l : List E3} {n : Nat} {e : E3} (h : l[n]? = some e) : mskE l (n + 1) = bits .or .i64 (mskE l n) e.2.2 := by
  unfold mskE
  rw [List.take_add_one, h, List.foldl_append]; rfl
theorem msk_fold : ∀ (l : List E3) (a : Int), (∀ e ∈ l, four e.2.2) → four a → four (l.foldl (fun a e => bits .or .i64 a e.2.2) a) ∧ tb0 (l.foldl (fun a e => bits .or .i64 a e.2.2) a) = (tb0 a || any0 l) ∧ tb1 (l.foldl (fun a e => bits .or .i64 a e.2.2) a) = (tb1 a || any1 l)
  | [], a, _, ha => ⟨ha, by simp [any0], by simp [any1]⟩
  | e :: l, a, hl, ha => by
    obtain ⟨k, hk⟩ := four_fin ha
    obtain ⟨j, hj⟩ := four_fin (hl e (List.mem_cons_self ..))
    have ht := or_tab k j
    rw [← hk, ← hj] at ht
    have ih := msk_fold l (bits .or .i64 a e.2.2) (fun x hx => hl x (List.mem_cons_of_mem _ hx)) ht.1
    rw [List.foldl_cons]
    refine ⟨ih.1, ?_, ?_⟩
    · rw [ih.2.1, ht.2.1, any0, any0, List.any_cons, Bool.or_assoc]
    · rw [ih.2.2, ht.2.2, any1, any1, List.any_cons, Bool.or_assoc]
theorem msk_end {l : List E3} (h : ∀ e ∈ l, four e.2.2) : four (mskE l l.length) ∧ bits .and .i64 (mskE l l.length) 1 = (if any0 l then 1 else 0) ∧ bits .and .i64 (mskE l l.length / 2) 1 = (if any1 l then 1 else 0) := by
  have := msk_fold l 0 h (by unfold four; omega)
  unfold mskE
  rw [List.take_length]
  obtain ⟨k, hk⟩ := four_fin this.1
  have ht := and_tab k
  rw [← hk, this.2.1, this.2.2] at ht
  exact ⟨this.1, ht.1, ht.2⟩
/-- The tags of the first k digits. -/
def orT (f : Nat → Bool) : Nat → Int
  | 0 => 0
  | k + 1 => orT f k + if f k then 2 ^ k else 0
theorem orT_lt (f : Nat → Bool) : ∀ k, 0 ≤ orT f k ∧ orT f k < 2 ^ k
  | 0 => by simp [orT]
  | k + 1 => by
    have ih := orT_lt f k
    rw [orT, Int.pow_succ]
    split <;> omega
set_option maxRecDepth 100000 in
theorem put_or_tab : ∀ k : Fin 8, ∀ t : Fin 128, t.1 < 2 ^ k.1 → ∀ b : Bool, bits .or .i64 (t.1 : Int) (wrap64 ((if b then 1 else 0) * 2 ^ k.1)) = (t.1 : Int) + if b then 2 ^ k.1 else 0 := by decide +kernel
theorem orT_step (f : Nat → Bool) {k : Nat} (hk : k < 8) : bits .or .i64 (orT f k) (wrap64 ((if f k then 1 else 0) * 2 ^ k)) = orT f (k + 1) := by
  have h := orT_lt f k
  have h2 : (2 : Int) ^ k ≤ 128 := by
    have : (2 : Nat) ^ k ≤ 2 ^ 7 := Nat.pow_le_pow_right (by omega) (by omega)
    exact_mod_cast this
  obtain ⟨t, ht⟩ : ∃ t : Nat, orT f k = t := ⟨(orT f k).toNat, by omega⟩
  have ht2 : t < 2 ^ k := by
    have := h.2
    rw [ht] at this
    exact_mod_cast this
  have := put_or_tab ⟨k, hk⟩ ⟨t, by omega⟩ ht2 (f k)
  rw [orT, ht]
  exact this
theorem orT_8 (f : Nat → Bool) : orT f 8 = bsum f := by
  simp only [orT, bsum, Int.zero_add]
  rfl

/-- Children that are owned, in a block that grows. -/
structure GrowK (B : Nat) (kid : Nat → RN) (wr : World) (k : Nat) (v : Value) (sk : Nat → Value) (T : Nat → Nat → Prop) : Prop where
  own : wr.ownsRow B 26 11 v k (flat (fun i => cellsN (kid i) (sk i)) k)
  kid : ∀ i, i < k → OwnK wr (kid i) (sk i) (T i)
  sub : ∀ i, i < k → ∀ b, T i b → B ≤ b ∧ b < wr.heap.size ∧ v.ownBlock ≠ some b
  apart : ∀ i j b, i < k → j < k → T i b → T j b → i = j
  nil : k = 0 → v = .slice none 0 0
section
variable {B : Nat} {kid : Nat → RN} {wr : World} {k : Nat} {v : Value} {sk : Nat → Value} {T : Nat → Nat → Prop}
theorem GrowK.start (B : Nat) (kid : Nat → RN) (w : World) : GrowK B kid w 0 (.slice none 0 0) (fun _ => undef) (fun _ _ => False) :=
  ⟨⟨rfl, .inl ⟨rfl, rfl⟩⟩, fun i hi => absurd hi (by omega), fun i hi => absurd hi (by omega), fun i j b hi => absurd hi (by omega), fun _ => rfl⟩
theorem GrowK.ownIn (inv : GrowK B kid wr k v sk T) {q : Nat} (hq : v.ownBlock = some q) : B ≤ q ∧ q < wr.heap.size := by
  rcases inv.own.2 with ⟨h1, _⟩ | ⟨q', cap', cur, h1, h2, h3, _⟩
  · rw [h1] at hq; cases hq
  · rw [h1] at hq
    have : q' = q := by simpa [Value.ownBlock] using hq
    subst this
    exact ⟨h2, lt_of_heap h3⟩
theorem GrowK.frame (inv : GrowK B kid wr k v sk T) {W : World} (hs : wr.heap.size ≤ W.heap.size) (h : ∀ q, B ≤ q → q < wr.heap.size → W.heap[q]? = wr.heap[q]?) : GrowK B kid W k v sk T := by
  refine ⟨⟨inv.own.1, ?_⟩, fun i hi => (inv.kid i hi).frame _ fun b hb _ => ?_, fun i hi b hb => ?_, inv.apart, inv.nil⟩
  · rcases inv.own.2 with h1 | ⟨q, cap', cur, h1, h2, h3, h4⟩
    · exact .inl h1
    · exact .inr ⟨q, cap', cur, h1, h2, by rw [h q h2 (lt_of_heap h3)]; exact h3, h4⟩
  · have := inv.sub i hi b hb
    exact h b this.1 this.2.1
  · have := inv.sub i hi b hb
    exact ⟨this.1, by omega, this.2.2⟩
theorem GrowK.step (inv : GrowK B kid wr k v sk T) {W W2 : World} {s1 : Value} {H g2 cap3 : Nat} (hH : wr.heap.size ≤ H) (hHW : H ≤ W.heap.size) (hB : B ≤ wr.heap.size)
    (hW : ∀ q, B ≤ q → q < wr.heap.size → W.heap[q]? = wr.heap[q]?) (hown1 : OwnK W (kid k) s1 (fun b => wr.heap.size ≤ b ∧ b < H)) (hgrow : W.grownBy W2 v.ownBlock)
    (hown3 : W2.ownsRow B 26 11 (.slice (some ⟨g2, 0, none⟩) (k + 1) cap3) (k + 1) (flat (fun i => cellsN (kid i) (sk i)) k ++ (cellsN (kid k) s1).toList))
    (hat : v.ownBlock = some g2 ∨ g2 = W.heap.size) :
    GrowK B kid W2 (k + 1) (.slice (some ⟨g2, 0, none⟩) (k + 1) cap3) (fun i => if i = k then s1 else sk i) (fun i => if i = k then (fun b => wr.heap.size ≤ b ∧ b < H) else T i) := by
  have hsz := hgrow.size
  have hW2 : ∀ q, q < W.heap.size → v.ownBlock ≠ some q → W2.heap[q]? = W.heap[q]? := fun q hq hn => hgrow.block q hq fun e => hn e.symm
  have hT : ∀ i, i < k → ∀ b, T i b → b < wr.heap.size ∧ B ≤ b ∧ v.ownBlock ≠ some b := fun i hi b hb => ⟨(inv.sub i hi b hb).2.1, (inv.sub i hi b hb).1, (inv.sub i hi b hb).2.2⟩
  refine ⟨⟨?_, ?_⟩, ?_, ?_, ?_, fun h => absurd h (by omega)⟩
  · rw [flat_length _ (fun _ => rfl)]
  · have e : flat (fun i => cellsN (kid i) (if i = k then s1 else sk i)) (k + 1) = flat (fun i => cellsN (kid i) (sk i)) k ++ (cellsN (kid k) s1).toList := by
      rw [flat_succ, if_pos rfl]
      congr 1
      exact flat_congr fun i hi => by rw [if_neg (by omega)]
    rw [e]
    exact hown3.2
  · intro i hi
    by_cases hik : i = k
    · subst hik
      simp only [if_true]
      refine OwnK.frame _ hown1 fun b hb hl => hW2 b hl fun e => ?_
      have := inv.ownIn e; omega
    · simp only [if_neg hik]
      refine OwnK.frame _ (inv.kid i (by omega)) fun b hb hl => ?_
      have := hT i (by omega) b hb
      rw [hW2 b (by omega) this.2.2, hW b this.2.1 this.1]
  · intro i hi b hb
    by_cases hik : i = k
    · subst hik
      simp only [if_true] at hb
      refine ⟨by omega, by omega, ?_⟩
      simp only [Value.ownBlock, ne_eq, Option.some.injEq]
      rcases hat with h | h
      · have := inv.ownIn h; omega
      · omega
    · simp only [if_neg hik] at hb
      have := hT i (by omega) b hb
      refine ⟨this.2.1, by omega, ?_⟩
      simp only [Value.ownBlock, ne_eq, Option.some.injEq]
      rintro rfl
      rcases hat with h | h
      · exact this.2.2 h
      · omega
  · intro i j b hi hj hbi hbj
    by_cases hik : i = k <;> by_cases hjk : j = k
    · omega
    · subst hik
      simp only [if_true] at hbi
      simp only [if_neg hjk] at hbj
      have := hT j (by omega) b hbj
      omega
    · subst hjk
      simp only [if_true] at hbj
      simp only [if_neg hik] at hbi
      have := hT i (by omega) b hbi
      omega
    · simp only [if_neg hik] at hbi
      simp only [if_neg hjk] at hbj
      exact inv.apart i j b (by omega) (by omega) hbi hbj
/-- At the end the children are owned. -/
theorem GrowK.own_ {x : RN} (inv : GrowK B x.kid wr x.n v sk T) : OwnK wr x v (fun b => B ≤ b ∧ b < wr.heap.size) := by
  by_cases h0 : x.n = 0
  · rw [inv.nil h0]; exact OwnK.none_ h0
  · rcases inv.own.2 with ⟨_, h1⟩ | ⟨g, cap, cur, h1, h2, h3, h4, h5, h6, h7⟩
    · exact absurd h1 h0
    · have hg := inv.ownIn (q := g) (by rw [h1]; rfl)
      refine OwnAt.own (g := g) (cap := cap) (cs := cur) (T := T) (sk := sk) ⟨by omega, h4, h5, h1, h3, by omega, h6, fun i hi j hj => ?_, inv.kid, fun i hi b hb => ?_, inv.apart⟩
      · have := flat_get (fun i => cellsN (x.kid i) (sk i)) (fun _ => rfl) hj x.n hi
        rw [← this, ← h7, List.getElem?_take, if_pos (by omega), Array.getElem?_toList]
      · have := inv.sub i hi b hb
        refine ⟨by omega, fun e => this.2.2 ?_⟩
        rw [h1, e]; rfl
end
end Go.Proofs.Ytcicfijpfhbcaaa
