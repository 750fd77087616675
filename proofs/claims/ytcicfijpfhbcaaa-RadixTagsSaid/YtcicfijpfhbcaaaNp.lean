/-
  The reference's node, in plain words: the node that is made of a list of entries. No program.
-/
import Derived.Test.YtcicfijpfhbcaaaRe
namespace Go.Proofs.Ytcicfijpfhbcaaa
set_option linter.unusedSimpArgs false
set_option linter.unusedVariables false
set_option linter.unusedSectionVars false

def tb0 (t : Int) : Bool := bits .and .i64 t 1 == 1
def tb1 (t : Int) : Bool := bits .and .i64 (t / 2) 1 == 1
def any0 (l : List E3) : Bool := l.any fun e => tb0 e.2.2
def any1 (l : List E3) : Bool := l.any fun e => tb1 e.2.2
theorem tb_ent (e : Ent) : tb0 (tgE e) = e.2.1 ∧ tb1 (tgE e) = e.2.2 := by
  have h : ∀ a b : Bool, tb0 ((if a then 1 else 0) + (if b then 1 else 0) * 2) = a ∧ tb1 ((if a then 1 else 0) + (if b then 1 else 0) * 2) = b := by decide +kernel
  exact h e.2.1 e.2.2
theorem tg_in (e : Ent) : 0 ≤ tgE e ∧ tgE e ≤ 3 := by unfold tgE; split <;> split <;> omega
/-- The entries of a list that lie below digit i. -/
def partE (l : List E3) (first w : Int) (i : Nat) : List E3 := l.filter fun e => decide ((e.1 - first) / w = i)
def headV : List E3 → Int
  | [] => 0
  | e :: _ => e.2.1
/-- What the reference's node makes of a list, at level m + 1. -/
def nodeP : Nat → List E3 → Int → RN
  | 0, l, first => match l with
    | [] => zeroN
    | e :: r => .mk (fun i => headV (partE (e :: r) first 1 i)) (bsum fun i => any0 (partE (e :: r) first 1 i)) (bsum fun i => any1 (partE (e :: r) first 1 i)) 0 (fun i => absurd i.2 (by omega))
  | m + 1, l, first => match l with
    | [] => zeroN
    | e :: r => .mk (fun _ => 0) (bsum fun i => any0 (partE (e :: r) first (8 ^ (m + 1)) i)) (bsum fun i => any1 (partE (e :: r) first (8 ^ (m + 1)) i)) 8 (fun i => nodeP m (partE (e :: r) first (8 ^ (m + 1)) i.1) (first + (i.1 : Int) * 8 ^ (m + 1)))
theorem nodeP_nil (m : Nat) (first : Int) : nodeP m [] first = zeroN := by cases m <;> rfl
theorem nodeP_leaf {l : List E3} (h : l ≠ []) (first : Int) : nodeP 0 l first = .mk (fun i => headV (partE l first 1 i)) (bsum fun i => any0 (partE l first 1 i)) (bsum fun i => any1 (partE l first 1 i)) 0 (fun i => absurd i.2 (by omega)) := by
  cases l with
  | nil => exact absurd rfl h
  | cons e r => rfl
theorem nodeP_inner (m : Nat) {l : List E3} (h : l ≠ []) (first : Int) : nodeP (m + 1) l first = .mk (fun _ => 0) (bsum fun i => any0 (partE l first (8 ^ (m + 1)) i)) (bsum fun i => any1 (partE l first (8 ^ (m + 1)) i)) 8 (fun i => nodeP m (partE l first (8 ^ (m + 1)) i.1) (first + (i.1 : Int) * 8 ^ (m + 1))) := by
  cases l with
  | nil => exact absurd rfl h
  | cons e r => rfl

/-- The entries that f lists, n indices from 'first' on. -/
def lsE (n : Nat) (first : Int) (f : Nat → Ent) : List E3 := (List.range n).flatMap fun j => row3 first (f j) j
theorem lsE_mem {n : Nat} {first : Int} {f : Nat → Ent} {e : E3} : e ∈ lsE n first f ↔ ∃ j, j < n ∧ (f j).1 ≠ 0 ∧ e = (first + j, (f j).1, tgE (f j)) := by
  unfold lsE
  rw [List.mem_flatMap]
  constructor
  · rintro ⟨j, hj, he⟩
    unfold row3 at he
    split at he
    · cases he
    · rename_i h0
      rw [List.mem_singleton] at he
      exact ⟨j, List.mem_range.1 hj, h0, he⟩
  · rintro ⟨j, hj, h0, he⟩
    exact ⟨j, List.mem_range.2 hj, by rw [row3, if_neg h0, he]; exact List.mem_singleton.2 rfl⟩
theorem lsE_split (p : Nat) (first : Int) (f : Nat → Ent) (a : Nat) : lsE (a * p) first f = (List.range a).flatMap fun d : Nat => lsE p (first + (d : Int) * p) fun r => f (d * p + r) := by
  unfold lsE
  rw [range_mul]
  refine flatMap_congr' fun d _ => flatMap_congr' fun r _ => ?_
  unfold row3
  split
  · rfl
  · congr 2; push_cast; omega
theorem flat_one {α : Type} (L : List α) (i : Nat) : ∀ n, ((List.range n).flatMap fun d => if d = i then L else []) = if i < n then L else []
  | 0 => by simp
  | n + 1 => by
    rw [List.range_succ, List.flatMap_append, flat_one L i n]
    simp only [List.flatMap_cons, List.flatMap_nil, List.append_nil]
    by_cases h1 : i < n
    · rw [if_pos h1, if_neg (by omega), if_pos (by omega), List.append_nil]
    · by_cases h2 : n = i
      · rw [if_neg h1, if_pos h2, if_pos (by omega)]; rfl
      · rw [if_neg h1, if_neg h2, if_neg (by omega)]; rfl
/-- The part below a digit of such a list. -/
theorem part_ls {p : Nat} (hp : 0 < p) (first : Int) (f : Nat → Ent) {i a : Nat} (hi : i < a) : partE (lsE (a * p) first f) first p i = lsE p (first + (i : Int) * p) fun r => f (i * p + r) := by
  unfold partE
  rw [lsE_split, List.filter_flatMap]
  have e : ∀ d ∈ List.range a, (lsE p (first + (d : Int) * p) fun r => f (d * p + r)).filter (fun e => decide ((e.1 - first) / (p : Int) = i)) = if d = i then lsE p (first + (i : Int) * p) (fun r => f (i * p + r)) else [] := fun d _ => by
    have hin : ∀ e ∈ lsE p (first + (d : Int) * p) (fun r => f (d * p + r)), (e.1 - first) / (p : Int) = d := fun e he => by
      obtain ⟨j, hj, -, rfl⟩ := lsE_mem.1 he
      show (first + (d : Int) * p + j - first) / (p : Int) = d
      rw [show first + (d : Int) * p + j - first = j + (d : Int) * p by omega, Int.add_mul_ediv_right _ _ (by omega), Int.ediv_eq_zero_of_lt (by omega) (by omega)]
      omega
    by_cases h : d = i
    · subst h
      rw [if_pos rfl]
      exact List.filter_eq_self.2 fun e he => by rw [hin e he]; simp
    · rw [if_neg h]
      rw [List.filter_eq_nil_iff]
      intro e he
      rw [hin e he]
      simp; omega
  rw [flatMap_congr' e, flat_one, if_pos hi]

def wfE (f : Nat → Ent) : Prop := ∀ j, (f j).1 = 0 → f j = e0
theorem lsE_nil {n : Nat} {first : Int} {f : Nat → Ent} (hf : wfE f) (h : lsE n first f = []) {j : Nat} (hj : j < n) : f j = e0 := by
  refine hf j (Classical.byContradiction fun h0 => ?_)
  have : (first + j, (f j).1, tgE (f j)) ∈ lsE n first f := lsE_mem.2 ⟨j, hj, h0, rfl⟩
  rw [h] at this; cases this
set_option maxRecDepth 100000 in
theorem bsum_tab : ∀ b0 b1 b2 b3 b4 b5 b6 b7 : Bool, (0 ≤ (if b0 then 1 else 0) + (if b1 then 2 else 0) + (if b2 then 4 else 0) + (if b3 then 8 else 0) + (if b4 then 16 else 0) + (if b5 then 32 else 0) + (if b6 then 64 else 0) + (if b7 then (128 : Int) else 0) ∧ (if b0 then 1 else 0) + (if b1 then 2 else 0) + (if b2 then 4 else 0) + (if b3 then 8 else 0) + (if b4 then 16 else 0) + (if b5 then 32 else 0) + (if b6 then 64 else 0) + (if b7 then (128 : Int) else 0) < 256) ∧
    bitB ((if b0 then 1 else 0) + (if b1 then 2 else 0) + (if b2 then 4 else 0) + (if b3 then 8 else 0) + (if b4 then 16 else 0) + (if b5 then 32 else 0) + (if b6 then 64 else 0) + (if b7 then (128 : Int) else 0)) 0 = b0 ∧
    bitB ((if b0 then 1 else 0) + (if b1 then 2 else 0) + (if b2 then 4 else 0) + (if b3 then 8 else 0) + (if b4 then 16 else 0) + (if b5 then 32 else 0) + (if b6 then 64 else 0) + (if b7 then (128 : Int) else 0)) 1 = b1 ∧
    bitB ((if b0 then 1 else 0) + (if b1 then 2 else 0) + (if b2 then 4 else 0) + (if b3 then 8 else 0) + (if b4 then 16 else 0) + (if b5 then 32 else 0) + (if b6 then 64 else 0) + (if b7 then (128 : Int) else 0)) 2 = b2 ∧
    bitB ((if b0 then 1 else 0) + (if b1 then 2 else 0) + (if b2 then 4 else 0) + (if b3 then 8 else 0) + (if b4 then 16 else 0) + (if b5 then 32 else 0) + (if b6 then 64 else 0) + (if b7 then (128 : Int) else 0)) 3 = b3 ∧
    bitB ((if b0 then 1 else 0) + (if b1 then 2 else 0) + (if b2 then 4 else 0) + (if b3 then 8 else 0) + (if b4 then 16 else 0) + (if b5 then 32 else 0) + (if b6 then 64 else 0) + (if b7 then (128 : Int) else 0)) 4 = b4 ∧
    bitB ((if b0 then 1 else 0) + (if b1 then 2 else 0) + (if b2 then 4 else 0) + (if b3 then 8 else 0) + (if b4 then 16 else 0) + (if b5 then 32 else 0) + (if b6 then 64 else 0) + (if b7 then (128 : Int) else 0)) 5 = b5 ∧
    bitB ((if b0 then 1 else 0) + (if b1 then 2 else 0) + (if b2 then 4 else 0) + (if b3 then 8 else 0) + (if b4 then 16 else 0) + (if b5 then 32 else 0) + (if b6 then 64 else 0) + (if b7 then (128 : Int) else 0)) 6 = b6 ∧
    bitB ((if b0 then 1 else 0) + (if b1 then 2 else 0) + (if b2 then 4 else 0) + (if b3 then 8 else 0) + (if b4 then 16 else 0) + (if b5 then 32 else 0) + (if b6 then 64 else 0) + (if b7 then (128 : Int) else 0)) 7 = b7 := by decide +kernel
theorem bsum_rng (f : Nat → Bool) : rng (bsum f) := (bsum_tab (f 0) (f 1) (f 2) (f 3) (f 4) (f 5) (f 6) (f 7)).1
theorem bsum_bit (f : Nat → Bool) : ∀ i, i < 8 → bitB (bsum f) i = f i
  | 0, _ => (bsum_tab (f 0) (f 1) (f 2) (f 3) (f 4) (f 5) (f 6) (f 7)).2.1
  | 1, _ => (bsum_tab (f 0) (f 1) (f 2) (f 3) (f 4) (f 5) (f 6) (f 7)).2.2.1
  | 2, _ => (bsum_tab (f 0) (f 1) (f 2) (f 3) (f 4) (f 5) (f 6) (f 7)).2.2.2.1
  | 3, _ => (bsum_tab (f 0) (f 1) (f 2) (f 3) (f 4) (f 5) (f 6) (f 7)).2.2.2.2.1
  | 4, _ => (bsum_tab (f 0) (f 1) (f 2) (f 3) (f 4) (f 5) (f 6) (f 7)).2.2.2.2.2.1
  | 5, _ => (bsum_tab (f 0) (f 1) (f 2) (f 3) (f 4) (f 5) (f 6) (f 7)).2.2.2.2.2.2.1
  | 6, _ => (bsum_tab (f 0) (f 1) (f 2) (f 3) (f 4) (f 5) (f 6) (f 7)).2.2.2.2.2.2.2.1
  | 7, _ => (bsum_tab (f 0) (f 1) (f 2) (f 3) (f 4) (f 5) (f 6) (f 7)).2.2.2.2.2.2.2.2
  | i + 8, h => absurd h (by omega)
theorem bsum_ne (f : Nat → Bool) : (bsum f != 0) = (List.range 8).any f := by
  cases h : (List.range 8).any f
  · have : bsum f = 0 := bits_zero (bsum_rng f) fun i hi => by
      rw [bsum_bit f i hi]
      cases hf : f i
      · rfl
      · have := List.any_eq_true.2 ⟨i, List.mem_range.2 hi, hf⟩
        rw [h] at this; cases this
    rw [this]; rfl
  · obtain ⟨i, hi, hf⟩ := List.any_eq_true.1 h
    have hi8 := List.mem_range.1 hi
    have hb := bsum_bit f i hi8
    rw [hf] at hb
    rw [bne_iff_ne]
    intro h0
    rw [h0, bitB_0 i hi8] at hb
    cases hb
theorem any_split {p : Nat} (hp : 0 < p) (first : Int) (f : Nat → Ent) (q : E3 → Bool) : (lsE (8 * p) first f).any q = (List.range 8).any fun d => (partE (lsE (8 * p) first f) first p d).any q := by
  have e : (lsE (8 * p) first f) = (List.range 8).flatMap fun d => partE (lsE (8 * p) first f) first p d := by
    conv => lhs; rw [lsE_split]
    refine flatMap_congr' fun d hd => ?_
    rw [part_ls hp first f (List.mem_range.1 hd)]
  conv => lhs; rw [e]
  rw [List.any_flatMap]

theorem nodeP_t0 (m : Nat) (l : List E3) (first : Int) : (nodeP m l first).t0 = if l = [] then 0 else bsum fun i => any0 (partE l first (8 ^ m) i) := by
  by_cases h : l = []
  · rw [if_pos h, h, nodeP_nil]; rfl
  · rw [if_neg h]
    cases m with
    | zero => rw [nodeP_leaf h]; rfl
    | succ m => rw [nodeP_inner m h]; rfl
theorem nodeP_t1 (m : Nat) (l : List E3) (first : Int) : (nodeP m l first).t1 = if l = [] then 0 else bsum fun i => any1 (partE l first (8 ^ m) i) := by
  by_cases h : l = []
  · rw [if_pos h, h, nodeP_nil]; rfl
  · rw [if_neg h]
    cases m with
    | zero => rw [nodeP_leaf h]; rfl
    | succ m => rw [nodeP_inner m h]; rfl
theorem t_any (m : Nat) (first : Int) (f : Nat → Ent) :
    ((nodeP m (lsE (8 ^ (m + 1)) first f) first).t0 != 0) = any0 (lsE (8 ^ (m + 1)) first f) ∧ ((nodeP m (lsE (8 ^ (m + 1)) first f) first).t1 != 0) = any1 (lsE (8 ^ (m + 1)) first f) := by
  have hp : 0 < 8 ^ m := pow8_pos m
  have hw : ((8 ^ m : Nat) : Int) = 8 ^ m := by push_cast; rfl
  have e8 : (8 : Nat) ^ (m + 1) = 8 * 8 ^ m := by rw [Nat.pow_succ, Nat.mul_comm]
  rw [nodeP_t0, nodeP_t1]
  by_cases h : lsE (8 ^ (m + 1)) first f = []
  · rw [if_pos h, if_pos h, h]; exact ⟨rfl, rfl⟩
  · rw [if_neg h, if_neg h, bsum_ne, bsum_ne, ← hw, e8]
    exact ⟨(any_split hp first f _).symm, (any_split hp first f _).symm⟩

theorem nodeP_ok0 (f : Nat → Ent) (first : Int) (hf : wfE f) (hne : lsE 8 first f ≠ []) :
    okN 0 (nodeP 0 (lsE 8 first f) first) ∧ ∀ j, j < 8 → lk 0 (nodeP 0 (lsE 8 first f) first) j = f j := by
  have hpart : ∀ i, i < 8 → partE (lsE 8 first f) first 1 i = row3 first (f i) i := fun i hi => by
    have h1 := part_ls (p := 1) (by omega) first f (i := i) (a := 8) hi
    rw [Nat.mul_one, Int.natCast_one] at h1
    rw [h1]
    unfold lsE
    rw [List.range_one, List.flatMap_cons, List.flatMap_nil, List.append_nil]
    unfold row3
    show (if (f (i * 1 + 0)).1 = 0 then [] else [(first + (i : Int) * 1 + ((0 : Nat) : Int), (f (i * 1 + 0)).1, tgE (f (i * 1 + 0)))]) = _
    rw [Nat.mul_one, Nat.add_zero, Int.mul_one]
    split
    · rfl
    · simp
  have hv : ∀ i, i < 8 → headV (partE (lsE 8 first f) first 1 i) = (f i).1 := fun i hi => by
    rw [hpart i hi]
    unfold row3
    split
    · rename_i h; rw [h]; rfl
    · rfl
  have h0 : ∀ i, i < 8 → any0 (partE (lsE 8 first f) first 1 i) = (f i).2.1 := fun i hi => by
    rw [hpart i hi]
    unfold row3
    split
    · rename_i h; rw [hf i h]; rfl
    · simp [any0, (tb_ent (f i)).1]
  have h1 : ∀ i, i < 8 → any1 (partE (lsE 8 first f) first 1 i) = (f i).2.2 := fun i hi => by
    rw [hpart i hi]
    unfold row3
    split
    · rename_i h; rw [hf i h]; rfl
    · simp [any1, (tb_ent (f i)).2]
  have hmem : ∃ j, j < 8 ∧ (f j).1 ≠ 0 := by
    obtain ⟨e, he⟩ := List.exists_mem_of_ne_nil _ hne
    obtain ⟨j, hj, hj0, -⟩ := lsE_mem.1 he
    exact ⟨j, hj, hj0⟩
  rw [nodeP_leaf hne]
  generalize partE (lsE 8 first f) first 1 = P at *
  have e0' := bsum_bit fun i => any0 (P i)
  have e1' := bsum_bit fun i => any1 (P i)
  have r0 := bsum_rng fun i => any0 (P i)
  have r1 := bsum_rng fun i => any1 (P i)
  generalize (bsum fun i => any0 (P i)) = T0 at *
  generalize (bsum fun i => any1 (P i)) = T1 at *
  have hok : okP 0 (.mk (fun i => headV (P i)) T0 T1 0 (fun i => absurd i.2 (by omega))) :=
    ⟨rfl, r0, r1, fun i hi hz => by
      have hz' : (f i).1 = 0 := by rw [← hv i hi]; exact hz
      have hfi := hf i hz'
      refine ⟨?_, ?_⟩
      · refine (e0' i hi).trans ((h0 i hi).trans ?_); rw [hfi]; rfl
      · refine (e1' i hi).trans ((h1 i hi).trans ?_); rw [hfi]; rfl⟩
  refine ⟨⟨hok, Bool.eq_false_iff.2 fun he => ?_⟩, fun j hj => ?_⟩
  · obtain ⟨j, hj, hj0⟩ := hmem
    have hz := (empty_leaf hok).1 he j hj
    exact hj0 ((hv j hj).symm.trans hz)
  · show ent _ (j % 8) = f j
    rw [Nat.mod_eq_of_lt hj]
    show (headV (P j), bitB T0 j, bitB T1 j) = f j
    rw [hv j hj, e0' j hj, e1' j hj, h0 j hj, h1 j hj]

/-- THE NODE OF A LIST IS WELL FORMED AND HOLDS THE LIST'S ENTRIES. -/
theorem nodeP_ok : ∀ (m : Nat) (f : Nat → Ent) (first : Int), wfE f → lsE (8 ^ (m + 1)) first f ≠ [] →
    okN m (nodeP m (lsE (8 ^ (m + 1)) first f) first) ∧ ∀ j, j < 8 ^ (m + 1) → lk m (nodeP m (lsE (8 ^ (m + 1)) first f) first) j = f j
  | 0, f, first, hf, hne => nodeP_ok0 f first hf hne
  | m + 1, f, first, hf, hne => by
    have hp : 0 < 8 ^ (m + 1) := pow8_pos _
    have e8 : (8 : Nat) ^ (m + 1 + 1) = 8 * 8 ^ (m + 1) := by rw [Nat.pow_succ, Nat.mul_comm]
    have hw : ((8 ^ (m + 1) : Nat) : Int) = 8 ^ (m + 1) := by push_cast; rfl
    obtain ⟨F, hF⟩ : ∃ F : Nat → Nat → Ent, ∀ i r, F i r = f (i * 8 ^ (m + 1) + r) := ⟨fun i r => f (i * 8 ^ (m + 1) + r), fun _ _ => rfl⟩
    have hpart : ∀ i, i < 8 → partE (lsE (8 ^ (m + 1 + 1)) first f) first (8 ^ (m + 1)) i = lsE (8 ^ (m + 1)) (first + (i : Int) * 8 ^ (m + 1)) (F i) := fun i hi => by
      have h1 := part_ls hp first f (i := i) (a := 8) hi
      rw [hw, ← e8] at h1
      rw [h1]
      congr 1
      funext r
      rw [hF]
    have hfi : ∀ i, wfE (F i) := fun i j h => by rw [hF] at h ⊢; exact hf _ h
    have hcase : ∀ i : Nat, i < 8 → lsE (8 ^ (m + 1)) (first + (i : Int) * 8 ^ (m + 1)) (F i) = [] ∨ (okN m (nodeP m (lsE (8 ^ (m + 1)) (first + (i : Int) * 8 ^ (m + 1)) (F i)) (first + (i : Int) * 8 ^ (m + 1))) ∧ ∀ j, j < 8 ^ (m + 1) → lk m (nodeP m (lsE (8 ^ (m + 1)) (first + (i : Int) * 8 ^ (m + 1)) (F i)) (first + (i : Int) * 8 ^ (m + 1))) j = F i j) := fun i hi =>
      (Classical.em _).imp id fun h => nodeP_ok m _ _ (hfi i) h
    have hmem : ∃ i : Nat, i < 8 ∧ lsE (8 ^ (m + 1)) (first + (i : Int) * 8 ^ (m + 1)) (F i) ≠ [] := by
      obtain ⟨e, he⟩ := List.exists_mem_of_ne_nil _ hne
      obtain ⟨j, hj, hj0, -⟩ := lsE_mem.1 he
      have hd : j / 8 ^ (m + 1) < 8 := by rw [e8] at hj; exact Nat.div_lt_of_lt_mul (by rw [Nat.mul_comm]; exact hj)
      refine ⟨j / 8 ^ (m + 1), hd, fun h => ?_⟩
      have := lsE_nil (hfi _) h (Nat.mod_lt j hp)
      rw [hF, show j / 8 ^ (m + 1) * 8 ^ (m + 1) + j % 8 ^ (m + 1) = j by rw [Nat.mul_comm]; exact Nat.div_add_mod j _] at this
      rw [this] at hj0
      exact hj0 rfl
    have htk := fun i : Nat => t_any m (first + (i : Int) * 8 ^ (m + 1)) (F i)
    rw [nodeP_inner m hne]
    generalize hP : partE (lsE (8 ^ (m + 1 + 1)) first f) first (8 ^ (m + 1)) = P at *
    have e0' := bsum_bit fun i => any0 (P i)
    have e1' := bsum_bit fun i => any1 (P i)
    have r0 := bsum_rng fun i => any0 (P i)
    have r1 := bsum_rng fun i => any1 (P i)
    generalize (bsum fun i => any0 (P i)) = T0 at *
    generalize (bsum fun i => any1 (P i)) = T1 at *
    have hkid : ∀ i, i < 8 → (RN.mk (fun _ => 0) T0 T1 8 (fun i => nodeP m (P i.1) (first + (i.1 : Int) * 8 ^ (m + 1)))).kid i = nodeP m (lsE (8 ^ (m + 1)) (first + (i : Int) * 8 ^ (m + 1)) (F i)) (first + (i : Int) * 8 ^ (m + 1)) := fun i hi => by
      rw [RN.kid_mk _ _ _ _ _ i hi, hpart i hi]
    have hn : (RN.mk (fun _ => 0) T0 T1 8 (fun i => nodeP m (P i.1) (first + (i.1 : Int) * 8 ^ (m + 1)))).n = 8 := rfl
    have ht0 : (RN.mk (fun _ => 0) T0 T1 8 (fun i => nodeP m (P i.1) (first + (i.1 : Int) * 8 ^ (m + 1)))).t0 = T0 := rfl
    have ht1 : (RN.mk (fun _ => 0) T0 T1 8 (fun i => nodeP m (P i.1) (first + (i.1 : Int) * 8 ^ (m + 1)))).t1 = T1 := rfl
    have hv : ∀ i, (RN.mk (fun _ => 0) T0 T1 8 (fun i => nodeP m (P i.1) (first + (i.1 : Int) * 8 ^ (m + 1)))).v i = 0 := fun _ => rfl
    generalize RN.mk (fun _ => 0) T0 T1 8 (fun i => nodeP m (P i.1) (first + (i.1 : Int) * 8 ^ (m + 1))) = X at *
    have hok : okP (m + 1) X := by
      refine ⟨hn, by rw [ht0]; exact r0, by rw [ht1]; exact r1, fun i _ => hv i, fun i hi => ⟨?_, ?_, ?_⟩⟩
      · rw [hkid i hi]
        rcases hcase i hi with h | h
        · left; rw [h, nodeP_nil]; exact absent_zeroN
        · right; exact h.1
      · rw [hkid i hi, (htk i).1, ht0, e0' i hi, hpart i hi]
      · rw [hkid i hi, (htk i).2, ht1, e1' i hi, hpart i hi]
    refine ⟨⟨hok, Bool.eq_false_iff.2 fun he => ?_⟩, fun j hj => ?_⟩
    · obtain ⟨i, hi8, hne'⟩ := hmem
      have hz := (empty_inner hok).1 he i hi8
      rw [hkid i hi8] at hz
      rcases hcase i hi8 with h | h
      · exact hne' h
      · have h3 := empty_of_absent hz
        rw [h.1.2] at h3; cases h3
    · have hd : j / 8 ^ (m + 1) < 8 := by rw [e8] at hj; exact Nat.div_lt_of_lt_mul (by rw [Nat.mul_comm]; exact hj)
      have hmod : j % 8 ^ (m + 1) < 8 ^ (m + 1) := Nat.mod_lt _ hp
      have hj' : j / 8 ^ (m + 1) * 8 ^ (m + 1) + j % 8 ^ (m + 1) = j := by rw [Nat.mul_comm]; exact Nat.div_add_mod j _
      have hl := lk_top X hd hmod
      rw [hj', hkid _ hd] at hl
      rw [hl]
      rcases hcase _ hd with h | h
      · have h2 := lsE_nil (hfi _) h hmod
        rw [h, nodeP_nil, lk_absent m absent_zeroN, ← h2, hF, hj']
      · rw [h.2 _ hmod, hF, hj']
end Go.Proofs.Ytcicfijpfhbcaaa
