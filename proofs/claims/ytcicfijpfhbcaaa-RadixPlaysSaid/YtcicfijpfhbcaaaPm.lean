/-
  What stands at an index of a node, and what an update makes of it. No program.
-/
import Derived.Test.YtcicfijpfhbcaaaPl
namespace Go.Proofs.Ytcicfijpfhbcaaa
set_option linter.unusedSimpArgs false
set_option linter.unusedVariables false
set_option linter.unusedSectionVars false

/-- An entry: value and tags. -/
abbrev Ent := Int × Bool × Bool
def e0 : Ent := (0, false, false)
def ent (x : RN) (d : Nat) : Ent := (x.v d, bitB x.t0 d, bitB x.t1 d)
/-- The entry at an index, below a node of level m + 1. -/
def lk : Nat → RN → Nat → Ent
  | 0, x, i => ent x (i % 8)
  | m + 1, x, i => lk m (x.kid (i / 8 ^ (m + 1) % 8)) i

theorem lk_congr : ∀ (m : Nat) (x : RN) (i j : Nat), i % 8 ^ (m + 1) = j % 8 ^ (m + 1) → lk m x i = lk m x j
  | 0, x, i, j, h => by
    have h' : i % 8 = j % 8 := by simpa using h
    rw [lk, lk, h']
  | m + 1, x, i, j, h => by
    have e : (8 : Nat) ^ (m + 2) = 8 ^ (m + 1) * 8 := Nat.pow_succ ..
    have h1 : i / 8 ^ (m + 1) % 8 = j / 8 ^ (m + 1) % 8 := by
      rw [← Nat.mod_mul_right_div_self, ← Nat.mod_mul_right_div_self, ← e]
      have h' : i % 8 ^ (m + 2) = j % 8 ^ (m + 2) := h
      rw [h']
    have h2 : i % 8 ^ (m + 1) = j % 8 ^ (m + 1) := by
      have hd : 8 ^ (m + 1) ∣ 8 ^ (m + 2) := ⟨8, e⟩
      have h' : i % 8 ^ (m + 2) = j % 8 ^ (m + 2) := h
      rw [← Nat.mod_mod_of_dvd i hd, ← Nat.mod_mod_of_dvd j hd, h']
    rw [lk, lk, h1]
    exact lk_congr m _ i j h2
theorem pow8_pos (m : Nat) : 0 < 8 ^ m := Nat.pow_pos (by omega)
/-- The index with digit k on top. -/
theorem dig_top {m k r : Nat} (hk : k < 8) (hr : r < 8 ^ (m + 1)) : (k * 8 ^ (m + 1) + r) / 8 ^ (m + 1) % 8 = k := by
  rw [Nat.add_comm, Nat.add_mul_div_right _ _ (pow8_pos _), Nat.div_eq_of_lt hr, Nat.zero_add, Nat.mod_eq_of_lt hk]
theorem lk_top {m k r : Nat} (x : RN) (hk : k < 8) (hr : r < 8 ^ (m + 1)) : lk (m + 1) x (k * 8 ^ (m + 1) + r) = lk m (x.kid k) r := by
  rw [lk, dig_top hk hr]
  exact lk_congr m _ _ _ (by rw [Nat.mul_comm, Nat.mul_add_mod])

set_option maxRecDepth 100000 in
theorem clr_tab : ∀ t : Fin 256, ∀ d : Fin 8, (0 ≤ clr (t.1 : Int) d.1 ∧ clr (t.1 : Int) d.1 < 256) ∧ ∀ i : Fin 8, bitB (clr (t.1 : Int) d.1) i.1 = (!decide (i.1 = d.1) && bitB (t.1 : Int) i.1) := by decide +kernel
set_option maxRecDepth 100000 in
theorem put_tab : ∀ t : Fin 256, ∀ d : Fin 8, (0 ≤ put1 (t.1 : Int) d.1 ∧ put1 (t.1 : Int) d.1 < 256) ∧ ∀ i : Fin 8, bitB (put1 (t.1 : Int) d.1) i.1 = (decide (i.1 = d.1) || bitB (t.1 : Int) i.1) := by decide +kernel
def bsum (f : Nat → Bool) : Int := (if f 0 then 1 else 0) + (if f 1 then 2 else 0) + (if f 2 then 4 else 0) + (if f 3 then 8 else 0) + (if f 4 then 16 else 0) + (if f 5 then 32 else 0) + (if f 6 then 64 else 0) + (if f 7 then 128 else 0)
set_option maxRecDepth 100000 in
theorem sum_tab : ∀ t : Fin 256, (t.1 : Int) = bsum (bitB (t.1 : Int)) := by decide +kernel

theorem rng_fin {t : Int} (h : rng t) : ∃ k : Fin 256, t = (k.1 : Int) := ⟨⟨t.toNat, by unfold rng at h; omega⟩, by unfold rng at h; show t = (t.toNat : Int); omega⟩
theorem clr_rng {t : Int} (h : rng t) {d : Nat} (hd : d < 8) : rng (clr t d) := by
  obtain ⟨k, rfl⟩ := rng_fin h
  exact (clr_tab k ⟨d, hd⟩).1
theorem clr_bit {t : Int} (h : rng t) {d i : Nat} (hd : d < 8) (hi : i < 8) : bitB (clr t d) i = (!decide (i = d) && bitB t i) := by
  obtain ⟨k, rfl⟩ := rng_fin h
  exact (clr_tab k ⟨d, hd⟩).2 ⟨i, hi⟩
theorem put_rng {t : Int} (h : rng t) {d : Nat} (hd : d < 8) : rng (put1 t d) := by
  obtain ⟨k, rfl⟩ := rng_fin h
  exact (put_tab k ⟨d, hd⟩).1
theorem put_bit {t : Int} (h : rng t) {d i : Nat} (hd : d < 8) (hi : i < 8) : bitB (put1 t d) i = (decide (i = d) || bitB t i) := by
  obtain ⟨k, rfl⟩ := rng_fin h
  exact (put_tab k ⟨d, hd⟩).2 ⟨i, hi⟩
theorem bits_eq {t u : Int} (ht : rng t) (hu : rng u) (h : ∀ i, i < 8 → bitB t i = bitB u i) : t = u := by
  obtain ⟨k, rfl⟩ := rng_fin ht
  obtain ⟨l, rfl⟩ := rng_fin hu
  rw [sum_tab k, sum_tab l]
  unfold bsum
  rw [h 0 (by omega), h 1 (by omega), h 2 (by omega), h 3 (by omega), h 4 (by omega), h 5 (by omega), h 6 (by omega), h 7 (by omega)]
theorem rng_0 : rng 0 := by unfold rng; omega
theorem bits_zero {t : Int} (ht : rng t) (h : ∀ i, i < 8 → bitB t i = false) : t = 0 := bits_eq ht rng_0 fun i hi => by rw [h i hi, bitB_0 i hi]
theorem refT_eq (d : Nat) (kt t : Int) : refT d kt t = if kt != 0 then put1 (clr t d) d else clr t d := rfl
theorem refT_rng {t kt : Int} (h : rng t) {d : Nat} (hd : d < 8) : rng (refT d kt t) := by
  rw [refT_eq]
  cases kt != 0
  · exact clr_rng h hd
  · exact put_rng (clr_rng h hd) hd
theorem refT_bit {t kt : Int} (h : rng t) {d i : Nat} (hd : d < 8) (hi : i < 8) : bitB (refT d kt t) i = if i = d then (kt != 0) else bitB t i := by
  rw [refT_eq]
  cases hk : kt != 0
  · simp only [Bool.false_eq_true, if_false]
    rw [clr_bit h hd hi]
    by_cases e : i = d <;> simp [e]
  · simp only [if_true]
    rw [put_bit (clr_rng h hd) hd hi, clr_bit h hd hi]
    by_cases e : i = d <;> simp [e]

theorem ent_absent {x : RN} (h : absentB x = true) {d : Nat} (hd : d < 8) : ent x d = e0 := by
  obtain ⟨-, h0, h1, hv⟩ := absent_iff.1 h
  rw [ent, h0, h1, hv d hd, bitB_0 d hd]; rfl
theorem absent_zeroN : absentB zeroN = true := by decide
theorem kid_none {x : RN} (h : x.n = 0) (i : Nat) : x.kid i = zeroN := by
  cases x with
  | mk v t0 t1 n kid =>
    have : n = 0 := h
    subst this
    rfl
theorem lk_absent : ∀ (m : Nat) {x : RN}, absentB x = true → ∀ i, lk m x i = e0
  | 0, _, h, i => ent_absent h (Nat.mod_lt _ (by omega))
  | m + 1, x, h, i => by
    rw [lk, kid_none (absent_iff.1 h).1]
    exact lk_absent m absent_zeroN i
theorem lk_empty : ∀ (m : Nat) {x : RN}, okP m x → emptyB x = true → ∀ i, lk m x i = e0
  | 0, x, h, he, i => by
    have hv := (empty_leaf h).1 he (i % 8) (Nat.mod_lt _ (by omega))
    obtain ⟨h0, h1⟩ := h.2.2.2 (i % 8) (Nat.mod_lt _ (by omega)) hv
    rw [lk, ent, hv, h0, h1]; rfl
  | m + 1, x, h, he, i => by
    rw [lk]
    exact lk_absent m ((empty_inner h).1 he _ (Nat.mod_lt _ (by omega))) i

def okQ (m : Nat) (x : RN) : Prop := absentB x = true ∨ okP m x
theorem okA.q {m : Nat} {x : RN} (h : okA m x) : okQ m x := h.elim .inl fun h => .inr h.1
theorem okQ.leaf {x : RN} (h : okQ 0 x) : okP 0 x := by
  rcases h with h | h
  · obtain ⟨h1, h2, h3, -⟩ := absent_iff.1 h
    exact ⟨h1, by rw [h2]; exact rng_0, by rw [h3]; exact rng_0, fun i hi _ => by rw [h2, h3]; exact ⟨bitB_0 i hi, bitB_0 i hi⟩⟩
  · exact h
theorem okQ.n {m : Nat} {x : RN} (h : okQ (m + 1) x) : x.n = 0 ∨ x.n = 8 := h.elim (fun h => .inl (absent_iff.1 h).1) fun h => .inr h.1
theorem grow_v (x : RN) : (grow x).v = x.v := by unfold grow; split <;> rfl
theorem grow_t0 (x : RN) : (grow x).t0 = x.t0 := by unfold grow; split <;> rfl
theorem grow_t1 (x : RN) : (grow x).t1 = x.t1 := by unfold grow; split <;> rfl
theorem okQ.kid {m : Nat} {x : RN} (h : okQ (m + 1) x) {i : Nat} (hi : i < 8) : okA m (x.kid i) := by
  rcases h with h | h
  · rw [kid_none (absent_iff.1 h).1]; exact .inl absent_zeroN
  · exact (h.2.2.2.2 i hi).1
theorem okQ.grow {m : Nat} {x : RN} (h : okQ (m + 1) x) : okP (m + 1) (grow x) := by
  have hn := h.n
  refine ⟨grow_n hn, ?_, ?_, ?_, fun i hi => ?_⟩
  · rw [grow_t0]; rcases h with h | h
    · rw [(absent_iff.1 h).2.1]; exact rng_0
    · exact h.2.1
  · rw [grow_t1]; rcases h with h | h
    · rw [(absent_iff.1 h).2.2.1]; exact rng_0
    · exact h.2.2.1
  · rw [grow_v]; rcases h with h | h
    · exact (absent_iff.1 h).2.2.2
    · exact h.2.2.2.1
  · rw [grow_kid hn hi, grow_t0, grow_t1]
    refine ⟨h.kid hi, ?_⟩
    rcases h with h | h
    · obtain ⟨h1, h2, h3, -⟩ := absent_iff.1 h
      rw [kid_none h1, h2, h3]
      exact ⟨bitB_0 i hi, bitB_0 i hi⟩
    · exact (h.2.2.2.2 i hi).2
theorem okA_orZero {m : Nat} {y : RN} (h : okP m y) : okA m (orZero y) := by
  unfold orZero
  cases he : emptyB y
  · simp only [Bool.false_eq_true, if_false]; exact .inr ⟨h, he⟩
  · simp only [if_true]; exact .inl absent_zeroN
theorem lk_orZero {m : Nat} {y : RN} (h : okP m y) (i : Nat) : lk m (orZero y) i = lk m y i := by
  unfold orZero
  cases he : emptyB y
  · simp only [Bool.false_eq_true, if_false]
  · simp only [if_true]; rw [lk_empty m h he, lk_absent m absent_zeroN]

/-- The inner node with child d turned and its tags anew. -/
theorem okP_refresh {m : Nat} {x y : RN} {d : Nat} (h : okP (m + 1) x) (hd : d < 8) (hy : okA m y) : okP (m + 1) (refreshN (setKid x d y) d) := by
  have hn := h.1
  have hk : (setKid x d y).kid d = y := by rw [setKid_kid _ _ _ _ (by omega), if_pos rfl]
  have hkid : ∀ i, (refreshN (setKid x d y) d).kid i = (setKid x d y).kid i := fun i => by cases x; rfl
  have ht0 : (refreshN (setKid x d y) d).t0 = refT d y.t0 x.t0 := by
    have : (refreshN (setKid x d y) d).t0 = refT d ((setKid x d y).kid d).t0 (setKid x d y).t0 := by cases x; rfl
    rw [this, hk, setKid_t0]
  have ht1 : (refreshN (setKid x d y) d).t1 = refT d y.t1 x.t1 := by
    have : (refreshN (setKid x d y) d).t1 = refT d ((setKid x d y).kid d).t1 (setKid x d y).t1 := by cases x; rfl
    rw [this, hk, setKid_t1]
  have hv : (refreshN (setKid x d y) d).v = x.v := by cases x; rfl
  have hnn : (refreshN (setKid x d y) d).n = x.n := by cases x; rfl
  refine ⟨by rw [hnn]; exact hn, by rw [ht0]; exact refT_rng h.2.1 hd, by rw [ht1]; exact refT_rng h.2.2.1 hd, by rw [hv]; exact h.2.2.2.1, fun i hi => ?_⟩
  rw [hkid, setKid_kid _ _ _ _ (by omega), ht0, ht1, refT_bit h.2.1 hd hi, refT_bit h.2.2.1 hd hi]
  by_cases e : i = d
  · subst e; simp only [if_true]; exact ⟨hy, trivial, trivial⟩
  · simp only [if_neg e]; exact h.2.2.2.2 i hi
theorem lk_refresh {m : Nat} {x y : RN} {d : Nat} (hn : x.n = 8) (i : Nat) : lk (m + 1) (refreshN (setKid x d y) d) i = if i / 8 ^ (m + 1) % 8 = d then lk m y i else lk (m + 1) x i := by
  have hkid : ∀ i, (refreshN (setKid x d y) d).kid i = (setKid x d y).kid i := fun i => by cases x; rfl
  have hl : i / 8 ^ (m + 1) % 8 < 8 := Nat.mod_lt _ (by omega)
  rw [lk, lk, hkid, setKid_kid _ _ _ _ (by omega)]
  split <;> rfl

theorem dig_one (i : Nat) : (digB (i : Int) 1).toNat = i % 8 := by
  unfold digB
  simp
  omega
theorem pow2_8 (k : Nat) : (2 : Nat) ^ (3 * k) = 8 ^ k := by rw [Nat.pow_mul]
theorem dig_up (i m : Nat) : (digB (i : Int) ((m : Int) + 2)).toNat = i / 8 ^ (m + 1) % 8 := by
  unfold digB
  rw [show (3 * ((m : Int) + 2 - 1)).toNat = 3 * (m + 1) by omega]
  have e : (i : Int) / 2 ^ (3 * (m + 1)) % 8 = ((i / 8 ^ (m + 1) % 8 : Nat) : Int) := by
    rw [← pow2_8]
    push_cast
    rfl
  rw [e]; rfl
theorem grow_lk {m : Nat} {x : RN} (h : x.n = 0 ∨ x.n = 8) (i : Nat) : lk (m + 1) (grow x) i = lk (m + 1) x i := by
  rw [lk, lk, grow_kid h (Nat.mod_lt _ (by omega))]

theorem upd_ok (ch : RN → Nat → RN) (i : Nat) : ∀ (m : Nat) (x : RN), okQ m x → (∀ y, okP 0 y → lk 0 y i = lk m x i → okP 0 (ch y (i % 8))) → okP m (updN ch i m x)
  | 0, x, h, hc => by
    rw [updN, dig_one]
    exact hc x h.leaf rfl
  | m + 1, x, h, hc => by
    have hl : i / 8 ^ (m + 1) % 8 < 8 := Nat.mod_lt _ (by omega)
    simp only [updN, dig_up]
    have hk : okQ m ((grow x).kid (i / 8 ^ (m + 1) % 8)) := by rw [grow_kid h.n hl]; exact (h.kid hl).q
    refine okP_refresh h.grow hl (okA_orZero (upd_ok ch i m _ hk fun y hy e => hc y hy ?_))
    rw [e, grow_kid h.n hl]; rfl
theorem upd_lk (ch : RN → Nat → RN) (i : Nat) (e' : Ent) : ∀ (m : Nat) (x : RN), okQ m x → (∀ y, okP 0 y → lk 0 y i = lk m x i → okP 0 (ch y (i % 8)) ∧ ent (ch y (i % 8)) (i % 8) = e' ∧ ∀ j, j < 8 → j ≠ i % 8 → ent (ch y (i % 8)) j = ent y j) →
    ∀ j, lk m (updN ch i m x) j = if j % 8 ^ (m + 1) = i % 8 ^ (m + 1) then e' else lk m x j
  | 0, x, h, hc, j => by
    obtain ⟨-, h1, h2⟩ := hc x h.leaf rfl
    rw [updN, dig_one, lk, lk]
    have e : (8 : Nat) ^ (0 + 1) = 8 := rfl
    rw [e]
    split
    · rename_i hj; rw [hj]; exact h1
    · rename_i hj; exact h2 _ (Nat.mod_lt _ (by omega)) hj
  | m + 1, x, h, hc, j => by
    have hl : i / 8 ^ (m + 1) % 8 < 8 := Nat.mod_lt _ (by omega)
    have hk : okQ m ((grow x).kid (i / 8 ^ (m + 1) % 8)) := by rw [grow_kid h.n hl]; exact (h.kid hl).q
    have hx : lk m ((grow x).kid (i / 8 ^ (m + 1) % 8)) i = lk (m + 1) x i := by rw [grow_kid h.n hl]; rfl
    have hokc := upd_ok ch i m _ hk fun y hy e => (hc y hy (by rw [e, hx])).1
    have ih := upd_lk ch i e' m _ hk fun y hy e => hc y hy (by rw [e, hx])
    simp only [updN, dig_up]
    rw [lk_refresh (grow_n h.n), grow_lk h.n]
    have hp : (8 : Nat) ^ (m + 2) = 8 ^ (m + 1) * 8 := Nat.pow_succ ..
    have hsplit : ∀ a : Nat, a % 8 ^ (m + 2) = a % 8 ^ (m + 1) + 8 ^ (m + 1) * (a / 8 ^ (m + 1) % 8) := fun a => by rw [hp, Nat.mod_mul]
    by_cases hd : j / 8 ^ (m + 1) % 8 = i / 8 ^ (m + 1) % 8
    · rw [if_pos hd, lk_orZero hokc, ih j]
      have hiff : (j % 8 ^ (m + 1) = i % 8 ^ (m + 1)) ↔ (j % 8 ^ (m + 1 + 1) = i % 8 ^ (m + 1 + 1)) := by
        rw [hsplit j, hsplit i, hd]; omega
      by_cases hj : j % 8 ^ (m + 1) = i % 8 ^ (m + 1)
      · rw [if_pos hj, if_pos (hiff.1 hj)]
      · rw [if_neg hj, if_neg (fun h => hj (hiff.2 h)), grow_kid h.n hl, lk, hd]
    · have hne : ¬ j % 8 ^ (m + 1 + 1) = i % 8 ^ (m + 1 + 1) := fun hh => by
        rw [hsplit j, hsplit i] at hh
        have h1 : j % 8 ^ (m + 1) < 8 ^ (m + 1) := Nat.mod_lt _ (pow8_pos _)
        have h2 : i % 8 ^ (m + 1) < 8 ^ (m + 1) := Nat.mod_lt _ (pow8_pos _)
        have h3 : (j % 8 ^ (m + 1) + 8 ^ (m + 1) * (j / 8 ^ (m + 1) % 8)) / 8 ^ (m + 1) = j / 8 ^ (m + 1) % 8 := by rw [Nat.add_mul_div_left _ _ (pow8_pos _), Nat.div_eq_of_lt h1, Nat.zero_add]
        have h4 : (i % 8 ^ (m + 1) + 8 ^ (m + 1) * (i / 8 ^ (m + 1) % 8)) / 8 ^ (m + 1) = i / 8 ^ (m + 1) % 8 := by rw [Nat.add_mul_div_left _ _ (pow8_pos _), Nat.div_eq_of_lt h2, Nat.zero_add]
        rw [hh, h4] at h3
        exact hd h3.symm
      rw [if_neg hd, if_neg hne]

/-- A node that has an entry has one. -/
theorem okN_entry : ∀ (m : Nat) {x : RN}, okN m x → ∃ i, i < 8 ^ (m + 1) ∧ (lk m x i).1 ≠ 0
  | 0, x, h => by
    refine Classical.byContradiction fun hh => ?_
    have : emptyB x = true := (empty_leaf h.1).2 fun i hi => Classical.byContradiction fun hn => hh ⟨i, hi, by rw [lk, Nat.mod_eq_of_lt hi]; exact hn⟩
    rw [h.2] at this; cases this
  | m + 1, x, h => by
    refine Classical.byContradiction fun hh => ?_
    have : emptyB x = true := (empty_inner h.1).2 fun k hk => Classical.byContradiction fun hn => by
      rcases (h.1.2.2.2.2 k hk).1 with h1 | h1
      · exact hn h1
      · obtain ⟨r, hr, hv⟩ := okN_entry m h1
        refine hh ⟨k * 8 ^ (m + 1) + r, ?_, by rw [lk_top x hk hr]; exact hv⟩
        have hp : (8 : Nat) ^ (m + 2) = 8 ^ (m + 1) * 8 := Nat.pow_succ ..
        show _ < 8 ^ (m + 2)
        rw [hp]
        have : k * 8 ^ (m + 1) ≤ 7 * 8 ^ (m + 1) := Nat.mul_le_mul_right _ (by omega)
        omega
    rw [h.2] at this; cases this

/-- Valid nodes with the same entries are the same. -/
theorem canon : ∀ (m : Nat) (x y : RN), okA m x → okA m y → (∀ i, lk m x i = lk m y i) → sameB x y = true
  | m, x, y, hx, hy, he => by
    have habs : ∀ x y : RN, okA m x → absentB y = true → (∀ i, lk m x i = lk m y i) → absentB x = true := fun x y hx hy he => by
      rcases hx with hx | hx
      · exact hx
      · obtain ⟨i, -, hi⟩ := okN_entry m hx
        rw [he i, lk_absent m hy] at hi
        exact absurd rfl hi
    rw [sameB_eq]
    unfold sameW
    simp only [Bool.and_eq_true, beq_iff_eq]
    have hz : absentB x = true → absentB y = true → (((x.t0 = y.t0 ∧ x.t1 = y.t1) ∧ x.n = y.n) ∧ eqTo x.v y.v 8 = true) ∧ allTo (fun i => sameB (x.kid i) (y.kid i)) x.n = true := fun ha hb => by
      obtain ⟨a1, a2, a3, a4⟩ := absent_iff.1 ha
      obtain ⟨b1, b2, b3, b4⟩ := absent_iff.1 hb
      refine ⟨⟨⟨⟨by rw [a2, b2], by rw [a3, b3]⟩, by rw [a1, b1]⟩, ?_⟩, by rw [a1]; rfl⟩
      unfold eqTo
      rw [List.all_eq_true]
      intro i hi
      rw [a4 i (List.mem_range.1 hi), b4 i (List.mem_range.1 hi)]; rfl
    rcases hx with hx | hx
    · exact hz hx (habs y x hy hx fun i => (he i).symm)
    · rcases hy with hy | hy
      · exact hz (habs x y (.inr hx) hy he) hy
      · cases m with
        | zero =>
          have hv : ∀ i, i < 8 → ent x i = ent y i := fun i hi => by have := he i; rwa [lk, lk, Nat.mod_eq_of_lt hi] at this
          simp only [ent, Prod.mk.injEq] at hv
          refine ⟨⟨⟨⟨bits_eq hx.1.2.1 hy.1.2.1 fun i hi => (hv i hi).2.1, bits_eq hx.1.2.2.1 hy.1.2.2.1 fun i hi => (hv i hi).2.2⟩, by rw [hx.1.1, hy.1.1]⟩, ?_⟩, by rw [hx.1.1]; rfl⟩
          unfold eqTo
          rw [List.all_eq_true]
          intro i hi
          rw [(hv i (List.mem_range.1 hi)).1]; simp
        | succ m =>
          have hk : ∀ k, k < 8 → sameB (x.kid k) (y.kid k) = true := fun k hk => canon m _ _ (hx.1.2.2.2.2 k hk).1 (hy.1.2.2.2.2 k hk).1 fun i => by
            have h1 := he (k * 8 ^ (m + 1) + i % 8 ^ (m + 1))
            rw [lk_top x hk (Nat.mod_lt _ (pow8_pos _)), lk_top y hk (Nat.mod_lt _ (pow8_pos _))] at h1
            rw [lk_congr m (x.kid k) i (i % 8 ^ (m + 1)) (Nat.mod_mod _ _).symm, lk_congr m (y.kid k) i (i % 8 ^ (m + 1)) (Nat.mod_mod _ _).symm]
            exact h1
          have hkt : ∀ k, k < 8 → (x.kid k).t0 = (y.kid k).t0 ∧ (x.kid k).t1 = (y.kid k).t1 := fun k hk8 => by
            have := hk k hk8
            rw [sameB_eq] at this
            unfold sameW at this
            simp only [Bool.and_eq_true, beq_iff_eq] at this
            exact ⟨this.1.1.1.1, this.1.1.1.2⟩
          refine ⟨⟨⟨⟨bits_eq hx.1.2.1 hy.1.2.1 fun i hi => ?_, bits_eq hx.1.2.2.1 hy.1.2.2.1 fun i hi => ?_⟩, by rw [hx.1.1, hy.1.1]⟩, ?_⟩, by rw [hx.1.1]; exact allTo_iff.2 hk⟩
          · rw [(hx.1.2.2.2.2 i hi).2.1, (hy.1.2.2.2.2 i hi).2.1, (hkt i hi).1]
          · rw [(hx.1.2.2.2.2 i hi).2.2, (hy.1.2.2.2.2 i hi).2.2, (hkt i hi).2]
          · unfold eqTo
            rw [List.all_eq_true]
            intro i hi
            rw [hx.1.2.2.2.1 i (List.mem_range.1 hi), hy.1.2.2.2.1 i (List.mem_range.1 hi)]; rfl
end Go.Proofs.Ytcicfijpfhbcaaa
