/-
  Trees: what stands at an index; the least height; Set and mark. No program.
-/
import Derived.Test.YtcicfijpfhbcaaaPm
namespace Go.Proofs.Ytcicfijpfhbcaaa
set_option linter.unusedSimpArgs false
set_option linter.unusedVariables false
set_option linter.unusedSectionVars false

def okT (h : Nat) (x : RN) : Prop := (h = 0 ∧ absentB x = true) ∨ (1 ≤ h ∧ h ≤ 10 ∧ okN (h - 1) x ∧ (h = 1 ∨ laterTo x 7 = true))
/-- The entry of a tree at an index. -/
def tl (h : Nat) (x : RN) (j : Nat) : Ent := if h = 0 then e0 else if j < 8 ^ h then lk (h - 1) x j else e0

theorem tl_succ (m : Nat) (x : RN) (j : Nat) : tl (m + 1) x j = if j < 8 ^ (m + 1) then lk m x j else e0 := by
  unfold tl
  rw [if_neg (Nat.succ_ne_zero m)]; rfl
theorem check_iff {h : Nat} {x : RN} : checkP h x = 0 ↔ okT h x := by
  unfold checkP okT
  by_cases h10 : h ≤ 10
  · rw [if_neg (by omega)]
    by_cases h0 : h = 0
    · subst h0
      rw [if_pos (by simp)]
      cases ha : absentB x <;> simp
    · obtain ⟨m, rfl⟩ : ∃ m, h = m + 1 := ⟨h - 1, by omega⟩
      rw [if_neg (by omega)]
      have e : ((m + 1 : Nat) : Int) = (m : Int) + 1 := by omega
      rw [e]
      have hv := valid_iff m x
      cases hval : validB x ((m : Int) + 1)
      · have hno : ¬ okN m x := fun hh => by rw [hv.2 hh] at hval; cases hval
        simp [hno]
      · have hok : okN m x := hv.1 hval
        simp only [if_true, Nat.add_sub_cancel]
        by_cases hm : m = 0
        · subst hm; simp [hok]
        · have e1 : ¬ ((m : Int) + 1 = 1) := by omega
          cases hlt : laterTo x 7 <;> simp [e1, hm, hok] <;> omega
  · rw [if_pos (by omega)]
    constructor
    · intro h; omega
    · rintro (h | h) <;> omega
theorem check_neg {ht : Int} {x : RN} (h : checkP ht x = 0) : 0 ≤ ht ∧ ht ≤ 10 := by
  unfold checkP at h
  split at h <;> omega

theorem later_iff {x : RN} : laterTo x 7 = true ↔ ∃ k, 1 ≤ k ∧ k < 8 ∧ absentB (x.kid k) = false := by
  unfold laterTo
  rw [any_iff]
  constructor
  · rintro ⟨i, hi, h⟩; exact ⟨i + 1, by omega, by omega, by simpa using h⟩
  · rintro ⟨k, h1, h2, h3⟩; exact ⟨k - 1, by omega, by rw [Nat.sub_add_cancel h1, h3]; rfl⟩

/-! Slim, oct, tall. -/
theorem slim_of_ok : ∀ (m : Nat) (x : RN), okQ m x → slimB x
  | m, x, h => by
    cases x with
    | mk v t0 t1 n kid =>
      rw [slimB]
      cases m with
      | zero =>
        have hn : n = 0 := h.leaf.1
        exact ⟨by omega, fun i hi => absurd hi (by omega)⟩
      | succ m =>
        have hn : n = 0 ∨ n = 8 := h.n
        refine ⟨by omega, fun i hi => ?_⟩
        have := slim_of_ok m _ (h.kid (i := i) (by omega)).q
        rwa [RN.kid_mk _ _ _ _ _ _ hi] at this
theorem oct_of_ok : ∀ (m : Nat) (x : RN), okQ m x → octB m x
  | 0, _, _ => trivial
  | m + 1, x, h => ⟨h.n, fun i hi => oct_of_ok m _ (h.kid hi).q⟩
theorem kid0_ok {m : Nat} {x : RN} (h : okN (m + 1) x) (hl : laterTo x 7 = false) : okN m (x.kid 0) := by
  rcases (h.1.2.2.2.2 0 (by omega)).1 with h1 | h1
  · exfalso
    have : emptyB x = true := (empty_inner h.1).2 fun k hk => by
      by_cases h0 : k = 0
      · rw [h0]; exact h1
      · cases ha : absentB (x.kid k)
        · rw [later_iff.2 ⟨k, by omega, hk, ha⟩] at hl; cases hl
        · rfl
    rw [h.2] at this; cases this
  · exact h1
theorem tall_of_ok : ∀ (m : Nat) (x : RN), okN m x → tallB (m + 1) x
  | 0, _, _ => trivial
  | m + 1, x, h => ⟨h.1.1, fun hl => tall_of_ok m _ (kid0_ok h hl)⟩

/-! The least height. -/
theorem lk_low {m : Nat} {x : RN} (h : okN (m + 1) x) (hl : laterTo x 7 = false) {j : Nat} (hj : j < 8 ^ (m + 2)) : lk (m + 1) x j = if j < 8 ^ (m + 1) then lk m (x.kid 0) j else e0 := by
  have hp : (8 : Nat) ^ (m + 2) = 8 ^ (m + 1) * 8 := Nat.pow_succ ..
  have hlt : j / 8 ^ (m + 1) < 8 := Nat.div_lt_of_lt_mul (by rw [← hp]; exact hj)
  rw [lk, Nat.mod_eq_of_lt hlt]
  split
  · rename_i h1; rw [Nat.div_eq_of_lt h1]
  · rename_i h1
    have h2 : 1 ≤ j / 8 ^ (m + 1) := (Nat.one_le_div_iff (pow8_pos _)).2 (by omega)
    refine lk_absent m ?_ j
    cases ha : absentB (x.kid (j / 8 ^ (m + 1)))
    · rw [later_iff.2 ⟨_, h2, hlt, ha⟩] at hl; cases hl
    · rfl
theorem pow8_mono {a b : Nat} (h : a ≤ b) : (8 : Nat) ^ a ≤ 8 ^ b := Nat.pow_le_pow_right (by omega) h
theorem shrinkL_ok : ∀ (m : Nat) (x : RN), m ≤ 9 → okN m x → okT (shrinkL (m + 1) x).1 (shrinkL (m + 1) x).2 ∧ ∀ j, tl (shrinkL (m + 1) x).1 (shrinkL (m + 1) x).2 j = tl (m + 1) x j
  | 0, x, _, h => ⟨.inr ⟨Nat.le_refl _, by show 1 ≤ 10; omega, h, .inl rfl⟩, fun _ => rfl⟩
  | m + 1, x, hm, h => by
    cases hl : laterTo x 7
    · have e : shrinkL (m + 2) x = shrinkL (m + 1) (x.kid 0) := by rw [shrinkL, if_neg (by rw [hl]; decide)]
      have ih := shrinkL_ok m _ (by omega) (kid0_ok h hl)
      rw [show m + 1 + 1 = m + 2 from rfl, e]
      refine ⟨ih.1, fun j => ?_⟩
      rw [ih.2 j, show m + 2 = m + 1 + 1 from rfl, tl_succ, tl_succ]
      have hmono := pow8_mono (a := m + 1) (b := m + 1 + 1) (by omega)
      by_cases hj : j < 8 ^ (m + 1 + 1)
      · rw [if_pos hj, lk_low h hl hj]
      · rw [if_neg hj, if_neg (by omega)]
    · have e : shrinkL (m + 2) x = (m + 2, x) := by rw [shrinkL, if_pos hl]
      rw [show m + 1 + 1 = m + 2 from rfl, e]
      exact ⟨.inr ⟨by show 1 ≤ m + 2; omega, by show m + 2 ≤ 10; omega, h, .inr hl⟩, fun _ => rfl⟩
theorem shrinkP_ok {m : Nat} {x : RN} (hm : m ≤ 9) (h : okP m x) : okT (shrinkP (m + 1) x).1 (shrinkP (m + 1) x).2 ∧ ∀ j, tl (shrinkP (m + 1) x).1 (shrinkP (m + 1) x).2 j = tl (m + 1) x j := by
  unfold shrinkP
  cases he : emptyB x
  · simp only [Bool.false_eq_true, if_false]
    exact shrinkL_ok m x hm ⟨h, he⟩
  · simp only [if_true]
    refine ⟨.inl ⟨rfl, absent_zeroN⟩, fun j => ?_⟩
    unfold tl
    rw [if_pos rfl, if_neg (by omega)]
    split
    · exact (lk_empty m h he j).symm
    · rfl

/-! Raising. -/
theorem upX_ok {m : Nat} {x : RN} (h : okA m x) : okP (m + 1) (upN x) ∧ ∀ j, j < 8 ^ (m + 2) → lk (m + 1) (upN x) j = if j < 8 ^ (m + 1) then lk m x j else e0 := by
  have hz : okP (m + 1) (.mk (fun _ => 0) 0 0 8 (fun _ => zeroN)) := by
    refine ⟨rfl, rng_0, rng_0, fun _ _ => rfl, fun i hi => ?_⟩
    rw [RN.kid_mk _ _ _ _ _ _ hi]
    exact ⟨.inl absent_zeroN, bitB_0 i hi, bitB_0 i hi⟩
  have e : upN x = refreshN (setKid (.mk (fun _ => 0) 0 0 8 (fun _ => zeroN)) 0 x) 0 := rfl
  rw [e]
  refine ⟨okP_refresh hz (by omega) h, fun j hj => ?_⟩
  rw [lk_refresh rfl]
  have hp : (8 : Nat) ^ (m + 2) = 8 ^ (m + 1) * 8 := Nat.pow_succ ..
  have hlt : j / 8 ^ (m + 1) < 8 := Nat.div_lt_of_lt_mul (by rw [← hp]; exact hj)
  rw [Nat.mod_eq_of_lt hlt]
  by_cases hj1 : j < 8 ^ (m + 1)
  · rw [if_pos (Nat.div_eq_of_lt hj1), if_pos hj1]
  · have h2 : 1 ≤ j / 8 ^ (m + 1) := (Nat.one_le_div_iff (pow8_pos _)).2 (by omega)
    rw [if_neg (by omega), if_neg hj1, lk, RN.kid_mk _ _ _ _ _ _ (Nat.mod_lt _ (by omega))]
    exact lk_absent m absent_zeroN j
theorem up_nonempty {m : Nat} {x : RN} (h : okN m x) : okN (m + 1) (upN x) := by
  have hu := upX_ok (.inr h : okA m x)
  refine ⟨hu.1, ?_⟩
  cases he : emptyB (upN x)
  · rfl
  · exfalso
    obtain ⟨i, hi, hv⟩ := okN_entry m h
    have h1 := hu.2 i (Nat.lt_of_lt_of_le hi (pow8_mono (by omega)))
    rw [if_pos hi, lk_empty _ hu.1 he] at h1
    rw [← h1] at hv
    exact hv rfl
theorem cond_iff (i h : Nat) : (h = 0 ∨ 0 < (i : Int) / 2 ^ (3 * h)) ↔ (h = 0 ∨ 8 ^ h ≤ i) := by
  refine or_congr Iff.rfl ?_
  have e : (i : Int) / 2 ^ (3 * h) = ((i / 8 ^ h : Nat) : Int) := by
    rw [← pow2_8]; push_cast; rfl
  rw [e]
  have := Nat.one_le_div_iff (a := i) (b := 8 ^ h) (pow8_pos h)
  omega
theorem lt_8_10 {i : Nat} (hi : i < 1073741824) : i < 8 ^ 10 := by
  have h8 : (8 : Nat) ^ 10 = 1073741824 := by decide
  omega
/-- The tree is raised above the index; its entries stand. -/
theorem raise_ok (i : Nat) (hi : i < 1073741824) : ∀ (f h : Nat) (x : RN), f + h = 10 → okN (h - 1) x → 1 ≤ h →
    1 ≤ (raiseL false i f h x).1 ∧ (raiseL false i f h x).1 ≤ 10 ∧ i < 8 ^ (raiseL false i f h x).1 ∧ okN ((raiseL false i f h x).1 - 1) (raiseL false i f h x).2 ∧ ∀ j, tl (raiseL false i f h x).1 (raiseL false i f h x).2 j = tl h x j
  | 0, h, x, hf, hok, h1 => by
    obtain rfl : h = 10 := by omega
    exact ⟨by show 1 ≤ 10; omega, Nat.le_refl _, lt_8_10 hi, hok, fun _ => rfl⟩
  | f + 1, h, x, hf, hok, h1 => by
    rw [raiseL]
    by_cases hc : h = 0 ∨ 0 < (i : Int) / 2 ^ (3 * h)
    · rw [if_pos hc, if_neg (by decide)]
      obtain ⟨m, rfl⟩ : ∃ m, h = m + 1 := ⟨h - 1, by omega⟩
      have hok' : okN m x := hok
      have ih := raise_ok i hi f (m + 1 + 1) (upN x) (by omega) (up_nonempty hok') (by omega)
      refine ⟨ih.1, ih.2.1, ih.2.2.1, ih.2.2.2.1, fun j => ?_⟩
      rw [ih.2.2.2.2 j]
      have hu := upX_ok (.inr hok' : okA m x)
      rw [tl_succ, tl_succ]
      have hmono := pow8_mono (a := m + 1) (b := m + 1 + 1) (by omega)
      by_cases hj : j < 8 ^ (m + 1 + 1)
      · rw [if_pos hj, hu.2 j hj]
      · rw [if_neg hj, if_neg (by omega)]
    · rw [if_neg hc]
      rw [cond_iff] at hc
      exact ⟨h1, by show h ≤ 10; omega, by show i < 8 ^ h; omega, hok, fun _ => rfl⟩
/-- An empty tree is raised as it is. -/
theorem raise_blank (i : Nat) (hi : i < 1073741824) (x : RN) : ∀ (f h : Nat), f + h = 10 → 
    ((1 ≤ h ∨ 0 < f) → 1 ≤ (raiseL true i f h x).1) ∧ (raiseL true i f h x).1 ≤ 10 ∧ i < 8 ^ (raiseL true i f h x).1 ∧ (raiseL true i f h x).2 = x
  | 0, h, hf => by
    obtain rfl : h = 10 := by omega
    exact ⟨fun _ => by show 1 ≤ 10; omega, Nat.le_refl _, lt_8_10 hi, rfl⟩
  | f + 1, h, hf => by
    rw [raiseL]
    by_cases hc : h = 0 ∨ 0 < (i : Int) / 2 ^ (3 * h)
    · rw [if_pos hc, if_pos rfl]
      have ih := raise_blank i hi x f (h + 1) (by omega)
      exact ⟨fun _ => ih.1 (.inl (by omega)), ih.2⟩
    · rw [if_neg hc]
      rw [cond_iff] at hc
      exact ⟨fun _ => by show 1 ≤ h; omega, by show h ≤ 10; omega, by show i < 8 ^ h; omega, rfl⟩
theorem raised_ok {h : Nat} {x : RN} (ht : okT h x) (i : Nat) (hi : i < 1073741824) :
    1 ≤ (raised h x i).1 ∧ (raised h x i).1 ≤ 10 ∧ i < 8 ^ (raised h x i).1 ∧ okQ ((raised h x i).1 - 1) (raised h x i).2 ∧ ∀ j, tl (raised h x i).1 (raised h x i).2 j = tl h x j := by
  unfold raised
  rcases ht with ⟨rfl, ha⟩ | ⟨h1, h10, hok, -⟩
  · have := raise_blank i hi x 10 0 rfl
    obtain ⟨r1, r2, r3, r4⟩ := this
    refine ⟨r1 (.inr (by omega)), r2, r3, .inl (by show absentB (raiseL true i 10 0 x).2 = true; rw [r4]; exact ha), fun j => ?_⟩
    show tl (raiseL true i 10 0 x).1 (raiseL true i 10 0 x).2 j = _
    rw [r4]
    have hp : 1 ≤ (raiseL true (i : Int) 10 0 x).1 := r1 (.inr (by omega))
    unfold tl
    rw [if_neg (by omega), if_pos rfl]
    split
    · exact lk_absent _ ha j
    · rfl
  · have e : (h == 0) = false := by simp; omega
    rw [e]
    have := raise_ok i hi (10 - h) h x (by omega) hok h1
    exact ⟨this.1, this.2.1, this.2.2.1, .inr this.2.2.2.1.1, this.2.2.2.2⟩

/-! The two changes. -/
theorem setLeaf_ok (v : Int) {y : RN} (h : okP 0 y) {d : Nat} (hd : d < 8) :
    okP 0 (setLeaf v y d) ∧ ent (setLeaf v y d) d = (if v = 0 then e0 else (v, (ent y d).2)) ∧ ∀ j, j < 8 → j ≠ d → ent (setLeaf v y d) j = ent y j := by
  cases y with
  | mk vs t0 t1 n kid =>
    obtain ⟨hn, h0, h1, hb⟩ := h
    have h0' : rng t0 := h0
    have h1' : rng t1 := h1
    have hb' : ∀ i, i < 8 → vs i = 0 → bitB t0 i = false ∧ bitB t1 i = false := hb
    unfold setLeaf
    by_cases hv : v = 0
    · simp only [if_pos hv]
      refine ⟨⟨hn, clr_rng h0' hd, clr_rng h1' hd, fun i hi hi0 => ?_⟩, ?_, fun j hj hne => ?_⟩
      · show bitB (clr t0 d) i = false ∧ bitB (clr t1 d) i = false
        rw [clr_bit h0' hd hi, clr_bit h1' hd hi]
        by_cases e : i = d
        · simp [e]
        · have : updV vs d v i = 0 := hi0
          rw [updV, if_neg e] at this
          obtain ⟨a, b⟩ := hb' i hi this
          simp [a, b]
      · show (updV vs d v d, bitB (clr t0 d) d, bitB (clr t1 d) d) = e0
        rw [clr_bit h0' hd hd, clr_bit h1' hd hd, updV, if_pos rfl, hv]
        simp [e0]
      · show (updV vs d v j, bitB (clr t0 d) j, bitB (clr t1 d) j) = (vs j, bitB t0 j, bitB t1 j)
        rw [clr_bit h0' hd hj, clr_bit h1' hd hj, updV, if_neg hne]
        simp [hne]
    · simp only [if_neg hv]
      refine ⟨⟨hn, h0', h1', fun i hi hi0 => ?_⟩, ?_, fun j hj hne => ?_⟩
      · show bitB t0 i = false ∧ bitB t1 i = false
        have hu : updV vs d v i = 0 := hi0
        rw [updV] at hu
        by_cases e : i = d
        · rw [if_pos e] at hu; exact absurd hu hv
        · rw [if_neg e] at hu; exact hb' i hi hu
      · show (updV vs d v d, bitB t0 d, bitB t1 d) = (v, bitB t0 d, bitB t1 d)
        rw [updV, if_pos rfl]
      · show (updV vs d v j, bitB t0 j, bitB t1 j) = (vs j, bitB t0 j, bitB t1 j)
        rw [updV, if_neg hne]
theorem markT_rng {on : Bool} {t : Int} (h : rng t) {d : Nat} (hd : d < 8) : rng (markT on t d) := by
  unfold markT
  cases on
  · exact clr_rng h hd
  · exact put_rng (clr_rng h hd) hd
theorem markT_bit {on : Bool} {t : Int} (h : rng t) {d i : Nat} (hd : d < 8) (hi : i < 8) : bitB (markT on t d) i = if i = d then on else bitB t i := by
  unfold markT
  cases on
  · simp only [Bool.false_eq_true, if_false]
    rw [clr_bit h hd hi]
    by_cases e : i = d <;> simp [e]
  · simp only [if_true]
    rw [put_bit (clr_rng h hd) hd hi, clr_bit h hd hi]
    by_cases e : i = d <;> simp [e]
def markE (tag : Nat) (on : Bool) (e : Ent) : Ent := if tag = 0 then (e.1, on, e.2.2) else (e.1, e.2.1, on)
theorem markLeaf_ok (tag : Nat) (on : Bool) {y : RN} (h : okP 0 y) {d : Nat} (hd : d < 8) (hv : y.v d ≠ 0) :
    okP 0 (markLeaf tag on y d) ∧ ent (markLeaf tag on y d) d = markE tag on (ent y d) ∧ ∀ j, j < 8 → j ≠ d → ent (markLeaf tag on y d) j = ent y j := by
  cases y with
  | mk vs t0 t1 n kid =>
    obtain ⟨hn, h0, h1, hb⟩ := h
    have h0' : rng t0 := h0
    have h1' : rng t1 := h1
    have hb' : ∀ i, i < 8 → vs i = 0 → bitB t0 i = false ∧ bitB t1 i = false := hb
    have hv' : vs d ≠ 0 := hv
    unfold markLeaf markE
    by_cases ht : tag = 0
    · simp only [if_pos ht]
      refine ⟨⟨hn, markT_rng h0' hd, h1', fun i hi hi0 => ?_⟩, ?_, fun j hj hne => ?_⟩
      · show bitB (markT on t0 d) i = false ∧ bitB t1 i = false
        have hi0' : vs i = 0 := hi0
        rw [markT_bit h0' hd hi, if_neg (fun e => hv' (by rw [← e]; exact hi0'))]
        exact hb' i hi hi0'
      · show (vs d, bitB (markT on t0 d) d, bitB t1 d) = (vs d, on, bitB t1 d)
        rw [markT_bit h0' hd hd, if_pos rfl]
      · show (vs j, bitB (markT on t0 d) j, bitB t1 j) = (vs j, bitB t0 j, bitB t1 j)
        rw [markT_bit h0' hd hj, if_neg hne]
    · simp only [if_neg ht]
      refine ⟨⟨hn, h0', markT_rng h1' hd, fun i hi hi0 => ?_⟩, ?_, fun j hj hne => ?_⟩
      · show bitB t0 i = false ∧ bitB (markT on t1 d) i = false
        have hi0' : vs i = 0 := hi0
        rw [markT_bit h1' hd hi, if_neg (fun e => hv' (by rw [← e]; exact hi0'))]
        exact hb' i hi hi0'
      · show (vs d, bitB t0 d, bitB (markT on t1 d) d) = (vs d, bitB t0 d, on)
        rw [markT_bit h1' hd hd, if_pos rfl]
      · show (vs j, bitB t0 j, bitB (markT on t1 d) j) = (vs j, bitB t0 j, bitB t1 j)
        rw [markT_bit h1' hd hj, if_neg hne]

/-! Set and mark on whole trees. -/
/-- The entry that Set leaves. -/
def setE (v : Int) (e : Ent) : Ent := if v = 0 then e0 else (v, e.2)
theorem upd_set {m : Nat} {x : RN} (hq : okQ m x) (i : Nat) (hi : i < 8 ^ (m + 1)) (v : Int) :
    okP m (updN (setLeaf v) i m x) ∧ ∀ j, j < 8 ^ (m + 1) → lk m (updN (setLeaf v) i m x) j = if j = i then setE v (lk m x i) else lk m x j := by
  have hd : i % 8 < 8 := Nat.mod_lt _ (by omega)
  refine ⟨upd_ok _ i m x hq fun y hy _ => (setLeaf_ok v hy hd).1, fun j hj => ?_⟩
  rw [upd_lk (setLeaf v) i (setE v (lk m x i)) m x hq (fun y hy e => ⟨(setLeaf_ok v hy hd).1, by rw [(setLeaf_ok v hy hd).2.1, ← e]; rfl, (setLeaf_ok v hy hd).2.2⟩) j, Nat.mod_eq_of_lt hj, Nat.mod_eq_of_lt hi]
theorem upd_mark {m : Nat} {x : RN} (hq : okQ m x) (i : Nat) (hi : i < 8 ^ (m + 1)) (tag : Nat) (on : Bool) (hv : (lk m x i).1 ≠ 0) :
    okP m (updN (markLeaf tag on) i m x) ∧ ∀ j, j < 8 ^ (m + 1) → lk m (updN (markLeaf tag on) i m x) j = if j = i then markE tag on (lk m x i) else lk m x j := by
  have hd : i % 8 < 8 := Nat.mod_lt _ (by omega)
  have hl : ∀ y, okP 0 y → lk 0 y i = lk m x i → y.v (i % 8) ≠ 0 := fun y _ e => by rw [← e] at hv; exact hv
  refine ⟨upd_ok _ i m x hq fun y hy e => (markLeaf_ok tag on hy hd (hl y hy e)).1, fun j hj => ?_⟩
  rw [upd_lk (markLeaf tag on) i (markE tag on (lk m x i)) m x hq (fun y hy e => ⟨(markLeaf_ok tag on hy hd (hl y hy e)).1, by rw [(markLeaf_ok tag on hy hd (hl y hy e)).2.1, ← e]; rfl, (markLeaf_ok tag on hy hd (hl y hy e)).2.2⟩) j, Nat.mod_eq_of_lt hj, Nat.mod_eq_of_lt hi]

theorem setT_ok {h : Nat} {x : RN} (ht : okT h x) (i : Nat) (hi : i < 1073741824) (v : Int) :
    okP ((raised h x i).1 - 1) (setT h x i v) ∧ ∀ j, tl (raised h x i).1 (setT h x i v) j = if j = i then setE v (tl h x i) else tl h x j := by
  obtain ⟨h1, h10, hlt, hq, htl⟩ := raised_ok ht i hi
  unfold setT
  generalize raised h x i = p at h1 h10 hlt hq htl ⊢
  obtain ⟨p1, p2⟩ := p
  have h1' : 1 ≤ p1 := h1
  obtain ⟨m, rfl⟩ : ∃ m, p1 = m + 1 := ⟨p1 - 1, by omega⟩
  have hlt' : i < 8 ^ (m + 1) := hlt
  have hq' : okQ m p2 := hq
  have htl' : ∀ j, tl (m + 1) p2 j = tl h x j := htl
  have hu := upd_set hq' i hlt' v
  refine ⟨hu.1, fun j => ?_⟩
  rw [← htl' i, ← htl' j]
  show tl (m + 1) (updN (setLeaf v) i m p2) j = _
  rw [tl_succ, tl_succ, tl_succ, if_pos hlt']
  by_cases hj : j < 8 ^ (m + 1)
  · rw [if_pos hj, if_pos hj]; exact hu.2 j hj
  · rw [if_neg hj, if_neg hj, if_neg (by omega)]
theorem setN_ok {h : Nat} {x : RN} (ht : okT h x) (i : Nat) (hi : i < 1073741824) (v : Int) :
    okT (setN h x i v).1 (setN h x i v).2 ∧ ∀ j, tl (setN h x i v).1 (setN h x i v).2 j = if j = i then setE v (tl h x i) else tl h x j := by
  have hs := setT_ok ht i hi v
  have hr := raised_ok ht i hi
  unfold setN
  obtain ⟨m, hm⟩ : ∃ m, (raised h x i).1 = m + 1 := ⟨(raised h x i).1 - 1, by have := hr.1; omega⟩
  have h10 := hr.2.1
  rw [hm] at hs h10 ⊢
  have hp := shrinkP_ok (m := m) (by omega) hs.1
  exact ⟨hp.1, fun j => (hp.2 j).trans (hs.2 j)⟩

/-- Two valid trees with the same entries are the same. -/
theorem tree_canon {h h' : Nat} {x x' : RN} (ht : okT h x) (ht' : okT h' x') (he : ∀ j, tl h x j = tl h' x' j) : h = h' ∧ sameB x x' = true := by
  have hentry : ∀ {h : Nat} {x : RN}, okT h x → 1 ≤ h → ∃ j, j < 8 ^ h ∧ (h = 1 ∨ 8 ^ (h - 1) ≤ j) ∧ (tl h x j).1 ≠ 0 := fun {h x} ht h1 => by
    rcases ht with ⟨h0, -⟩ | ⟨-, -, hok, hl⟩
    · omega
    · obtain ⟨m, rfl⟩ : ∃ m, h = m + 1 := ⟨h - 1, by omega⟩
      have hok' : okN m x := hok
      by_cases hm : m = 0
      · subst hm
        obtain ⟨i, hi, hv⟩ := okN_entry 0 hok'
        refine ⟨i, hi, .inl rfl, ?_⟩
        unfold tl
        rw [if_neg (by omega), if_pos hi]; exact hv
      · obtain ⟨k, rfl⟩ : ∃ k, m = k + 1 := ⟨m - 1, by omega⟩
        obtain ⟨d, d1, d8, hd⟩ := later_iff.1 (hl.resolve_left (by omega))
        have hk : okN k (x.kid d) := by
          rcases (hok'.1.2.2.2.2 d d8).1 with h1 | h1
          · rw [hd] at h1; cases h1
          · exact h1
        obtain ⟨r, hr, hv⟩ := okN_entry k hk
        have hp : (8 : Nat) ^ (k + 2) = 8 ^ (k + 1) * 8 := Nat.pow_succ ..
        have hle : d * 8 ^ (k + 1) ≤ 7 * 8 ^ (k + 1) := Nat.mul_le_mul_right _ (by omega)
        have hge : 1 * 8 ^ (k + 1) ≤ d * 8 ^ (k + 1) := Nat.mul_le_mul_right _ d1
        have hlt : d * 8 ^ (k + 1) + r < 8 ^ (k + 2) := by omega
        refine ⟨d * 8 ^ (k + 1) + r, hlt, .inr (by show 8 ^ (k + 1) ≤ _; omega), ?_⟩
        unfold tl
        rw [if_neg (by omega), if_pos hlt]
        show (lk (k + 1) x _).1 ≠ 0
        rw [lk_top x d8 hr]; exact hv
  have hbound : ∀ {h : Nat} {x : RN} {j : Nat}, (tl h x j).1 ≠ 0 → 1 ≤ h ∧ j < 8 ^ h := fun {h x j} hv => by
    unfold tl at hv
    split at hv
    · exact absurd rfl hv
    · split at hv
      · exact ⟨by omega, by assumption⟩
      · exact absurd rfl hv
  have hle : ∀ {h h' : Nat} {x x' : RN}, okT h x → (∀ j, tl h x j = tl h' x' j) → h ≤ h' := fun {h h' x x'} ht he => by
    rcases Nat.eq_zero_or_pos h with h0 | h0
    · omega
    · obtain ⟨j, hj, hb, hv⟩ := hentry ht h0
      rw [he j] at hv
      obtain ⟨b1, b2⟩ := hbound hv
      rcases hb with hb | hb
      · omega
      · rcases Nat.lt_or_ge h' h with hc | hc
        · have := pow8_mono (a := h') (b := h - 1) (by omega)
          omega
        · exact hc
  have hh : h = h' := Nat.le_antisymm (hle ht he) (hle ht' fun j => (he j).symm)
  subst hh
  refine ⟨rfl, ?_⟩
  rcases Nat.eq_zero_or_pos h with h0 | h0
  · subst h0
    have ha : absentB x = true := by rcases ht with h | h; exact h.2; omega
    have hb : absentB x' = true := by rcases ht' with h | h; exact h.2; omega
    exact canon 0 x x' (.inl ha) (.inl hb) fun i => by rw [lk_absent 0 ha, lk_absent 0 hb]
  · obtain ⟨m, rfl⟩ : ∃ m, h = m + 1 := ⟨h - 1, by omega⟩
    have ha : okN m x := by rcases ht with h | h; omega; exact h.2.2.1
    have hb : okN m x' := by rcases ht' with h | h; omega; exact h.2.2.1
    refine canon m x x' (.inr ha) (.inr hb) fun i => ?_
    have h1 := he (i % 8 ^ (m + 1))
    rw [tl_succ, tl_succ, if_pos (Nat.mod_lt _ (pow8_pos _)), if_pos (Nat.mod_lt _ (pow8_pos _))] at h1
    rw [lk_congr m x i (i % 8 ^ (m + 1)) (Nat.mod_mod _ _).symm, lk_congr m x' i (i % 8 ^ (m + 1)) (Nat.mod_mod _ _).symm]
    exact h1
end Go.Proofs.Ytcicfijpfhbcaaa
