/-
  Plain: a script of operations on a tree and on a list of entries.
-/
import Derived.Test.YtcicfijpfhbcaaaPe
namespace Go.Proofs.Ytcicfijpfhbcaaa
set_option linter.unusedSimpArgs false
set_option linter.unusedVariables false
set_option linter.unusedSectionVars false
open Go.RowKit

theorem markY_v (k : Nat) (on : Bool) (e : Ent) : (markE k on e).1 = e.1 := by unfold markE; split <;> rfl
/-- One Tag or Untag of a script. -/
theorem mark_step {h : Nat} {x : RN} (ht : okT h x) {i : Nat} (hi : i < 1073741824) (k : Nat) (hk : k < 2) (on : Bool) (h0 : (tl h x i).1 ≠ 0) :
    okT h (updN (markLeaf k on) i (h - 1) x) ∧ (∀ j, tl h (updN (markLeaf k on) i (h - 1) x) j = if j = i then markE k on (tl h x i) else tl h x j) ∧
    markP h x i k on = ((h : Int), updN (markLeaf k on) i (h - 1) x, 0) := by
  have hc := check_iff.2 ht
  have hmk : markP h x i k on = ((h : Int), updN (markLeaf k on) i (h - 1) x, 0) := by
    unfold markP
    rw [if_neg (by simp [hc]), if_neg (by omega), if_neg (by omega), if_neg (by rw [get_tl ht hi]; exact h0)]
    rfl
  rcases Nat.eq_zero_or_pos h with hz | hz
  · subst hz; exact absurd rfl h0
  · obtain ⟨m, rfl⟩ : ∃ m, h = m + 1 := ⟨h - 1, by omega⟩
    rw [show m + 1 - 1 = m by omega] at hmk ⊢
    have hq := ht.q
    have him : i < 8 ^ (m + 1) := by
      rcases Nat.lt_or_ge i (8 ^ (m + 1)) with h | h
      · exact h
      · rw [tl_succ, if_neg (by omega)] at h0; exact absurd rfl h0
    have hv : (lk m x i).1 ≠ 0 := by rw [tl_succ, if_pos him] at h0; exact h0
    obtain ⟨hP, hl⟩ := upd_mark hq i him k on hv
    have hval : ∀ j, j < 8 ^ (m + 1) → (lk m (updN (markLeaf k on) i m x) j).1 = (lk m x j).1 := fun j hj => by
      rw [hl j hj]
      split
      · rename_i h; rw [markY_v, h]
      · rfl
    have hN : okN m (updN (markLeaf k on) i m x) := ⟨hP, Bool.eq_false_iff.2 fun he => by
      have := hval i him
      rw [lk_empty m hP he] at this
      exact hv this.symm⟩
    have hbd : m + 1 ≤ 10 ∧ (m + 1 = 1 ∨ laterTo x 7 = true) := by
      rcases ht with h | h
      · omega
      · exact ⟨h.2.1, h.2.2.2⟩
    refine ⟨.inr ⟨by omega, hbd.1, by rw [show m + 1 - 1 = m by omega]; exact hN, ?_⟩, fun j => ?_, hmk⟩
    · rcases hbd.2 with h1 | h1
      · exact .inl h1
      · right
        obtain ⟨d, d1, d8, hd⟩ := later_iff.1 h1
        rcases m with _ | m
        · refine later_iff.2 ⟨d, d1, d8, ?_⟩
          have hn0 : x.n = 0 := hq.leaf.1
          rw [kid_none hn0] at hd
          rw [absent_zeroN] at hd; cases hd
        · have hk : okN m (x.kid d) := by
            rcases hq.kid (i := d) d8 with h | h
            · rw [hd] at h; cases h
            · exact h
          obtain ⟨r, hr, hr0⟩ := okN_entry m hk
          have hj : d * 8 ^ (m + 1) + r < 8 ^ (m + 1 + 1) := by
            have e8 : (8 : Nat) ^ (m + 1 + 1) = 8 * 8 ^ (m + 1) := by rw [Nat.pow_succ, Nat.mul_comm]
            have : d * 8 ^ (m + 1) ≤ 7 * 8 ^ (m + 1) := Nat.mul_le_mul_right _ (by omega)
            omega
          refine later_iff.2 ⟨d, d1, d8, ?_⟩
          cases ha : absentB ((updN (markLeaf k on) i (m + 1) x).kid d)
          · rfl
          · exfalso
            have h2 := hval _ hj
            rw [lk_top _ d8 hr, lk_top _ d8 hr, lk_absent m ha] at h2
            exact hr0 h2.symm
    · rw [tl_succ]
      by_cases hj : j < 8 ^ (m + 1)
      · rw [if_pos hj, hl j hj]
        by_cases hji : j = i
        · rw [if_pos hji, if_pos hji, tl_succ, if_pos him]
        · rw [if_neg hji, if_neg hji, tl_succ, if_pos hj]
      · rw [if_neg hj, if_neg (by omega), tl_succ, if_neg hj]
theorem mark_none {h : Nat} {x : RN} (ht : okT h x) {i : Nat} (hi : i < 1073741824) (k : Nat) (hk : k < 2) (on : Bool) (h0 : (tl h x i).1 = 0) : markP h x i k on = (0, zeroN, 6) := by
  have hc := check_iff.2 ht
  unfold markP
  rw [if_neg (by simp [hc]), if_neg (by omega), if_neg (by omega), if_pos (by rw [get_tl ht hi]; exact h0)]

/-- A tree and the list of what a script has named. -/
structure Sim (t : Nat × RN) (L : List (Nat × Ent)) : Prop where
  ok : okT t.1 t.2
  nod : (L.map fun p => p.1).Nodup
  at_ : ∀ p ∈ L, p.1 < 65536 ∧ tl t.1 t.2 p.1 = p.2
  far : ∀ j, (∀ p ∈ L, p.1 ≠ j) → tl t.1 t.2 j = e0
theorem Sim.nil : Sim (0, zeroN) [] := ⟨okT_zero, List.nodup_nil, fun p hp => absurd hp (by simp), fun j _ => rfl⟩
theorem Sim.add {t : Nat × RN} {L : List (Nat × Ent)} (h : Sim t L) {i : Nat} (hi : i < 65536) (hn : ∀ p ∈ L, p.1 ≠ i) : Sim t (L ++ [(i, e0)]) := by
  refine ⟨h.ok, ?_, fun p hp => ?_, fun j hj => h.far j fun p hp => hj p (by simp [hp])⟩
  · rw [List.map_append, List.nodup_append]
    refine ⟨h.nod, by simp, fun a ha b hb => ?_⟩
    obtain ⟨p, hp, rfl⟩ := List.mem_map.1 ha
    have : b = i := by simpa using hb
    rw [this]; exact hn p hp
  · rcases List.mem_append.1 hp with hp | hp
    · exact h.at_ p hp
    · have : p = (i, e0) := by simpa using hp
      subst this
      exact ⟨hi, h.far i hn⟩
theorem Sim.key {t : Nat × RN} {L : List (Nat × Ent)} (h : Sim t L) {k m : Nat} {p q : Nat × Ent} (hk : L[k]? = some p) (hm : L[m]? = some q) (e : p.1 = q.1) : k = m := by
  have hl : k < (L.map fun p => p.1).length := by rw [List.length_map]; exact (List.getElem?_eq_some_iff.1 hk).1
  have he : (L.map fun p => p.1)[k]? = (L.map fun p => p.1)[m]? := by rw [List.getElem?_map, List.getElem?_map, hk, hm]; exact congrArg some e
  exact (List.getElem?_inj hl h.nod).1 he
theorem Sim.set {t t' : Nat × RN} {L : List (Nat × Ent)} (h : Sim t L) {k i : Nat} {e e' : Ent} (hk : L[k]? = some (i, e)) (ok : okT t'.1 t'.2) (hl : ∀ j, tl t'.1 t'.2 j = if j = i then e' else tl t.1 t.2 j) : Sim t' (L.set k (i, e')) := by
  have hlt : k < L.length := (List.getElem?_eq_some_iff.1 hk).1
  have hget : ∀ m, (L.set k (i, e'))[m]? = if m = k then some (i, e') else L[m]? := fun m => by
    rw [List.getElem?_set]
    by_cases hm : k = m
    · subst hm; simp [hlt]
    · rw [if_neg hm, if_neg (fun e => hm e.symm)]
  have hmap : (L.set k (i, e')).map (fun p => p.1) = L.map fun p => p.1 := by
    refine List.ext_getElem? fun m => ?_
    rw [List.getElem?_map, List.getElem?_map, hget]
    by_cases hm : m = k
    · subst hm; rw [if_pos rfl, hk]; rfl
    · rw [if_neg hm]
  refine ⟨ok, by rw [hmap]; exact h.nod, fun p hp => ?_, fun j hj => ?_⟩
  · obtain ⟨m, hm⟩ := List.mem_iff_getElem?.1 hp
    rw [hget] at hm
    by_cases hmk : m = k
    · rw [if_pos hmk] at hm
      injection hm with hm
      subst hm
      exact ⟨(h.at_ _ (List.mem_of_getElem? hk)).1, by rw [hl, if_pos rfl]⟩
    · rw [if_neg hmk] at hm
      have h1 := h.at_ p (List.mem_of_getElem? hm)
      refine ⟨h1.1, ?_⟩
      rw [hl, if_neg fun e => hmk (h.key hm hk e)]
      exact h1.2
  · have hji : j ≠ i := fun e => hj (i, e') (List.mem_of_getElem? (i := k) (by rw [hget, if_pos rfl])) e.symm
    rw [hl, if_neg hji]
    refine h.far j fun p hp => ?_
    obtain ⟨m, hm⟩ := List.mem_iff_getElem?.1 hp
    by_cases hmk : m = k
    · subst hmk; rw [hk] at hm; injection hm with hm; subst hm; exact fun e => hji e.symm
    · exact hj p (List.mem_of_getElem? (i := m) (by rw [hget, if_neg hmk]; exact hm))
/-- What the second loop counts. -/
def numL (L : List (Nat × Ent)) : Nat := (L.filter fun p => p.2.1 != 0).length
theorem numL_le (L : List (Nat × Ent)) : numL L ≤ L.length := List.length_filter_le _ _
theorem num_snoc {L : List (Nat × Ent)} {k : Nat} {p : Nat × Ent} (h : L[k]? = some p) : numL (L.take (k + 1)) = numL (L.take k) + if p.2.1 = 0 then 0 else 1 := by
  unfold numL
  rw [List.take_add_one, h, List.filter_append, List.length_append]
  by_cases h0 : p.2.1 = 0
  · rw [if_pos h0]; simp [h0]
  · rw [if_neg h0]; simp [h0]
theorem Sim.count {t : Nat × RN} {L : List (Nat × Ent)} (h : Sim t L) : countP t.1 t.2 (-1) = numL L := by
  unfold countP numL
  rw [each_idxs (check_iff.2 h.ok) (by omega) (by omega), List.length_map]
  have hp : (idxs t.1 t.2 (-1)).Perm ((L.filter fun p => p.2.1 != 0).map fun p => p.1) := by
    refine (List.perm_ext_iff_of_nodup ((idxs_asc _ _ _).imp fun hlt => Nat.ne_of_lt hlt) ?_).2 fun j => ?_
    · exact List.Pairwise.sublist ((List.filter_sublist).map _) h.nod
    · rw [idxs_mem, List.mem_map]
      constructor
      · rintro ⟨-, h0, -⟩
        have hex : ¬ ∀ p ∈ L, p.1 ≠ j := fun hh => h0 (by rw [h.far j hh]; rfl)
        simp only [Classical.not_forall] at hex
        obtain ⟨p, hp, hj⟩ := hex
        have hj : p.1 = j := Classical.not_not.1 hj
        refine ⟨p, List.mem_filter.2 ⟨hp, ?_⟩, hj⟩
        have := (h.at_ p hp).2
        rw [hj] at this
        rw [this] at h0
        simpa using h0
      · rintro ⟨p, hp, rfl⟩
        obtain ⟨hp, h0⟩ := List.mem_filter.1 hp
        have := h.at_ p hp
        refine ⟨by rw [RM_val]; omega, by rw [this.2]; simpa using h0, rfl⟩
  rw [hp.length_eq, List.length_map]
/-- What the second loop compares. -/
theorem Sim.get {t : Nat × RN} {L : List (Nat × Ent)} (h : Sim t L) {p : Nat × Ent} (hp : p ∈ L) : getP t.1 t.2 p.1 = p.2.1 := by
  have := h.at_ p hp
  rw [get_tl h.ok (by omega), this.2]
theorem Sim.tag {t : Nat × RN} {L : List (Nat × Ent)} (h : Sim t L) {p : Nat × Ent} (hp : p ∈ L) : taggedP t.1 t.2 p.1 0 = p.2.2.1 ∧ taggedP t.1 t.2 p.1 1 = p.2.2.2 := by
  have hh := h.at_ p hp
  have h0 := tagged_tl h.ok (i := p.1) (by omega) (tag := 0) (by omega)
  have h1 := tagged_tl h.ok (i := p.1) (by omega) (tag := 1) (by omega)
  have hz : (tl t.1 t.2 p.1).1 = 0 → tl t.1 t.2 p.1 = e0 := tl_zero h.ok
  rw [hh.2] at h0 h1 hz
  refine ⟨h0.trans ?_, h1.trans ?_⟩
  · by_cases hv : p.2.1 = 0
    · rw [hz hv]; rfl
    · simp [hv, hasE]
  · by_cases hv : p.2.1 = 0
    · rw [hz hv]; rfl
    · simp [hv, hasE]
end Go.Proofs.Ytcicfijpfhbcaaa
