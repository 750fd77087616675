/-
  The entries of a tree as a list over all indices: what Next, Count and Tagged answer in these terms. No program.
-/
import Derived.Test.YtcicfijpfhbcaaaPo
import Derived.Test.YtcicfijpfhbcaaaNx
namespace Go.Proofs.Ytcicfijpfhbcaaa
set_option linter.unusedSimpArgs false
set_option linter.unusedVariables false
set_option linter.unusedSectionVars false

theorem range_mul {α : Type} (b : Nat) (f : Nat → List α) : ∀ a : Nat, (List.range (a * b)).flatMap f = (List.range a).flatMap fun d => (List.range b).flatMap fun r => f (d * b + r)
  | 0 => by rw [Nat.zero_mul]; rfl
  | a + 1 => by
    rw [Nat.succ_mul, List.range_add, List.flatMap_append, range_mul b f a, List.range_succ, List.flatMap_append]
    congr 1
    rw [List.flatMap_map]
    simp only [List.flatMap_cons, List.flatMap_nil, List.append_nil]

theorem flatMap_congr' {α β : Type} {l : List α} {f g : α → List β} (h : ∀ a ∈ l, f a = g a) : l.flatMap f = l.flatMap g := by
  induction l with
  | nil => rfl
  | cons a l ih => rw [List.flatMap_cons, List.flatMap_cons, h a (List.mem_cons_self ..), ih fun b hb => h b (List.mem_cons_of_mem _ hb)]

/-- The tags of an entry as a number. -/
def tgE (e : Ent) : Int := (if e.2.1 then 1 else 0) + (if e.2.2 then 1 else 0) * 2
def rowE (first : Int) (e : Ent) (j : Nat) : List (Int × Int) := if e.1 = 0 then [] else [(first + j, tgE e)]
theorem rowE_e0 (first : Int) (j : Nat) : rowE first e0 j = [] := by rw [rowE, if_pos (show e0.1 = 0 from rfl)]
theorem ents_all : ∀ (m : Nat) (x : RN) (first : Int), ents m x first = (List.range (8 ^ (m + 1))).flatMap fun j => rowE first (lk m x j) j
  | 0, x, first => by
    show (List.range 8).flatMap (entL x first) = (List.range 8).flatMap _
    refine flatMap_congr' fun j hj => ?_
    have hj8 : j % 8 = j := Nat.mod_eq_of_lt (List.mem_range.1 hj)
    show (if x.v j = 0 then [] else _) = rowE first (ent x (j % 8)) j
    rw [hj8]; rfl
  | m + 1, x, first => by
    rw [show (8 : Nat) ^ (m + 1 + 1) = 8 * 8 ^ (m + 1) by rw [Nat.pow_succ, Nat.mul_comm], range_mul]
    show (List.range 8).flatMap _ = _
    refine flatMap_congr' fun d hd => ?_
    have hd8 := List.mem_range.1 hd
    have e : ∀ r ∈ List.range (8 ^ (m + 1)), rowE first (lk (m + 1) x (d * 8 ^ (m + 1) + r)) (d * 8 ^ (m + 1) + r) = rowE (first + ((d : Int) * 8 ^ (m + 1))) (lk m (x.kid d) r) r := fun r hr => by
      rw [lk_top x hd8 (List.mem_range.1 hr)]
      unfold rowE
      split
      · rfl
      · congr 2; push_cast; omega
    rw [flatMap_congr' e]
    by_cases ha : absentB (x.kid d) = true
    · rw [if_pos ha]
      have e2 : ∀ r ∈ List.range (8 ^ (m + 1)), rowE (first + ((d : Int) * 8 ^ (m + 1))) (lk m (x.kid d) r) r = [] := fun r _ => by rw [lk_absent m ha, rowE_e0]
      rw [flatMap_congr' e2]; simp
    · rw [if_neg ha]
      exact ents_all m _ _

/-- All indices that a tree may have. -/
def RM : Nat := 8 ^ 10
theorem RM_val : RM = 1073741824 := by decide
/-- An entry that is asked for: it exists, and has the tag if one is asked for. -/
def hasE (tag : Int) (e : Ent) : Bool := if tag < 0 then true else if tag = 0 then e.2.1 else e.2.2
def takeB (tag : Int) (e : Ent) : Bool := !decide (e.1 = 0) && hasE tag e
/-- The indices of the entries of a tree, in ascending order. -/
def idxs (h : Nat) (x : RN) (tag : Int) : List Nat := (List.range RM).filter fun j => takeB tag (tl h x j)

theorem bits_tab : ∀ a b : Bool, (bits .and .i64 ((if a then 1 else 0) + (if b then 1 else 0) * 2) 1 == 0) = !a ∧ (bits .and .i64 (((if a then 1 else 0) + (if b then 1 else 0) * 2) / 2) 1 == 0) = !b := by decide +kernel
theorem selB_has {tag : Int} (t0 : -1 ≤ tag) (t1 : tag ≤ 1) (i : Int) (e : Ent) : selB tag (i, tgE e) = hasE tag e := by
  have ht : tag = -1 ∨ tag = 0 ∨ tag = 1 := by omega
  have hb := bits_tab e.2.1 e.2.2
  rcases ht with rfl | rfl | rfl
  · simp [selB, hasE]
  · have h := hb.1
    unfold selB hasE tgE
    simp only [Int.toNat_zero, Int.pow_zero, Int.ediv_one, h]
    simp
  · have h := hb.2
    unfold selB hasE tgE
    have e1 : (2 : Int) ^ (1 : Int).toNat = 2 := rfl
    simp only [e1, h]
    simp
theorem sel_flat {tag : Int} (t0 : -1 ≤ tag) (t1 : tag ≤ 1) (f : Nat → Ent) : ∀ l : List Nat, sel tag (l.flatMap fun j => rowE 0 (f j) j) = (l.filter fun j => takeB tag (f j)).map Int.ofNat
  | [] => rfl
  | j :: l => by
    rw [List.flatMap_cons, sel_append, sel_flat t0 t1 f l, List.filter_cons]
    unfold rowE takeB
    by_cases h0 : (f j).1 = 0
    · simp [h0, sel]
    · have hs := selB_has t0 t1 (j : Int) (f j)
      rw [Int.zero_add]
      cases hh : hasE tag (f j)
      · rw [hh] at hs
        simp [h0, sel, hs]
      · rw [hh] at hs
        simp [h0, sel, hs]

theorem filter_range_ext {p : Nat → Bool} {a b : Nat} (hab : a ≤ b) (h : ∀ j, a ≤ j → p j = false) : (List.range b).filter p = (List.range a).filter p := by
  obtain ⟨c, rfl⟩ : ∃ c, b = a + c := ⟨b - a, by omega⟩
  rw [List.range_add, List.filter_append]
  have : ((List.range c).map (a + ·)).filter p = [] := by
    rw [List.filter_eq_nil_iff]
    intro j hj
    obtain ⟨k, _, rfl⟩ := List.mem_map.1 hj
    rw [h _ (by omega)]; decide
  rw [this, List.append_nil]
theorem each_idxs {h : Nat} {x : RN} (hc : checkP h x = 0) {tag : Int} (t0 : -1 ≤ tag) (t1 : tag ≤ 1) : eachL h x tag = (idxs h x tag).map Int.ofNat := by
  have hb := check_neg hc
  unfold eachL
  by_cases h0 : h = 0
  · rw [if_pos (by omega)]
    have : idxs h x tag = [] := by
      unfold idxs
      rw [List.filter_eq_nil_iff]
      intro j _
      rw [h0]
      show ¬ takeB tag e0 = true
      simp [takeB, e0]
    rw [this]; rfl
  · rw [if_neg (by omega)]
    obtain ⟨m, rfl⟩ : ∃ m, h = m + 1 := ⟨h - 1, by omega⟩
    rw [show (((m + 1 : Nat) : Int).toNat - 1) = m by omega, ents_all, sel_flat t0 t1]
    refine congrArg (List.map Int.ofNat) ?_
    unfold idxs
    rw [filter_range_ext (a := 8 ^ (m + 1)) (b := RM) (pow8_mono (by omega))]
    · refine List.filter_congr fun j hj => ?_
      rw [tl_succ, if_pos (List.mem_range.1 hj)]
    · intro j hj
      rw [tl_succ, if_neg (by omega)]
      simp [takeB, e0]
theorem each_none {h : Int} {x : RN} {tag : Int} (hn : checkP h x ≠ 0 ∨ tag < -1 ∨ 1 < tag) : eachL h x tag = [] := by
  unfold eachL
  rw [if_pos (by omega)]
theorem idxs_asc (h : Nat) (x : RN) (tag : Int) : (idxs h x tag).Pairwise (· < ·) := List.Pairwise.filter _ List.pairwise_lt_range
theorem idxs_mem {h : Nat} {x : RN} {tag : Int} {j : Nat} : j ∈ idxs h x tag ↔ j < RM ∧ (tl h x j).1 ≠ 0 ∧ hasE tag (tl h x j) = true := by
  unfold idxs takeB
  rw [List.mem_filter, List.mem_range]
  simp

theorem lastG_none {frm : Int} : ∀ {l : List Int} (a : Int), (∀ i ∈ l, i < frm) → l.foldl (fun a i => if frm ≤ i then i else a) a = a
  | [], _, _ => rfl
  | i :: l, a, h => by
    have hi := h i (List.mem_cons_self ..)
    rw [List.foldl_cons, if_neg (by omega)]
    exact lastG_none a fun j hj => h j (List.mem_cons_of_mem _ hj)
theorem lastG_find (frm : Int) : ∀ (l : List Int) (a : Int), (upTo (fun i => decide (i < frm)) l).foldl (fun a i => if frm ≤ i then i else a) a = (l.find? fun i => decide (frm ≤ i)).getD a
  | [], _ => rfl
  | i :: l, a => by
    by_cases hi : i < frm
    · rw [upTo, if_pos (by simpa using hi), List.foldl_cons, if_neg (by omega), lastG_find frm l a, List.find?_cons_of_neg (by simp; omega)]
    · rw [upTo, if_neg (by simpa using hi), List.find?_cons_of_pos (by simp; omega)]
      show (if frm ≤ i then i else a) = i
      rw [if_pos (by omega)]
theorem next_find (h : Int) (x : RN) {frm tag : Int} (h0 : 0 ≤ frm) : nextP h x frm tag = ((eachL h x tag).find? fun i => decide (frm ≤ i)).getD (-1) := by
  rw [nextP, if_neg (by omega)]
  exact lastG_find frm _ _

/-- The n-th entry, or -1. -/
def nthI (L : List Int) (n : Nat) : Int := (L[n]?).getD (-1)
theorem asc_lt {L : List Int} (ha : L.Pairwise (· < ·)) {a b : Nat} {p q : Int} (hp : L[a]? = some p) (hq : L[b]? = some q) (h : a < b) : p < q := by
  obtain ⟨h1, rfl⟩ := List.getElem?_eq_some_iff.1 hp
  obtain ⟨h2, rfl⟩ := List.getElem?_eq_some_iff.1 hq
  exact List.pairwise_iff_getElem.1 ha a b h1 h2 h
theorem find_at {L : List Int} (ha : L.Pairwise (· < ·)) {n : Nat} {frm : Int} (hlt : ∀ k p, k < n → L[k]? = some p → p < frm) (hge : ∀ p, L[n]? = some p → frm ≤ p) :
    (L.find? fun i => decide (frm ≤ i)).getD (-1) = nthI L n := by
  unfold nthI
  congr 1
  have hsplit : L = L.take n ++ L.drop n := (List.take_append_drop n L).symm
  have h1 : (L.take n).find? (fun i => decide (frm ≤ i)) = none := by
    rw [List.find?_eq_none]
    intro p hp
    obtain ⟨k, hk, rfl⟩ := List.mem_iff_getElem.1 hp
    have hkn : k < n := by rw [List.length_take] at hk; omega
    have hkl : k < L.length := by rw [List.length_take] at hk; omega
    have := hlt k L[k] hkn (List.getElem?_eq_getElem hkl)
    rw [List.getElem_take]
    simp; exact this
  conv => lhs; rw [hsplit, List.find?_append, h1, Option.none_or]
  cases hd : L.drop n with
  | nil =>
    have : L[n]? = none := by
      rw [List.getElem?_eq_none_iff]
      have := congrArg List.length hd
      simp at this; omega
    rw [this]; rfl
  | cons p r =>
    have : L[n]? = some p := by
      have := congrArg (fun l => l[0]?) hd
      simpa using this
    rw [this, List.find?_cons_of_pos (by simpa using hge p this)]

theorem tagged_tl {h : Nat} {x : RN} (ht : okT h x) {i : Nat} (hi : i < 1073741824) {tag : Nat} (htg : tag < 2) : taggedP h x i tag = (!decide ((tl h x i).1 = 0) && hasE tag (tl h x i)) := by
  have := leaf_tl ht hi
  unfold taggedP
  have e1 : ((tag : Int) == 0 || (tag : Int) == 1) = true := by
    have : tag = 0 ∨ tag = 1 := by omega
    rcases this with rfl | rfl <;> rfl
  cases hl : leafP h x i with
  | none => rw [hl] at this; have h2 : tl h x i = e0 := this; rw [h2]; rfl
  | some y =>
    rw [hl] at this
    have h2 : ent y (i % 8) = tl h x i := this
    rw [← h2]
    show (((tag : Int) == 0 || (tag : Int) == 1) && y.v (digB i 1).toNat != 0 && bitB (y.t (tag : Int).toNat) (digB i 1).toNat) = _
    rw [e1, dig_one, Bool.true_and]
    have : tag = 0 ∨ tag = 1 := by omega
    rcases this with rfl | rfl
    · show (y.v (i % 8) != 0 && bitB y.t0 (i % 8)) = (!decide (y.v (i % 8) = 0) && bitB y.t0 (i % 8))
      by_cases hv : y.v (i % 8) = 0 <;> simp [hv]
    · show (y.v (i % 8) != 0 && bitB y.t1 (i % 8)) = (!decide (y.v (i % 8) = 0) && bitB y.t1 (i % 8))
      by_cases hv : y.v (i % 8) = 0 <;> simp [hv]

/-- A tree with few nodes has few entries. -/
theorem ents_few : ∀ (m : Nat) (x : RN) (M first : Int), okN m x → nodesB x M ≤ M → ((ents m x first).length : Int) ≤ 8 * nodesB x M
  | 0, x, M, first, h, hM => by
    have h1 : nodesB x M = 1 := by rw [nodesB_eq, h.1.1]; rfl
    have := ents_len 0 x first
    rw [h1]
    have e : (8 : Nat) ^ (0 + 1) = 8 := rfl
    omega
  | m + 1, x, M, first, h, hM => by
    rw [nodesB_eq, h.1.1] at hM ⊢
    rw [← entsTo_8]
    have key : ∀ k, k ≤ 8 → nodesTo (fun i m' => nodesB (x.kid i) m') M k ≤ M → ((entsTo (m + 1) x first k).length : Int) ≤ 8 * nodesTo (fun i m' => nodesB (x.kid i) m') M k := by
      intro k
      induction k with
      | zero => intro _ _; simp [entsTo, nodesTo]
      | succ k ih =>
        intro hk hn
        rw [nodesTo] at hn ⊢
        by_cases hle : nodesTo (fun i m' => nodesB (x.kid i) m') M k ≤ M
        · rw [if_pos hle] at hn ⊢
          have hk8 := ih (by omega) hle
          rw [entsTo_succ, List.length_append]
          have hkid : ((entD (m + 1) x first k).length : Int) ≤ 8 * nodesB (x.kid k) (M - nodesTo (fun i m' => nodesB (x.kid i) m') M k) := by
            show (((if absentB (x.kid k) then [] else ents m (x.kid k) (first + k * 8 ^ (m + 1))).length : Nat) : Int) ≤ _
            by_cases ha : absentB (x.kid k) = true
            · rw [if_pos ha]
              have := (nodesB_bound (x.kid k) (M - nodesTo (fun i m' => nodesB (x.kid i) m') M k) (by omega)).1
              simp only [List.length_nil]; omega
            · rw [if_neg ha]
              have hq : okQ (m + 1) x := .inr h.1
              rcases hq.kid (i := k) (by omega) with hh | hh
              · exact absurd hh ha
              · exact ents_few m _ _ _ hh (by omega)
          push_cast
          omega
        · rw [if_neg hle] at hn
          omega
    exact key 8 (Nat.le_refl 8) hM
theorem each_few {h : Nat} {x : RN} (hf : fewB x = true) (tag : Int) : ((eachL h x tag).length : Int) ≤ 3200 := by
  unfold eachL
  split
  · simp
  · rename_i hn
    have hc : checkP h x = 0 := by omega
    have ht := check_iff.1 hc
    have hN : okN (h - 1) x := by
      rcases ht with ht | ht
      · omega
      · exact ht.2.2.1
    have hf' : nodesB x 400 ≤ 400 := by simpa [fewB] using hf
    have h1 := ents_few (h - 1) x 400 0 hN hf'
    have e : ((h : Int).toNat - 1) = h - 1 := by omega
    rw [e]
    have h2 : (sel tag (ents (h - 1) x 0)).length ≤ (ents (h - 1) x 0).length := by
      unfold sel; rw [List.length_map]; exact List.length_filter_le _ _
    omega

/-- The list of the entries, whatever the tree. -/
theorem each_case (ht : Int) (x : RN) (tag : Int) : eachL ht x tag = [] ∨ ∃ h : Nat, ht = h ∧ okT h x ∧ -1 ≤ tag ∧ tag ≤ 1 ∧ eachL ht x tag = (idxs h x tag).map Int.ofNat := by
  by_cases hn : checkP ht x ≠ 0 ∨ tag < -1 ∨ 1 < tag
  · exact .inl (each_none hn)
  · have hc : checkP ht x = 0 := by omega
    have hb := check_neg hc
    obtain ⟨h, rfl⟩ : ∃ h : Nat, ht = h := ⟨ht.toNat, by omega⟩
    exact .inr ⟨h, rfl, check_iff.1 hc, by omega, by omega, each_idxs hc (by omega) (by omega)⟩
theorem each_asc (ht : Int) (x : RN) (tag : Int) : (eachL ht x tag).Pairwise (· < ·) := by
  rcases each_case ht x tag with h | ⟨h, rfl, -, -, -, e⟩
  · rw [h]; exact .nil
  · rw [e, List.pairwise_map]
    exact (idxs_asc h x tag).imp fun hab => Int.ofNat_lt.2 hab
theorem each_at {ht : Int} {x : RN} {tag : Int} {p : Int} (hp : p ∈ eachL ht x tag) :
    0 ≤ p ∧ p < 1073741824 ∧ -1 ≤ tag ∧ tag ≤ 1 ∧ (getP ht x p == 0) = false ∧ (0 ≤ tag → taggedP ht x p tag = true) := by
  rcases each_case ht x tag with h | ⟨h, rfl, hok, t0, t1, e⟩
  · rw [h] at hp; cases hp
  · rw [e] at hp
    obtain ⟨i, hi, rfl⟩ := List.mem_map.1 hp
    obtain ⟨hlt, hv, hh⟩ := idxs_mem.1 hi
    rw [RM_val] at hlt
    refine ⟨Int.natCast_nonneg i, by show (i : Int) < _; omega, t0, t1, ?_, fun h0 => ?_⟩
    · rw [show getP h x (Int.ofNat i) = (tl h x i).1 from get_tl hok hlt]
      simpa using hv
    · obtain ⟨g, rfl⟩ : ∃ g : Nat, tag = g := ⟨tag.toNat, by omega⟩
      rw [show taggedP h x (Int.ofNat i) g = _ from tagged_tl hok hlt (by omega), hh]
      simpa using hv
theorem nth_some {L : List Int} {n : Nat} (h : n < L.length) : L[n]? = some (nthI L n) := by unfold nthI; rw [List.getElem?_eq_getElem h]; rfl
theorem nth_end {L : List Int} {n : Nat} (h : L.length ≤ n) : nthI L n = -1 := by unfold nthI; rw [List.getElem?_eq_none h]; rfl
theorem next_first (ht : Int) (x : RN) (tag : Int) : nextP ht x 0 tag = nthI (eachL ht x tag) 0 := by
  rw [next_find _ _ (by omega)]
  refine find_at (each_asc ht x tag) (fun k p hk => absurd hk (by omega)) fun p hp => (each_at (List.mem_of_getElem? hp)).1
theorem next_after {ht : Int} {x : RN} {tag : Int} {n : Nat} (hn : n < (eachL ht x tag).length) : nextP ht x (nthI (eachL ht x tag) n + 1) tag = nthI (eachL ht x tag) (n + 1) := by
  have hs := nth_some hn
  have h0 := (each_at (List.mem_of_getElem? hs)).1
  rw [next_find _ _ (by omega)]
  refine find_at (each_asc ht x tag) (fun k p hk hp => ?_) fun p hp => ?_
  · rcases Nat.lt_or_ge k n with h | h
    · have := asc_lt (each_asc ht x tag) hp hs h; omega
    · have : k = n := by omega
      subst this
      rw [hs] at hp; injection hp with hp; omega
  · have := asc_lt (each_asc ht x tag) hs hp (by omega); omega
/-- What is known of the n-th entry. -/
theorem walk_at {ht : Int} {x : RN} {tag : Int} {n : Nat} {p q : Int} (hn : n < (eachL ht x tag).length) (hp : nthI (eachL ht x tag) n = p) (hq : nthI (eachL ht x tag) (n + 1) = q) :
    0 ≤ p ∧ p < 1073741824 ∧ -1 ≤ tag ∧ tag ≤ 1 ∧ (getP ht x p == 0) = false ∧ (0 ≤ tag → taggedP ht x p tag = true) ∧ nextP ht x (p + 1) tag = q ∧ (q = -1 ∨ p < q) ∧ (p = 1073741823 → q = -1) := by
  have hs := nth_some hn
  have hx := next_after hn
  rw [hp] at hs hx
  rw [hq] at hx
  obtain ⟨h0, h1, h2, h3, h4, h5⟩ := each_at (List.mem_of_getElem? hs)
  refine ⟨h0, h1, h2, h3, h4, h5, hx, ?_⟩
  rcases Nat.lt_or_ge (n + 1) (eachL ht x tag).length with h | h
  · have hs2 := nth_some h
    rw [hq] at hs2
    have hlt := asc_lt (each_asc ht x tag) hs hs2 (by omega)
    have := (each_at (List.mem_of_getElem? hs2)).2.1
    exact ⟨.inr hlt, fun e => by omega⟩
  · have := nth_end h
    rw [hq] at this
    exact ⟨.inl this, fun _ => this⟩
end Go.Proofs.Ytcicfijpfhbcaaa
