/-
  The reference's lists: what Set makes of them, and the tree that is built. No program.
-/
/-
  The reference's index, Get, Set.
-/
import Derived.Test.YtcicfijpfhbcaaaBu
import Derived.Test.YtcicfijpfhbcaaaPn
import Derived.Test.YtcicfijpfhbcaaaPo
import Derived.Test.YtcicfijpfhbcaaaCk
namespace Go.Proofs.Ytcicfijpfhbcaaa
set_option linter.unusedSimpArgs false
set_option linter.unusedVariables false
set_option linter.unusedSectionVars false

theorem lk_wf (m : Nat) {x : RN} (h : okQ m x) (i : Nat) (hz : (lk m x i).1 = 0) : lk m x i = e0 := lk_zero m h i hz
theorem tl_wf {h : Nat} {x : RN} (ht : okT h x) : wfE (tl h x) := fun _ hj => tl_zero ht hj
theorem tl_far {h : Nat} {x : RN} (ht : okT h x) {j : Nat} (hj : RM ≤ j) : tl h x j = e0 := by
  have hb := check_neg (check_iff.2 ht)
  rcases Nat.eq_zero_or_pos h with h0 | h0
  · subst h0; rfl
  · obtain ⟨m, rfl⟩ : ∃ m, h = m + 1 := ⟨h - 1, by omega⟩
    rw [tl_succ, if_neg]
    have : (8 : Nat) ^ (m + 1) ≤ 8 ^ 10 := pow8_mono (by omega)
    unfold RM at hj
    omega
theorem lsE_grow {a b : Nat} (hab : a ≤ b) {f : Nat → Ent} (hf : ∀ j, a ≤ j → f j = e0) : lsE b 0 f = lsE a 0 f := by
  obtain ⟨c, rfl⟩ : ∃ c, b = a + c := ⟨b - a, by omega⟩
  unfold lsE
  rw [List.range_add, List.flatMap_append]
  have : ((List.range c).map (a + ·)).flatMap (fun j => row3 0 (f j) j) = [] := by
    rw [List.flatMap_eq_nil_iff]
    intro j hj
    obtain ⟨k, -, rfl⟩ := List.mem_map.1 hj
    rw [hf _ (by omega), row3, if_pos (show e0.1 = 0 from rfl)]
  rw [this, List.append_nil]
/-- The entries of a valid tree. -/
theorem ent_ls {h : Nat} {x : RN} (ht : okT h x) : entT h x = lsE RM 0 (tl h x) := by
  have hc := check_iff.2 ht
  have hb := check_neg hc
  unfold entT
  by_cases h0 : h = 0
  · rw [if_pos (by omega)]
    subst h0
    have : lsE RM 0 (tl 0 x) = [] := by
      unfold lsE
      rw [List.flatMap_eq_nil_iff]
      intro j _
      show row3 0 e0 j = []
      rw [row3, if_pos (show e0.1 = 0 from rfl)]
    rw [this]
  · rw [if_neg (by omega)]
    obtain ⟨m, rfl⟩ : ∃ m, h = m + 1 := ⟨h - 1, by omega⟩
    rw [show (((m + 1 : Nat) : Int).toNat - 1) = m by omega, ent3_all]
    rw [lsE_grow (a := 8 ^ (m + 1)) (b := RM) (pow8_mono (by omega)) (fun j hj => by rw [tl_succ, if_neg (by omega)])]
    unfold lsE
    refine flatMap_congr' fun j hj => ?_
    rw [tl_succ, if_pos (List.mem_range.1 hj)]
theorem ent_bad {ht : Int} {x : RN} (h : checkP ht x ≠ 0) : entT ht x = [] := if_pos (.inl h)
/-- The entries behind an index. -/
def restE (R : Nat) (f : Nat → Ent) (i : Nat) : List E3 := ((List.range (R - (i + 1))).map (i + 1 + ·)).flatMap fun j => row3 0 (f j) j
theorem ls_at {R : Nat} {f : Nat → Ent} {i : Nat} (hi : i < R) : lsE R 0 f = lsE i 0 f ++ (row3 0 (f i) i ++ restE R f i) := by
  have e : R = (i + 1) + (R - (i + 1)) := by omega
  unfold lsE restE
  conv => lhs; rw [e]
  rw [List.range_add, List.flatMap_append, List.range_succ, List.flatMap_append, List.append_assoc]
  congr 1
  congr 1
  simp
theorem ls_low {f : Nat → Ent} {i : Nat} {e : E3} (h : e ∈ lsE i 0 f) : 0 ≤ e.1 ∧ e.1 < i := by
  obtain ⟨j, hj, -, rfl⟩ := lsE_mem.1 h
  show 0 ≤ (0 : Int) + j ∧ (0 : Int) + j < i
  omega
theorem rest_hi {R : Nat} {f : Nat → Ent} {i : Nat} {e : E3} (h : e ∈ restE R f i) : (i : Int) < e.1 := by
  obtain ⟨j, hj, he⟩ := List.mem_flatMap.1 h
  obtain ⟨k, -, rfl⟩ := List.mem_map.1 hj
  unfold row3 at he
  split at he
  · cases he
  · rw [List.mem_singleton] at he
    subst he
    show (i : Int) < 0 + ((i + 1 + k : Nat) : Int)
    omega
theorem at_pre {a b : List E3} {i : Int} (ha : ∀ e ∈ a, e.1 < i) (hb : ∀ e, b.head? = some e → i ≤ e.1) : atP (a ++ b) i = a.length := by
  unfold atP
  induction a with
  | nil =>
    cases b with
    | nil => rfl
    | cons e b =>
      have := hb e rfl
      rw [List.nil_append, List.takeWhile_cons_of_neg (by simp; omega)]
  | cons e a ih =>
    have := ha e (List.mem_cons_self ..)
    rw [List.cons_append, List.takeWhile_cons_of_pos (by simpa using this), List.length_cons, List.length_cons, ih fun x hx => ha x (List.mem_cons_of_mem _ hx)]
theorem at_ls {R : Nat} {f : Nat → Ent} {i : Nat} (hi : i < R) : atP (lsE R 0 f) i = (lsE i 0 f).length := by
  rw [ls_at hi]
  refine at_pre (fun e he => (ls_low he).2) fun e he => ?_
  have hm : e ∈ row3 0 (f i) i ++ restE R f i := List.mem_of_mem_head? he
  rcases List.mem_append.1 hm with h | h
  · unfold row3 at h
    split at h
    · cases h
    · rw [List.mem_singleton] at h; subst h; show (i : Int) ≤ 0 + i; omega
  · have := rest_hi h; omega
def updF (f : Nat → Ent) (i : Nat) (e : Ent) : Nat → Ent := fun j => if j = i then e else f j
theorem ls_upd {R : Nat} {f : Nat → Ent} {i : Nat} (hi : i < R) (e : Ent) : lsE R 0 (updF f i e) = lsE i 0 f ++ (row3 0 e i ++ restE R f i) := by
  rw [ls_at hi]
  have h1 : lsE i 0 (updF f i e) = lsE i 0 f := by
    unfold lsE
    refine flatMap_congr' fun j hj => ?_
    have := List.mem_range.1 hj
    rw [updF, if_neg (by omega)]
  have h2 : restE R (updF f i e) i = restE R f i := by
    unfold restE
    refine flatMap_congr' fun j hj => ?_
    obtain ⟨k, -, rfl⟩ := List.mem_map.1 hj
    rw [updF, if_neg (by omega)]
  have h3 : updF f i e i = e := by rw [updF, if_pos rfl]
  rw [h1, h2, h3]
/-- The entry at an index, where there is one. -/
def hitE (l : List E3) (i : Int) : Option E3 := match l[atP l i]? with
  | some e => if e.1 = i then some e else none
  | none => none
theorem hit_ls {R : Nat} {f : Nat → Ent} {i : Nat} (hi : i < R) : hitE (lsE R 0 f) i = if (f i).1 = 0 then none else some ((i : Int), (f i).1, tgE (f i)) := by
  unfold hitE
  rw [at_ls hi, ls_at hi, List.getElem?_append_right (Nat.le_refl _), Nat.sub_self]
  unfold row3
  by_cases h0 : (f i).1 = 0
  · rw [if_pos h0, if_pos h0, List.nil_append]
    cases hr : restE R f i with
    | nil => rfl
    | cons e r =>
      have : e ∈ restE R f i := by rw [hr]; exact List.mem_cons_self ..
      have := rest_hi this
      show (if e.1 = i then some e else none) = none
      rw [if_neg (by omega)]
  · rw [if_neg h0, if_neg h0]
    show (if (0 : Int) + i = i then some ((0 : Int) + i, (f i).1, tgE (f i)) else none) = _
    rw [Int.zero_add, if_pos rfl]
/-- What the reference's Set makes of the list. -/
def setL (l : List E3) (i v : Int) : List E3 := match hitE l i with
  | some e => l.take (atP l i) ++ ((if v = 0 then [] else [(i, v, e.2.2)]) ++ l.drop (atP l i + 1))
  | none => l.take (atP l i) ++ ((if v = 0 then [] else [(i, v, 0)]) ++ l.drop (atP l i))
theorem tg_zero {f : Nat → Ent} (hf : wfE f) {i : Nat} (h : (f i).1 = 0) (v : Int) : tgE (setE v (f i)) = 0 := by
  rw [hf i h]
  unfold setE
  split <;> rfl
theorem setL_ls {R : Nat} {f : Nat → Ent} (hf : wfE f) {i : Nat} (hi : i < R) (v : Int) : setL (lsE R 0 f) i v = lsE R 0 (updF f i (setE v (f i))) := by
  unfold setL
  rw [ls_upd hi, hit_ls hi, at_ls hi]
  have ht : (lsE R 0 f).take (lsE i 0 f).length = lsE i 0 f := by rw [ls_at hi, List.take_left']; rfl
  have hd : (lsE R 0 f).drop (lsE i 0 f).length = row3 0 (f i) i ++ restE R f i := by rw [ls_at hi, List.drop_left']; rfl
  have hrow : row3 0 (setE v (f i)) i = if v = 0 then [] else [((i : Int), v, tgE (setE v (f i)))] := by
    unfold row3
    by_cases hv : v = 0
    · rw [if_pos (by rw [setE, if_pos hv]; rfl), if_pos hv]
    · rw [if_neg (by rw [setE, if_neg hv]; exact hv), if_neg hv]
      have : (setE v (f i)).1 = v := by rw [setE, if_neg hv]
      rw [this, Int.zero_add]
  by_cases h0 : (f i).1 = 0
  · rw [if_pos h0]
    show _ ++ ((if v = 0 then [] else [((i : Int), v, (0 : Int))]) ++ _) = _
    rw [ht, hd, hrow, tg_zero hf h0 v, row3, if_pos h0, List.nil_append]
  · rw [if_neg h0]
    show _ ++ ((if v = 0 then [] else [((i : Int), v, tgE (f i))]) ++ _) = _
    have hd1 : (lsE R 0 f).drop ((lsE i 0 f).length + 1) = restE R f i := by
      rw [← List.drop_drop, hd, row3, if_neg h0]; rfl
    have htg : v ≠ 0 → tgE (setE v (f i)) = tgE (f i) := fun hv => by rw [setE, if_neg hv]; rfl
    rw [ht, hd1, hrow]
    by_cases hv : v = 0
    · rw [if_pos hv, if_pos hv]
    · rw [if_neg hv, if_neg hv, htg hv]
theorem updF_wf {f : Nat → Ent} (hf : wfE f) (i : Nat) {e : Ent} (he : e.1 = 0 → e = e0) : wfE (updF f i e) := fun j h => by
  unfold updF at h ⊢
  split
  · rename_i hj; rw [if_pos hj] at h; exact he h
  · rename_i hj; rw [if_neg hj] at h; exact hf j h
theorem setE_wf {v : Int} {e : Ent} (h : (setE v e).1 = 0) : setE v e = e0 := by
  unfold setE at h ⊢
  by_cases hv : v = 0
  · rw [if_pos hv]
  · rw [if_neg hv] at h; exact absurd h hv
theorem ls_asc (n : Nat) (f : Nat → Ent) : (lsE n 0 f).Pairwise fun a b => a.1 < b.1 := by
  induction n with
  | zero => exact .nil
  | succ n ih =>
    have e : lsE (n + 1) 0 f = lsE n 0 f ++ row3 0 (f n) n := by unfold lsE; rw [List.range_succ, List.flatMap_append]; simp
    rw [e, List.pairwise_append]
    refine ⟨ih, ?_, fun a ha b hb => ?_⟩
    · unfold row3; split
      · exact .nil
      · exact List.pairwise_singleton _ _
    · unfold row3 at hb
      split at hb
      · cases hb
      · rw [List.mem_singleton] at hb
        subst hb
        have := (ls_low ha).2
        show a.1 < 0 + (n : Int)
        omega
theorem ls_in (f : Nat → Ent) : InE (lsE RM 0 f) 0 (8 ^ 9) := by
  have h89 : (0 : Int) + 8 * 8 ^ 9 = RM := by rw [RM_val]; decide
  refine ⟨fun e he => (ls_low he).1, fun e he => by rw [h89]; exact (ls_low he).2, fun e he => ?_, ?_⟩
  · obtain ⟨j, -, -, rfl⟩ := lsE_mem.1 he
    exact tg_in (f j)
  · have := flatMap_len 1 (fun j => row3 0 (f j) j) (fun d => row3_len _ _ _) RM
    rw [RM_val] at this
    have e : (lsE RM 0 f).length = ((List.range 1073741824).flatMap fun j => row3 0 (f j) j).length := by unfold lsE; rw [RM_val]
    omega
/-- THE TREE THAT IS BUILT OF A LIST IS THE TREE OF ITS ENTRIES. -/
theorem built_ok {f : Nat → Ent} (hf : wfE f) (hfar : ∀ j, RM ≤ j → f j = e0) {h : Nat} {x : RN}
    (hb : (lsE RM 0 f = [] ∧ h = 0 ∧ x = zeroN) ∨ ∃ (m : Nat) (z : E3), h = m + 1 ∧ m ≤ 9 ∧ (lsE RM 0 f).getLast? = some z ∧ z.1 < 8 ^ (m + 1) ∧ (m = 0 ∨ 8 ^ m ≤ z.1) ∧ x = nodeP m (lsE RM 0 f) 0) : okT h x ∧ ∀ j, tl h x j = f j := by
  rcases hb with ⟨hl, rfl, rfl⟩ | ⟨m, z, rfl, hm, hlast, hz, hz0, rfl⟩
  · refine ⟨okT_zero, fun j => ?_⟩
    show e0 = f j
    rcases Nat.lt_or_ge j RM with hj | hj
    · exact (lsE_nil hf hl hj).symm
    · exact (hfar j hj).symm
  · have hzm : z ∈ lsE RM 0 f := List.mem_of_getLast? hlast
    have hall : ∀ e ∈ lsE RM 0 f, e.1 ≤ z.1 := fun e he => by
      rcases nil_or_snoc (lsE RM 0 f) with h0 | ⟨a, b, h0⟩
      · rw [h0] at he; cases he
      · have hbz : b = z := by rw [h0, List.getLast?_concat] at hlast; simpa using hlast
        have hp := ls_asc RM f
        rw [h0] at hp he
        subst hbz
        rcases List.mem_append.1 he with h1 | h1
        · have := (List.pairwise_append.1 hp).2.2 e h1 b (by simp); omega
        · rw [List.mem_singleton] at h1; subst h1; omega
    have hout : ∀ j, 8 ^ (m + 1) ≤ j → f j = e0 := fun j hj => by
      rcases Nat.lt_or_ge j RM with hjR | hjR
      · refine hf j (Classical.byContradiction fun h0 => ?_)
        have hmem : ((0 : Int) + j, (f j).1, tgE (f j)) ∈ lsE RM 0 f := lsE_mem.2 ⟨j, hjR, h0, rfl⟩
        have h1 := hall _ hmem
        have h2 : ((8 ^ (m + 1) : Nat) : Int) ≤ j := Int.ofNat_le.2 hj
        push_cast at h2
        simp only at h1
        omega
      · exact hfar j hjR
    have hsame : lsE RM 0 f = lsE (8 ^ (m + 1)) 0 f := lsE_grow (pow8_mono (by omega)) hout
    rw [hsame] at hzm ⊢
    have hne : lsE (8 ^ (m + 1)) 0 f ≠ [] := fun e => by rw [e] at hzm; cases hzm
    have hN := nodeP_ok m f 0 hf hne
    refine ⟨.inr ⟨by omega, by omega, hN.1, ?_⟩, fun j => ?_⟩
    · rcases hz0 with rfl | hz0
      · left; rfl
      · rcases Nat.eq_zero_or_pos m with rfl | hmp
        · left; rfl
        · right
          obtain ⟨k, rfl⟩ : ∃ k, m = k + 1 := ⟨m - 1, by omega⟩
          obtain ⟨j, hj, hj0, rfl⟩ := lsE_mem.1 hzm
          have hz1 : ((8 ^ (k + 1) : Nat) : Int) ≤ j := by push_cast; simpa using hz0
          have hj1 : 8 ^ (k + 1) ≤ j := Int.ofNat_le.1 hz1
          have e8 : (8 : Nat) ^ (k + 1 + 1) = 8 * 8 ^ (k + 1) := by rw [Nat.pow_succ, Nat.mul_comm]
          have hd : j / 8 ^ (k + 1) < 8 := by rw [e8] at hj; exact Nat.div_lt_of_lt_mul (by rw [Nat.mul_comm]; exact hj)
          have hd1 : 1 ≤ j / 8 ^ (k + 1) := (Nat.one_le_div_iff (pow8_pos _)).2 hj1
          refine later_iff.2 ⟨j / 8 ^ (k + 1), hd1, hd, ?_⟩
          cases ha : absentB ((nodeP (k + 1) (lsE (8 ^ (k + 1 + 1)) 0 f) 0).kid (j / 8 ^ (k + 1)))
          · rfl
          · exfalso
            have h1 := hN.2 j hj
            have hmod : j % 8 ^ (k + 1) < 8 ^ (k + 1) := Nat.mod_lt _ (pow8_pos _)
            have hj' : j / 8 ^ (k + 1) * 8 ^ (k + 1) + j % 8 ^ (k + 1) = j := by rw [Nat.mul_comm]; exact Nat.div_add_mod j _
            have h2 := lk_top (nodeP (k + 1) (lsE (8 ^ (k + 1 + 1)) 0 f) 0) hd hmod
            rw [hj', lk_absent k ha, h1] at h2
            rw [h2] at hj0
            exact hj0 rfl
    · rw [tl_succ]
      split
      · rename_i hj; exact hN.2 j hj
      · rename_i hj; exact (hout j (by omega)).symm
end Go.Proofs.Ytcicfijpfhbcaaa
namespace Go.Proofs.Ytcicfijpfhbcaaa
set_option linter.unusedSimpArgs false
set_option linter.unusedVariables false
set_option linter.unusedSectionVars false
open Go.RowKit

/-- What the reference's index answers. -/
def idxP (ht : Int) (x : RN) (i : Int) : Int := if checkP ht x ≠ 0 then checkP ht x else if i < 0 ∨ 1073741824 ≤ i then 2 else 0
set_option maxRecDepth 100000 in
set_option maxHeartbeats 1000000 in
theorem r_index (cs : Array Value) (ht : Int) (x : RN) (i : Int) (w : World) (h : RdVals w cs 12 (encR ht x)) :
    Calls Try.prog 77 #[.agg cs, .int .i64 i] w fun e w' => e = .returned (.int .i64 (idxP ht x i)) ∧ Below w.heap.size w w' := by
  obtain ⟨A, cap, rfl, hk⟩ := rdR_open h
  have HR := Lib.hid h
  clear h hk
  by_cases hc : checkP ht x = 0
  · have hcb : (checkP ht x != 0) = false := by simp [hc]
    have hcase : i < 0 ∨ (0 ≤ i ∧ 1073741824 ≤ i) ∨ (0 ≤ i ∧ i < 1073741824) := by omega
    rcases hcase with h1 | ⟨h1, h2⟩ | ⟨h1, h2⟩
    all_goals
      have hp : Hid (idxP ht x i = if i < 0 ∨ 1073741824 ≤ i then 2 else 0) := by unfold Hid idxP; rw [if_neg (by simp [hc])]
      go_enter Try.func77, Try.ntmps77
      go_wp2_with (go_at_call 20; refine (r_Check _ ht x _ ?_).mono ?_; exact HR.out.keep (below_keeps (by (repeat' (first | (with_reducible exact Below.refl _ _) | (with_reducible assumption) | (with_reducible refine below_plus ?_ ?_ _) | (with_reducible refine Below.alloc ?_ ?_ _) | (with_reducible refine Below.drew ?_) | (with_reducible refine below_drewN ?_ _) | (with_reducible refine Below.setCell ?_ ?_ _) | (first | omega | (simp only [World.size_alloc, size_plus, World.size_drew, World.size_setCell] <;> omega) | (simp <;> omega)) | omega | (simp; omega))))); rintro e w' ⟨rfl, hb⟩; (first | (obtain ⟨X, rfl⟩ := plus_again hb) | (obtain ⟨X, rfl⟩ := plus_of_below hb)); clear hb)
      go_ret
      refine ⟨?_, by (repeat' (first | (with_reducible exact Below.refl _ _) | (with_reducible assumption) | (with_reducible refine below_plus ?_ ?_ _) | (with_reducible refine Below.alloc ?_ ?_ _) | (with_reducible refine Below.drew ?_) | (with_reducible refine below_drewN ?_ _) | (with_reducible refine Below.setCell ?_ ?_ _) | (first | omega | (simp only [World.size_alloc, size_plus, World.size_drew, World.size_setCell] <;> omega) | (simp <;> omega)) | omega | (simp; omega)))⟩
      rw [hp.out]
      first
        | (rw [if_pos (by omega)]; rfl)
        | (rw [if_neg (by omega)]; rfl)
  · have hp : Hid (idxP ht x i = checkP ht x) := if_pos hc
    have hcb : (checkP ht x != 0) = true := by simp [hc]
    clear hc
    go_enter Try.func77, Try.ntmps77
    go_wp2_with (go_at_call 20; refine (r_Check _ ht x _ ?_).mono ?_; exact HR.out.keep (below_keeps (by (repeat' (first | (with_reducible exact Below.refl _ _) | (with_reducible assumption) | (with_reducible refine below_plus ?_ ?_ _) | (with_reducible refine Below.alloc ?_ ?_ _) | (with_reducible refine Below.drew ?_) | (with_reducible refine below_drewN ?_ _) | (with_reducible refine Below.setCell ?_ ?_ _) | (first | omega | (simp only [World.size_alloc, size_plus, World.size_drew, World.size_setCell] <;> omega) | (simp <;> omega)) | omega | (simp; omega))))); rintro e w' ⟨rfl, hb⟩; (first | (obtain ⟨X, rfl⟩ := plus_again hb) | (obtain ⟨X, rfl⟩ := plus_of_below hb)); clear hb)
    go_ret
    exact ⟨by rw [hp.out]; rfl, by (repeat' (first | (with_reducible exact Below.refl _ _) | (with_reducible assumption) | (with_reducible refine below_plus ?_ ?_ _) | (with_reducible refine Below.alloc ?_ ?_ _) | (with_reducible refine Below.drew ?_) | (with_reducible refine below_drewN ?_ _) | (with_reducible refine Below.setCell ?_ ?_ _) | (first | omega | (simp only [World.size_alloc, size_plus, World.size_drew, World.size_setCell] <;> omega) | (simp <;> omega)) | omega | (simp; omega)))⟩

def valE : Option E3 → Int
  | some e => e.2.1
  | none => 0
theorem hit_some {l : List E3} {i : Int} {e : E3} (h : l[atP l i]? = some e) (he : e.1 = i) : hitE l i = some e := by unfold hitE; rw [h]; exact if_pos he
theorem hit_miss {l : List E3} {i : Int} {e : E3} (h : l[atP l i]? = some e) (he : ¬ e.1 = i) : hitE l i = none := by unfold hitE; rw [h]; exact if_neg he
theorem hit_end {l : List E3} {i : Int} (h : l[atP l i]? = none) : hitE l i = none := by unfold hitE; rw [h]

set_option maxRecDepth 100000 in
set_option maxHeartbeats 1000000 in
theorem r_Get (cs : Array Value) (ht : Int) (x : RN) (i : Int) (w : World) (h : RdVals w cs 12 (encR ht x)) :
    Calls Try.prog 27 #[.agg cs, .int .i64 i] w fun e w' => e = .returned (.int .i64 (valE (hitE (entT ht x) i))) ∧ Below w.heap.size w w' := by
  obtain ⟨A, cap, rfl, hk⟩ := rdR_open h
  have HR := Lib.hid h
  clear h hk
  have hlen := entT_len ht x
  have HE : Hid (∀ cs W, RdVals W cs 12 (encR ht x) → Calls Try.prog 78 #[.agg cs] W (EntPost (entT ht x) W)) := fun cs W hr => r_Entries cs ht x W hr
  generalize entT ht x = l at *
  have hat := atP_le l i
  have hmax : (l.length : Int) ≤ 1073741824 := by omega
  rcases Nat.lt_or_ge (atP l i) l.length with hlt | hge
  · obtain ⟨e, he⟩ : ∃ e, l[atP l i]? = some e := ⟨_, List.getElem?_eq_getElem hlt⟩
    have HAT : Hid (∀ W base v, OwnE W base l v → ∃ g cap, v = .slice (some ⟨g, 0, none⟩) l.length cap ∧ g < W.heap.size ∧ W.cell? ⟨g, atP l i * 3, none⟩ = some (.int .i64 e.1) ∧ W.cell? ⟨g, atP l i * 3 + 1, none⟩ = some (.int .i64 e.2.1)) := fun W base v ho => by
      obtain ⟨g, cap, h1, -, h2, h3, h4, -⟩ := ho.at he
      exact ⟨g, cap, h1, h2, h3, h4⟩
    have HRA : Hid (∀ v base W, OwnE W base l v → Calls Try.prog 79 #[v, .int .i64 i] W fun e w' => e = .returned (.int .i64 (atP l i : Int)) ∧ W = w') := fun v base W ho => r_at v l i base W ho
    by_cases hi : e.1 = i
    · have hp : Hid (valE (hitE l i) = e.2.1) := by rw [Hid, hit_some he hi]; rfl
      have hib : (e.1 == i) = true := by simp [hi]
      clear he hi hat
      generalize atP l i = p at *
      have hpl : (p : Int) < (l.length : Int) := by omega
      go_enter Try.func27, Try.ntmps27
      go_wp2_with (first
        | (go_at_call 78; refine (HE.out _ _ ?_).mono ?_; exact HR.out.keep (below_keeps (by (repeat' (first | (with_reducible exact Below.refl _ _) | (with_reducible assumption) | (with_reducible refine below_plus ?_ ?_ _) | (with_reducible refine Below.alloc ?_ ?_ _) | (with_reducible refine Below.drew ?_) | (with_reducible refine below_drewN ?_ _) | (with_reducible refine Below.setCell ?_ ?_ _) | (first | omega | (simp only [World.size_alloc, size_plus, World.size_drew, World.size_setCell] <;> omega) | (simp <;> omega)) | omega | (simp; omega))))); rintro e W ⟨v, rfl, ho, hb⟩; (obtain ⟨g, cap1, rfl, hgw, c0, c1⟩ := HAT.out _ _ _ ho); have HO := Lib.hid ho; have HB := Lib.hid (below_trans (below_alloc w _) (hb.mono (by (first | omega | (simp only [World.size_alloc, size_plus, World.size_drew, World.size_setCell] <;> omega) | (simp <;> omega))))); clear ho hb)
        | (go_at_call 79; refine (HRA.out _ _ _ HO.out).mono ?_; rintro e W' ⟨rfl, rfl⟩))
      go_ret
      exact ⟨by rw [hp.out]; rfl, HB.out⟩
    · have hp : Hid (valE (hitE l i) = 0) := by rw [Hid, hit_miss he hi]; rfl
      have hib : (e.1 == i) = false := by simp [hi]
      clear he hi hat
      generalize atP l i = p at *
      have hpl : (p : Int) < (l.length : Int) := by omega
      go_enter Try.func27, Try.ntmps27
      go_wp2_with (first
        | (go_at_call 78; refine (HE.out _ _ ?_).mono ?_; exact HR.out.keep (below_keeps (by (repeat' (first | (with_reducible exact Below.refl _ _) | (with_reducible assumption) | (with_reducible refine below_plus ?_ ?_ _) | (with_reducible refine Below.alloc ?_ ?_ _) | (with_reducible refine Below.drew ?_) | (with_reducible refine below_drewN ?_ _) | (with_reducible refine Below.setCell ?_ ?_ _) | (first | omega | (simp only [World.size_alloc, size_plus, World.size_drew, World.size_setCell] <;> omega) | (simp <;> omega)) | omega | (simp; omega))))); rintro e W ⟨v, rfl, ho, hb⟩; (obtain ⟨g, cap1, rfl, hgw, c0, c1⟩ := HAT.out _ _ _ ho); have HO := Lib.hid ho; have HB := Lib.hid (below_trans (below_alloc w _) (hb.mono (by (first | omega | (simp only [World.size_alloc, size_plus, World.size_drew, World.size_setCell] <;> omega) | (simp <;> omega))))); clear ho hb)
        | (go_at_call 79; refine (HRA.out _ _ _ HO.out).mono ?_; rintro e W' ⟨rfl, rfl⟩))
      go_ret
      exact ⟨by rw [hp.out]; rfl, HB.out⟩
  · have hp : Hid (valE (hitE l i) = 0) := by rw [Hid, hit_end (List.getElem?_eq_none hge)]; rfl
    have HRA : Hid (∀ v base W, OwnE W base l v → Calls Try.prog 79 #[v, .int .i64 i] W fun e w' => e = .returned (.int .i64 (l.length : Int)) ∧ W = w') := fun v base W ho => by
      have := r_at v l i base W ho
      rw [show atP l i = l.length by omega] at this; exact this
    clear hge hat
    go_enter Try.func27, Try.ntmps27
    go_wp2_with (first
      | (go_at_call 78; refine (HE.out _ _ ?_).mono ?_; exact HR.out.keep (below_keeps (by (repeat' (first | (with_reducible exact Below.refl _ _) | (with_reducible assumption) | (with_reducible refine below_plus ?_ ?_ _) | (with_reducible refine Below.alloc ?_ ?_ _) | (with_reducible refine Below.drew ?_) | (with_reducible refine below_drewN ?_ _) | (with_reducible refine Below.setCell ?_ ?_ _) | (first | omega | (simp only [World.size_alloc, size_plus, World.size_drew, World.size_setCell] <;> omega) | (simp <;> omega)) | omega | (simp; omega))))); rintro e W ⟨v, rfl, ho, hb⟩; (obtain ⟨A1, cap1, rfl, -, -⟩ := ho.slice); have HO := Lib.hid ho; have HB := Lib.hid (below_trans (below_alloc w _) (hb.mono (by (first | omega | (simp only [World.size_alloc, size_plus, World.size_drew, World.size_setCell] <;> omega) | (simp <;> omega))))); clear ho hb)
      | (go_at_call 79; refine (HRA.out _ _ _ HO.out).mono ?_; rintro e W' ⟨rfl, rfl⟩))
    go_ret
    exact ⟨by rw [hp.out]; rfl, HB.out⟩
end Go.Proofs.Ytcicfijpfhbcaaa
