/-
  radix.digit, leaf, Get, Tagged.
-/
/-
  radix.Get, Tagged.
-/
import Derived.Test.YtcicfijpfhbcaaaPc
import Derived.Test.YtcicfijpfhbcaaaNode2
import Derived.StillTailTactics
namespace Go.Proofs.Ytcicfijpfhbcaaa
set_option linter.unusedSimpArgs false
set_option linter.unusedVariables false
set_option linter.unusedSectionVars false
open Go.RowKit

/-- The digit of an index for a level. -/
def digB (i l : Int) : Int := i / 2 ^ (3 * (l - 1)).toNat % 8
theorem digB_lt (i l : Int) : 0 ≤ digB i l ∧ digB i l < 8 := by unfold digB; omega
theorem p_digit (i l : Int) (w : World) (h0 : 0 ≤ i) (h1 : i < 1073741824) (h2 : 1 ≤ l) (h3 : l ≤ 10) :
    Calls Try.prog 82 #[.int .i64 i, .int .i64 l] w fun e w' => e = .returned (.int .i64 (digB i l)) ∧ w = w' := by
  have hd : 0 ≤ i / 2 ^ (3 * (l - 1)).toNat := Int.ediv_nonneg h0 (by exact_mod_cast Nat.zero_le _)
  have hm : (i / 2 ^ (3 * (l - 1)).toNat).tmod 8 = digB i l := Int.tmod_eq_emod_of_nonneg hd
  have HM := Lib.hid hm
  clear hm
  go_enter Try.func82, Try.ntmps82
  go_wp2_with fail
  go_ret
  exact ⟨by first | rfl | (rw [← HM.out]; rfl), rfl⟩

/-- The node of level 1 below x on the way of index i. -/
def descP : Nat → RN → Int → Option RN
  | 0, x, _ => some x
  | l + 1, x, i => if l = 0 then some x else if absentB (x.kid (digB i (l + 1)).toNat) then none else descP l (x.kid (digB i (l + 1)).toNat) i
theorem desc_step {l : Nat} {y : RN} {i : Int} {d : Nat} (hl : 1 < l) (hd : digB i l = d) : descP l y i = if absentB (y.kid d) then none else descP (l - 1) (y.kid d) i := by
  obtain ⟨l, rfl⟩ : ∃ k, l = k + 1 := ⟨l - 1, by omega⟩
  have e : (digB i ((l : Int) + 1)).toNat = d := by
    have : ((l + 1 : Nat) : Int) = (l : Int) + 1 := by omega
    rw [← this, hd]; rfl
  rw [descP, if_neg (by omega), e]
  rfl
def leafP (h : Int) (x : RN) (i : Int) : Option RN :=
  if checkP h x = 0 ∧ 0 ≤ i ∧ i < 1073741824 ∧ i / 2 ^ (3 * h).toNat ≤ 0 ∧ 0 < h then descP h.toNat x i else none
def LeafPost (h : Int) (x : RN) (i : Int) (w : World) (e : Ending) (w' : World) : Prop :=
  ∃ cs ok y, e = .returned (.tuple #[.agg cs, .bool ok]) ∧ RdVals w' cs 11 (encN y) ∧ ok = (leafP h x i).isSome ∧ (∀ z, leafP h x i = some z → y = z) ∧ Below w.heap.size w w'
theorem LeafPost.no {h : Int} {x : RN} {i : Int} {w w' : World} {cs : Array Value} {y : RN} (hn : leafP h x i = none) (hr : RdVals w' cs 11 (encN y)) (hb : Below w.heap.size w w') :
    LeafPost h x i w (.returned (.tuple #[.agg cs, .bool false])) w' := ⟨cs, false, y, rfl, hr, by simp [hn], by simp [hn], hb⟩
theorem LeafPost.yes {h : Int} {x : RN} {i : Int} {w w' : World} {cs : Array Value} {y : RN} (hn : leafP h x i = some y) (hr : RdVals w' cs 11 (encN y)) (hb : Below w.heap.size w w') :
    LeafPost h x i w (.returned (.tuple #[.agg cs, .bool true])) w' := ⟨cs, true, y, rfl, hr, by simp [hn], fun z hz => Option.some.inj (hn.symm.trans hz), hb⟩
theorem rd_zeroN (w : World) : RdVals w #[.int .i64 0, .int .i64 0, .int .i64 0, .int .i64 0, .int .i64 0, .int .i64 0, .int .i64 0, .int .i64 0, .int .i64 0, .int .i64 0, .slice none 0 0] 11 (encN zeroN) :=
  rdN_shut (x := zeroN) (s := .slice none 0 0) ⟨none, 0, rfl, Nat.le_refl _, by decide, fun h => absurd h (by simp [zeroN, RN.n])⟩

set_option maxRecDepth 100000 in
set_option maxHeartbeats 1000000 in
theorem p_leaf_no (cs : Array Value) (ht : Int) (x : RN) (i : Int) (w : World) (h : RdVals w cs 12 (encR ht x)) (hi : -9223372036854775808 ≤ i) (hi' : i ≤ 9223372036854775807)
    (hno : checkP ht x ≠ 0 ∨ i < 0 ∨ 1073741824 ≤ i ∨ 0 < i / 2 ^ (3 * ht).toNat) :
    Calls Try.prog 81 #[.agg cs, .int .i64 i] w (LeafPost ht x i w) := by
  have hl : leafP ht x i = none := by unfold leafP; rw [if_neg]; omega
  obtain ⟨A, cap, rfl, hk⟩ := rdR_open h
  have HR := Lib.hid h
  have HL := Lib.hid hl
  clear h hk hl
  by_cases hc : checkP ht x = 0
  · have hb : 0 ≤ ht ∧ ht ≤ 10 := by
      unfold checkP at hc
      split at hc <;> omega
    have hcb : (checkP ht x != 0) = false := by simp [hc]
    have hno' : i < 0 ∨ 1073741824 ≤ i ∨ 0 < i / 2 ^ (3 * ht).toNat := by omega
    have h0 := hb.1
    have h10 := hb.2
    clear hc hb hno
    rcases hno' with hno | hno | hno
    all_goals
      go_enter Try.func81, Try.ntmps81
      go_wp2_with (go_at_call 19; refine (p_Check _ ht x _ ?_).mono ?_; exact HR.out.keep (below_keeps (by (repeat' (first | (with_reducible exact Below.refl _ _) | (with_reducible assumption) | (with_reducible refine below_plus ?_ ?_ _) | (with_reducible refine Below.alloc ?_ ?_ _) | (with_reducible refine Below.drew ?_) | (with_reducible refine below_drewN ?_ _) | (with_reducible refine Below.setCell ?_ ?_ _) | (first | omega | (simp only [World.size_alloc, size_plus, World.size_drew, World.size_setCell] <;> omega) | (simp <;> omega)) | omega | (simp; omega))))); rintro e w' ⟨rfl, hb⟩; (first | (obtain ⟨X, rfl⟩ := plus_again hb) | (obtain ⟨X, rfl⟩ := plus_of_below hb)); clear hb)
      all_goals refine bodyPost_ret (v := .tuple #[.agg #[.int .i64 0, .int .i64 0, .int .i64 0, .int .i64 0, .int .i64 0, .int .i64 0, .int .i64 0, .int .i64 0, .int .i64 0, .int .i64 0, .slice none 0 0], .bool false]) (by simp [results, Try.results81, go_sem]) rfl (LeafPost.no HL.out (rd_zeroN _) (by (repeat' (first | (with_reducible exact Below.refl _ _) | (with_reducible assumption) | (with_reducible refine below_plus ?_ ?_ _) | (with_reducible refine Below.alloc ?_ ?_ _) | (with_reducible refine Below.drew ?_) | (with_reducible refine below_drewN ?_ _) | (with_reducible refine Below.setCell ?_ ?_ _) | (first | omega | (simp only [World.size_alloc, size_plus, World.size_drew, World.size_setCell] <;> omega) | (simp <;> omega)) | omega | (simp; omega)))))
  · have hcb : (checkP ht x != 0) = true := by simp [hc]
    clear hc hno
    go_enter Try.func81, Try.ntmps81
    go_wp2_with (go_at_call 19; refine (p_Check _ ht x _ ?_).mono ?_; exact HR.out.keep (below_keeps (by (repeat' (first | (with_reducible exact Below.refl _ _) | (with_reducible assumption) | (with_reducible refine below_plus ?_ ?_ _) | (with_reducible refine Below.alloc ?_ ?_ _) | (with_reducible refine Below.drew ?_) | (with_reducible refine below_drewN ?_ _) | (with_reducible refine Below.setCell ?_ ?_ _) | (first | omega | (simp only [World.size_alloc, size_plus, World.size_drew, World.size_setCell] <;> omega) | (simp <;> omega)) | omega | (simp; omega))))); rintro e w' ⟨rfl, hb⟩; (first | (obtain ⟨X, rfl⟩ := plus_again hb) | (obtain ⟨X, rfl⟩ := plus_of_below hb)); clear hb)
    refine bodyPost_ret (v := .tuple #[.agg #[.int .i64 0, .int .i64 0, .int .i64 0, .int .i64 0, .int .i64 0, .int .i64 0, .int .i64 0, .int .i64 0, .int .i64 0, .int .i64 0, .slice none 0 0], .bool false]) (by simp [results, Try.results81, go_sem]) rfl (LeafPost.no HL.out (rd_zeroN _) (by (repeat' (first | (with_reducible exact Below.refl _ _) | (with_reducible assumption) | (with_reducible refine below_plus ?_ ?_ _) | (with_reducible refine Below.alloc ?_ ?_ _) | (with_reducible refine Below.drew ?_) | (with_reducible refine below_drewN ?_ _) | (with_reducible refine Below.setCell ?_ ?_ _) | (first | omega | (simp only [World.size_alloc, size_plus, World.size_drew, World.size_setCell] <;> omega) | (simp <;> omega)) | omega | (simp; omega)))))

theorem valid_kid {y : RN} {l : Int} (h : validB y l = true) (hl : 1 < l) {i : Nat} (hi : i < 8) (ha : absentB (y.kid i) = false) : validB (y.kid i) (l - 1) = true := by
  rw [validB_eq] at h
  simp only [validW, Bool.and_eq_true] at h
  have := h.1.1.2
  simp only [okTo, List.all_eq_true] at this
  have := this i (by simpa using hi)
  simp [okB, hl, ha] at this
  exact this.1.2

set_option maxRecDepth 100000 in
set_option maxHeartbeats 1000000 in
theorem p_leaf_yes (cs : Array Value) (ht : Int) (x : RN) (i : Int) (w : World) (h : RdVals w cs 12 (encR ht x)) (hc : checkP ht x = 0) (i0 : 0 ≤ i) (i1 : i < 1073741824) (i2 : i / 2 ^ (3 * ht).toNat ≤ 0) :
    Calls Try.prog 81 #[.agg cs, .int .i64 i] w (LeafPost ht x i w) := by
  obtain ⟨A, cap, rfl, hk⟩ := rdR_open h
  have hb : 0 ≤ ht ∧ ht ≤ 10 := by
    unfold checkP at hc
    split at hc <;> omega
  have hcb : (checkP ht x != 0) = false := by simp [hc]
  have h0 := hb.1
  have h10 := hb.2
  have HR := Lib.hid h
  have HC := Lib.hid hc
  have hcap := (encK_n hk).2
  have HK := Lib.hid hk
  clear h hc hb hk
  by_cases hz : ht = 0
  · have hl : leafP ht x i = none := by simp [leafP, hz]
    have HL := Lib.hid hl
    subst hz
    have hi0 : i ≤ 0 := by simpa using i2
    clear hl i2
    go_enter Try.func81, Try.ntmps81
    go_wp2_with (go_at_call 19; refine (p_Check _ 0 x _ ?_).mono ?_; exact HR.out.keep (below_keeps (by (repeat' (first | (with_reducible exact Below.refl _ _) | (with_reducible assumption) | (with_reducible refine below_plus ?_ ?_ _) | (with_reducible refine Below.alloc ?_ ?_ _) | (with_reducible refine Below.drew ?_) | (with_reducible refine below_drewN ?_ _) | (with_reducible refine Below.setCell ?_ ?_ _) | (first | omega | (simp only [World.size_alloc, size_plus, World.size_drew, World.size_setCell] <;> omega) | (simp <;> omega)) | omega | (simp; omega))))); rintro e w' ⟨rfl, hb⟩; (first | (obtain ⟨X, rfl⟩ := plus_again hb) | (obtain ⟨X, rfl⟩ := plus_of_below hb)); clear hb)
    refine wp_loop_rounds 1 ?_
    rw [rounds_succ]
    go_wp2_with fail
    go_region
    go_wp2_with fail
    refine bodyPost_ret (v := .tuple #[.agg (cellsN x (.slice A x.n cap)), .bool false]) (by simp [results, Try.results81, go_sem, cellsN]) rfl (LeafPost.no HL.out (rdN_shut (HK.out.below (by (repeat' (first | (with_reducible exact Below.refl _ _) | (with_reducible assumption) | (with_reducible refine below_plus ?_ ?_ _) | (with_reducible refine Below.alloc ?_ ?_ _) | (with_reducible refine Below.drew ?_) | (with_reducible refine below_drewN ?_ _) | (with_reducible refine Below.setCell ?_ ?_ _) | (first | omega | (simp only [World.size_alloc, size_plus, World.size_drew, World.size_setCell] <;> omega) | (simp <;> omega)) | omega | (simp; omega)))))) (by (repeat' (first | (with_reducible exact Below.refl _ _) | (with_reducible assumption) | (with_reducible refine below_plus ?_ ?_ _) | (with_reducible refine Below.alloc ?_ ?_ _) | (with_reducible refine Below.drew ?_) | (with_reducible refine below_drewN ?_ _) | (with_reducible refine Below.setCell ?_ ?_ _) | (first | omega | (simp only [World.size_alloc, size_plus, World.size_drew, World.size_setCell] <;> omega) | (simp <;> omega)) | omega | (simp; omega)))))
  · have h1 : 1 ≤ ht := by omega
    have hv : validB x ht = true := by
      have := HC.out
      unfold checkP at this
      rw [if_neg (by omega), if_neg hz] at this
      by_cases hv : validB x ht = true
      · exact hv
      · rw [if_neg hv] at this; omega
    have HL : Hid (leafP ht x i = descP ht.toNat x i) := by unfold leafP; exact if_pos ⟨HC.out, i0, i1, i2, by omega⟩
    have HV := Lib.hid hv
    clear hv
    go_enter Try.func81, Try.ntmps81
    go_wp2_with (go_at_call 19; refine (p_Check _ ht x _ ?_).mono ?_; exact HR.out.keep (below_keeps (by (repeat' (first | (with_reducible exact Below.refl _ _) | (with_reducible assumption) | (with_reducible refine below_plus ?_ ?_ _) | (with_reducible refine Below.alloc ?_ ?_ _) | (with_reducible refine Below.drew ?_) | (with_reducible refine below_drewN ?_ _) | (with_reducible refine Below.setCell ?_ ?_ _) | (first | omega | (simp only [World.size_alloc, size_plus, World.size_drew, World.size_setCell] <;> omega) | (simp <;> omega)) | omega | (simp; omega))))); rintro e w' ⟨rfl, hb⟩; (first | (obtain ⟨X, rfl⟩ := plus_again hb) | (obtain ⟨X, rfl⟩ := plus_of_below hb)); clear hb)
    go_loopw [7] (fun lv wr => ∃ (l : Nat) (y : RN) (A2 : Option Addr) (cap2 : Nat) (Z : Extra), 1 ≤ l ∧ l ≤ 10 ∧ lv = .int .i64 l ∧ descP l y i = descP ht.toNat x i ∧ validB y l = true ∧ RdC w (encK y) (.slice A2 y.n cap2) ∧
      wr = ((((w.alloc (.cells (cellsR ht x (.slice A x.n cap)) 28)).alloc (.cells #[.int .i64 0, .int .i64 0, .int .i64 0, .int .i64 0, .int .i64 0, .int .i64 0, .int .i64 0, .int .i64 0, .int .i64 0, .int .i64 0, .slice none 0 0] 26)).plus X).alloc (.cells (cellsN y (.slice A2 y.n cap2)) 26)).plus Z) (fun lv _ => (intOf lv).toNat)
    case atStart => exact ⟨ht.toNat, x, A, cap, _, by omega, by omega, by rw [show ((ht.toNat : Nat) : Int) = ht by omega], rfl, by rw [show ((ht.toNat : Nat) : Int) = ht by omega]; exact HV.out, HK.out, (plus_self _).symm⟩
    case round =>
      obtain ⟨l, y, A2, cap2, Z, hl1, hl2, rfl, hd, hvy, hky, rfl⟩ := hrel
      have hcap2 := (encK_n hky).2
      have HD := Lib.hid hd
      have HVY := Lib.hid hvy
      have HKY := Lib.hid hky
      clear hd hvy hky
      by_cases hlt : 1 < l
      · have hyn := valid_n HVY.out (by omega)
        have hy8 : 8 ≤ y.n := by omega
        obtain ⟨d, hdd⟩ : ∃ d : Nat, digB i l = d := ⟨(digB i l).toNat, by have := digB_lt i l; omega⟩
        have hd8 : d < 8 := by have := digB_lt i l; omega
        have Hdig : ∀ W, Calls Try.prog 82 #[.int .i64 i, .int .i64 l] W fun e w' => e = .returned (.int .i64 (d : Int)) ∧ w' = W := fun W => (p_digit i l W i0 i1 (by omega) (by omega)).mono fun e w' ⟨he, hw⟩ => ⟨by rw [he, hdd], hw.symm⟩
        obtain ⟨g, b, s, rfl, hgl, hks, hvk, hck⟩ := encK_kid (i := d) HKY.out (by omega)
        have hrow := row11 hck
        have hd2 : d < y.n := by omega
        have hd1 : (d : Int) < (y.n : Int) := by omega
        have HDIG := Lib.hid Hdig
        have HDD := Lib.hid hdd
        clear Hdig hdd hyn hck
        go_wp2_with fail
        refine wp_region_still_tail 7 (by kernel_rfl) (by kernel_rfl) ?_
        simp only [World.drew_eq, plus_drew, List.take_succ_cons, List.take_zero, List.drop_succ_cons, List.drop_zero]
        still_step
        still_step
        still_step
        still_step
        still_call (HDIG.out _)
        still_step
        still_step
        refine wpStill_nil ?_
        have hks4 := hks
        obtain ⟨A3, cap3, rfl, hks3⟩ := hks4
        have HKS := Lib.hid hks
        clear hks
        have HV3 := Lib.hid hvk
        clear hvk hks3
        cases hak : absentB (y.kid d)
        all_goals
          go_wp2_with (first
            | ((with_reducible refine wpList_storeN_plus (.tmp 6) (.tmp 42) ?_ ?_ (w.heap.size + 1 + 1 + X.objs.size) ?_ (y.kid d) A3 (y.kid d).n cap3 ?_ ?_ ?_ ?_); (with_reducible rfl); rfl; rfl; rfl; rfl; (focus (first | omega | (simp only [World.size_alloc, size_plus, World.size_drew, World.size_setCell] <;> omega) | (simp <;> omega))))
            | (go_at_call 67; refine (p_absent _ (y.kid d) _ ?_).mono ?_; exact HV3.out.keep (below_keeps (by (repeat' (first | (with_reducible exact Below.refl _ _) | (with_reducible assumption) | (with_reducible refine below_plus ?_ ?_ _) | (with_reducible refine Below.alloc ?_ ?_ _) | (with_reducible refine Below.drew ?_) | (with_reducible refine below_drewN ?_ _) | (with_reducible refine Below.setCell ?_ ?_ _) | (first | omega | (simp only [World.size_alloc, size_plus, World.size_drew, World.size_setCell] <;> omega) | (simp <;> omega)) | omega | (simp; omega))))); rintro e w' ⟨rfl, hb⟩; (first | (obtain ⟨X, rfl⟩ := plus_again hb) | (obtain ⟨X, rfl⟩ := plus_of_below hb)); clear hb; rw [hak]))
        · have hcast : ((l - 1 : Nat) : Int) = (l : Int) - 1 := by omega
          exact ⟨⟨l - 1, y.kid d, A3, cap3, X, by omega, by omega, by rw [hcast], by rw [← HD.out, desc_step hlt HDD.out, hak]; rfl, by rw [hcast]; exact valid_kid HVY.out (by omega) hd8 hak, HKS.out, rfl⟩, by simp [intOf]; omega⟩
        · have hl : leafP ht x i = none := by rw [HL.out, ← HD.out, desc_step hlt HDD.out, hak]; rfl
          refine bodyPost_ret (v := .tuple #[.agg #[.int .i64 0, .int .i64 0, .int .i64 0, .int .i64 0, .int .i64 0, .int .i64 0, .int .i64 0, .int .i64 0, .int .i64 0, .int .i64 0, .slice none 0 0], .bool false]) (by simp [results, Try.results81, go_sem]) rfl (LeafPost.no hl (rd_zeroN _) (by (repeat' (first | (with_reducible exact Below.refl _ _) | (with_reducible assumption) | (with_reducible refine below_plus ?_ ?_ _) | (with_reducible refine Below.alloc ?_ ?_ _) | (with_reducible refine Below.drew ?_) | (with_reducible refine below_drewN ?_ _) | (with_reducible refine Below.setCell ?_ ?_ _) | (first | omega | (simp only [World.size_alloc, size_plus, World.size_drew, World.size_setCell] <;> omega) | (simp <;> omega)) | omega | (simp; omega)))))
      · obtain rfl : l = 1 := by omega
        go_wp2_with fail
        go_region
        go_wp2_with fail
        have hl : leafP ht x i = some y := by rw [HL.out, ← HD.out]; simp [descP]
        have hht : decide (0 < ht) = true := by simp; omega
        refine bodyPost_ret (v := .tuple #[.agg (cellsN y (.slice A2 y.n cap2)), .bool true]) (by simp [results, Try.results81, go_sem, cellsN, hht]; try omega) rfl (LeafPost.yes hl (rdN_shut (HKY.out.below (by (repeat' (first | (with_reducible exact Below.refl _ _) | (with_reducible assumption) | (with_reducible refine below_plus ?_ ?_ _) | (with_reducible refine Below.alloc ?_ ?_ _) | (with_reducible refine Below.drew ?_) | (with_reducible refine below_drewN ?_ _) | (with_reducible refine Below.setCell ?_ ?_ _) | (first | omega | (simp only [World.size_alloc, size_plus, World.size_drew, World.size_setCell] <;> omega) | (simp <;> omega)) | omega | (simp; omega)))))) (by (repeat' (first | (with_reducible exact Below.refl _ _) | (with_reducible assumption) | (with_reducible refine below_plus ?_ ?_ _) | (with_reducible refine Below.alloc ?_ ?_ _) | (with_reducible refine Below.drew ?_) | (with_reducible refine below_drewN ?_ _) | (with_reducible refine Below.setCell ?_ ?_ _) | (first | omega | (simp only [World.size_alloc, size_plus, World.size_drew, World.size_setCell] <;> omega) | (simp <;> omega)) | omega | (simp; omega)))))
/-- radix.leaf, for every tree and every int. -/
theorem p_leaf (cs : Array Value) (ht : Int) (x : RN) (i : Int) (w : World) (h : RdVals w cs 12 (encR ht x)) (hi : -9223372036854775808 ≤ i) (hi' : i ≤ 9223372036854775807) :
    Calls Try.prog 81 #[.agg cs, .int .i64 i] w (LeafPost ht x i w) := by
  by_cases hno : checkP ht x ≠ 0 ∨ i < 0 ∨ 1073741824 ≤ i ∨ 0 < i / 2 ^ (3 * ht).toNat
  · exact p_leaf_no cs ht x i w h hi hi' hno
  · exact p_leaf_yes cs ht x i w h (by omega) (by omega) (by omega) (by omega)

end Go.Proofs.Ytcicfijpfhbcaaa
namespace Go.Proofs.Ytcicfijpfhbcaaa
set_option linter.unusedSimpArgs false
set_option linter.unusedVariables false
set_option linter.unusedSectionVars false
open Go.RowKit

/-- What radix.Get answers. -/
def getP (h : Int) (x : RN) (i : Int) : Int := match leafP h x i with | some y => y.v (digB i 1).toNat | none => 0
/-- What radix.Tagged answers. -/
def taggedP (h : Int) (x : RN) (i tag : Int) : Bool :=
  match leafP h x i with | some y => (tag == 0 || tag == 1) && y.v (digB i 1).toNat != 0 && bitB (y.t tag.toNat) (digB i 1).toNat | none => false
theorem leafP_in {h : Int} {x y : RN} {i : Int} (hl : leafP h x i = some y) : 0 ≤ i ∧ i < 1073741824 := by
  unfold leafP at hl
  split at hl
  · omega
  · cases hl

set_option maxRecDepth 100000 in
set_option maxHeartbeats 1000000 in
theorem p_Get (cs : Array Value) (ht : Int) (x : RN) (i : Int) (w : World) (h : RdVals w cs 12 (encR ht x)) (hi : -9223372036854775808 ≤ i) (hi' : i ≤ 9223372036854775807) :
    Calls Try.prog 26 #[.agg cs, .int .i64 i] w fun e w' => e = .returned (.int .i64 (getP ht x i)) ∧ Below w.heap.size w w' := by
  obtain ⟨A, cap, rfl, hk⟩ := rdR_open h
  have HR := Lib.hid h
  clear h hk
  cases hl : leafP ht x i with
  | none =>
    have HG : Hid (getP ht x i = 0) := by unfold Hid getP; rw [hl]
    have HL := Lib.hid hl
    clear hl
    go_enter Try.func26, Try.ntmps26
    go_wp2_with (go_at_call 81; refine (p_leaf _ ht x i _ ?_ hi hi').mono ?_; exact HR.out.keep (below_keeps (by (repeat' (first | (with_reducible exact Below.refl _ _) | (with_reducible assumption) | (with_reducible refine below_plus ?_ ?_ _) | (with_reducible refine Below.alloc ?_ ?_ _) | (with_reducible refine Below.drew ?_) | (with_reducible refine below_drewN ?_ _) | (with_reducible refine Below.setCell ?_ ?_ _) | (first | omega | (simp only [World.size_alloc, size_plus, World.size_drew, World.size_setCell] <;> omega) | (simp <;> omega)) | omega | (simp; omega))))); rintro e w' ⟨cs', ok, y, rfl, hr, hok, -, hb⟩; obtain ⟨X, rfl⟩ := plus_of_below hb; clear hb; obtain ⟨A', cap', rfl, -⟩ := rdN_open hr; (have hok' : ok = false := by rw [hok, HL.out]; rfl); subst hok'; clear hok hr)
    go_ret
    exact ⟨by rw [HG.out]; rfl, by (repeat' (first | (with_reducible exact Below.refl _ _) | (with_reducible assumption) | (with_reducible refine below_plus ?_ ?_ _) | (with_reducible refine Below.alloc ?_ ?_ _) | (with_reducible refine Below.drew ?_) | (with_reducible refine below_drewN ?_ _) | (with_reducible refine Below.setCell ?_ ?_ _) | (first | omega | (simp only [World.size_alloc, size_plus, World.size_drew, World.size_setCell] <;> omega) | (simp <;> omega)) | omega | (simp; omega)))⟩
  | some y0 =>
    obtain ⟨i0, i1⟩ := leafP_in hl
    obtain ⟨d, hdd⟩ : ∃ d : Nat, digB i 1 = d := ⟨(digB i 1).toNat, by have := digB_lt i 1; omega⟩
    have hd8 : d < 8 := by have := digB_lt i 1; omega
    have HG : Hid (getP ht x i = y0.v d) := by unfold Hid getP; rw [hl, hdd]; rfl
    have HDIG : Hid (∀ W, Calls Try.prog 82 #[.int .i64 i, .int .i64 1] W fun e w' => e = .returned (.int .i64 (d : Int)) ∧ W = w') := fun W => (p_digit i 1 W i0 i1 (by omega) (by omega)).mono fun e w' ⟨he, hw⟩ => ⟨by rw [he, hdd], hw⟩
    have HL := Lib.hid hl
    have hv := fun s => listN_v y0 s d hd8
    have hd2 : (d : Int) < 8 := by omega
    clear hl hdd
    go_enter Try.func26, Try.ntmps26
    go_wp2_with (first
      | (go_at_call 81; refine (p_leaf _ ht x i _ ?_ hi hi').mono ?_; exact HR.out.keep (below_keeps (by (repeat' (first | (with_reducible exact Below.refl _ _) | (with_reducible assumption) | (with_reducible refine below_plus ?_ ?_ _) | (with_reducible refine Below.alloc ?_ ?_ _) | (with_reducible refine Below.drew ?_) | (with_reducible refine below_drewN ?_ _) | (with_reducible refine Below.setCell ?_ ?_ _) | (first | omega | (simp only [World.size_alloc, size_plus, World.size_drew, World.size_setCell] <;> omega) | (simp <;> omega)) | omega | (simp; omega))))); rintro e w' ⟨cs', ok, y, rfl, hr, hok, hy, hb⟩; obtain ⟨X, rfl⟩ := plus_of_below hb; clear hb; (have hok' : ok = true := by rw [hok, HL.out]; rfl); subst hok'; (have hy' := hy _ HL.out); subst hy'; clear hok hy; obtain ⟨A', cap', rfl, -⟩ := rdN_open hr; clear hr)
      | (go_at_call 82; refine (HDIG.out _).mono ?_; rintro e w' ⟨rfl, rfl⟩))
    go_ret
    exact ⟨by rw [HG.out]; rfl, by (repeat' (first | (with_reducible exact Below.refl _ _) | (with_reducible assumption) | (with_reducible refine below_plus ?_ ?_ _) | (with_reducible refine Below.alloc ?_ ?_ _) | (with_reducible refine Below.drew ?_) | (with_reducible refine below_drewN ?_ _) | (with_reducible refine Below.setCell ?_ ?_ _) | (first | omega | (simp only [World.size_alloc, size_plus, World.size_drew, World.size_setCell] <;> omega) | (simp <;> omega)) | omega | (simp; omega)))⟩

set_option maxRecDepth 100000 in
set_option maxHeartbeats 1000000 in
theorem p_Tagged (cs : Array Value) (ht : Int) (x : RN) (i tag : Int) (w : World) (h : RdVals w cs 12 (encR ht x)) (hi : -9223372036854775808 ≤ i) (hi' : i ≤ 9223372036854775807) :
    Calls Try.prog 29 #[.agg cs, .int .i64 i, .int .i64 tag] w fun e w' => e = .returned (.bool (taggedP ht x i tag)) ∧ Below w.heap.size w w' := by
  obtain ⟨A, cap, rfl, hk⟩ := rdR_open h
  have HR := Lib.hid h
  clear h hk
  cases hl : leafP ht x i with
  | none =>
    have HG : Hid (taggedP ht x i tag = false) := by unfold Hid taggedP; rw [hl]
    have HL := Lib.hid hl
    clear hl
    go_enter Try.func29, Try.ntmps29
    go_wp2_with (go_at_call 81; refine (p_leaf _ ht x i _ ?_ hi hi').mono ?_; exact HR.out.keep (below_keeps (by (repeat' (first | (with_reducible exact Below.refl _ _) | (with_reducible assumption) | (with_reducible refine below_plus ?_ ?_ _) | (with_reducible refine Below.alloc ?_ ?_ _) | (with_reducible refine Below.drew ?_) | (with_reducible refine below_drewN ?_ _) | (with_reducible refine Below.setCell ?_ ?_ _) | (first | omega | (simp only [World.size_alloc, size_plus, World.size_drew, World.size_setCell] <;> omega) | (simp <;> omega)) | omega | (simp; omega))))); rintro e w' ⟨cs', ok, y, rfl, hr, hok, -, hb⟩; obtain ⟨X, rfl⟩ := plus_of_below hb; clear hb; obtain ⟨A', cap', rfl, -⟩ := rdN_open hr; (have hok' : ok = false := by rw [hok, HL.out]; rfl); subst hok'; clear hok hr)
    (refine wp_region_quiet_plus (by kernel_rfl) (by kernel_rfl) ?_; (repeat (go_big_quiet_step (fail))); refine wpQuiet_nil ?_; intro _)
    go_wp2_with fail
    go_ret
    exact ⟨by rw [HG.out]; rfl, by (repeat' (first | (with_reducible exact Below.refl _ _) | (with_reducible assumption) | (with_reducible refine below_plus ?_ ?_ _) | (with_reducible refine Below.alloc ?_ ?_ _) | (with_reducible refine Below.drew ?_) | (with_reducible refine below_drewN ?_ _) | (with_reducible refine Below.setCell ?_ ?_ _) | (first | omega | (simp only [World.size_alloc, size_plus, World.size_drew, World.size_setCell] <;> omega) | (simp <;> omega)) | omega | (simp; omega)))⟩
  | some y0 =>
    obtain ⟨i0, i1⟩ := leafP_in hl
    obtain ⟨d, hdd⟩ : ∃ d : Nat, digB i 1 = d := ⟨(digB i 1).toNat, by have := digB_lt i 1; omega⟩
    have hd8 : d < 8 := by have := digB_lt i 1; omega
    have HG : Hid (taggedP ht x i tag = ((tag == 0 || tag == 1) && y0.v d != 0 && bitB (y0.t tag.toNat) d)) := by unfold Hid taggedP; rw [hl, hdd]; rfl
    have HDIG : Hid (∀ W, Calls Try.prog 82 #[.int .i64 i, .int .i64 1] W fun e w' => e = .returned (.int .i64 (d : Int)) ∧ W = w') := fun W => (p_digit i 1 W i0 i1 (by omega) (by omega)).mono fun e w' ⟨he, hw⟩ => ⟨by rw [he, hdd], hw⟩
    have HL := Lib.hid hl
    have hv := fun s => listN_v y0 s d hd8
    have hd2 : (d : Int) < 8 := by omega
    clear hl hdd
    by_cases htag : tag = 0 ∨ tag = 1
    · cases hv0 : (y0.v d != 0)
      all_goals
        rcases htag with rfl | rfl
        all_goals
          go_enter Try.func29, Try.ntmps29
          go_wp2_with (go_at_call 81; refine (p_leaf _ ht x i _ ?_ hi hi').mono ?_; exact HR.out.keep (below_keeps (by (repeat' (first | (with_reducible exact Below.refl _ _) | (with_reducible assumption) | (with_reducible refine below_plus ?_ ?_ _) | (with_reducible refine Below.alloc ?_ ?_ _) | (with_reducible refine Below.drew ?_) | (with_reducible refine below_drewN ?_ _) | (with_reducible refine Below.setCell ?_ ?_ _) | (first | omega | (simp only [World.size_alloc, size_plus, World.size_drew, World.size_setCell] <;> omega) | (simp <;> omega)) | omega | (simp; omega))))); rintro e w' ⟨cs', ok, y, rfl, hr, hok, hy, hb⟩; obtain ⟨X, rfl⟩ := plus_of_below hb; clear hb; (have hok' : ok = true := by rw [hok, HL.out]; rfl); subst hok'; (have hy' := hy _ HL.out); subst hy'; clear hok hy; obtain ⟨A', cap', rfl, -⟩ := rdN_open hr; clear hr)
          (refine wp_region_quiet_plus (by kernel_rfl) (by kernel_rfl) ?_; (repeat (go_big_quiet_step ((go_at_call 82; exact Calls.quiet_plus_same (HDIG.out _))))); refine wpQuiet_nil ?_; intro _)
          go_wp2_with fail
          go_ret
          exact ⟨by rw [HG.out, hv0]; first | rfl | simp, by (repeat' (first | (with_reducible exact Below.refl _ _) | (with_reducible assumption) | (with_reducible refine below_plus ?_ ?_ _) | (with_reducible refine Below.alloc ?_ ?_ _) | (with_reducible refine Below.drew ?_) | (with_reducible refine below_drewN ?_ _) | (with_reducible refine Below.setCell ?_ ?_ _) | (first | omega | (simp only [World.size_alloc, size_plus, World.size_drew, World.size_setCell] <;> omega) | (simp <;> omega)) | omega | (simp; omega)))⟩
    · have ht0 : (tag == 0) = false := by simp; omega
      have ht1 : (tag == 1) = false := by simp; omega
      go_enter Try.func29, Try.ntmps29
      go_wp2_with (go_at_call 81; refine (p_leaf _ ht x i _ ?_ hi hi').mono ?_; exact HR.out.keep (below_keeps (by (repeat' (first | (with_reducible exact Below.refl _ _) | (with_reducible assumption) | (with_reducible refine below_plus ?_ ?_ _) | (with_reducible refine Below.alloc ?_ ?_ _) | (with_reducible refine Below.drew ?_) | (with_reducible refine below_drewN ?_ _) | (with_reducible refine Below.setCell ?_ ?_ _) | (first | omega | (simp only [World.size_alloc, size_plus, World.size_drew, World.size_setCell] <;> omega) | (simp <;> omega)) | omega | (simp; omega))))); rintro e w' ⟨cs', ok, y, rfl, hr, hok, hy, hb⟩; obtain ⟨X, rfl⟩ := plus_of_below hb; clear hb; (have hok' : ok = true := by rw [hok, HL.out]; rfl); subst hok'; (have hy' := hy _ HL.out); subst hy'; clear hok hy; obtain ⟨A', cap', rfl, -⟩ := rdN_open hr; clear hr)
      (refine wp_region_quiet_plus (by kernel_rfl) (by kernel_rfl) ?_; (repeat (go_big_quiet_step (fail))); refine wpQuiet_nil ?_; intro _)
      go_wp2_with fail
      go_ret
      exact ⟨by rw [HG.out, ht0, ht1]; rfl, by (repeat' (first | (with_reducible exact Below.refl _ _) | (with_reducible assumption) | (with_reducible refine below_plus ?_ ?_ _) | (with_reducible refine Below.alloc ?_ ?_ _) | (with_reducible refine Below.drew ?_) | (with_reducible refine below_drewN ?_ _) | (with_reducible refine Below.setCell ?_ ?_ _) | (first | omega | (simp only [World.size_alloc, size_plus, World.size_drew, World.size_setCell] <;> omega) | (simp <;> omega)) | omega | (simp; omega)))⟩

end Go.Proofs.Ytcicfijpfhbcaaa
