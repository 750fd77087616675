/-
  radix.Get, Tagged.
-/
import Derived.Test.YtcicfijpfhbcaaaPg
namespace Go.Proofs.Ytcicfijpfhbcaaa
set_option linter.unusedSimpArgs false
set_option linter.unusedVariables false
set_option linter.unusedSectionVars false
open Go.RowKit

/-- What radix.Get answers. -/
def getP (h : Int) (x : RN) (i : Int) : Int := match leafP h x i with | some y => y.v (digB i 1).toNat | none => 0
/-- What radix.Tagged answers. -/
def taggedP (h : Int) (x : RN) (i tag : Int) : Bool :=
  match leafP h x i with | some y => (tag == 0 || tag == 1) && y.v (digB i 1).toNat != 0 && bitB (y.t tag.toNat) (digB i 1).toNat | none => false
theorem leafP_in {h : Int} {x y : RN} {i : Int} (hl : leafP h x i = some y) : 0 ≤ i ∧ i < 1073741824 := by
  unfold leafP at hl
  split at hl
  · omega
  · cases hl

set_option maxRecDepth 100000 in
set_option maxHeartbeats 1000000 in
theorem p_Get (cs : Array Value) (ht : Int) (x : RN) (i : Int) (w : World) (h : RdVals w cs 12 (encR ht x)) (hi : -9223372036854775808 ≤ i) (hi' : i ≤ 9223372036854775807) :
    Calls Try.prog 26 #[.agg cs, .int .i64 i] w fun e w' => e = .returned (.int .i64 (getP ht x i)) ∧ Below w.heap.size w w' := by
  obtain ⟨A, cap, rfl, hk⟩ := rdR_open h
  have HR := Lib.hid h
  clear h hk
  cases hl : leafP ht x i with
  | none =>
    have HG : Hid (getP ht x i = 0) := by unfold Hid getP; rw [hl]
    have HL := Lib.hid hl
    clear hl
    go_enter Try.func26, Try.ntmps26
    go_wp2_with (go_at_call 81; refine (p_leaf _ ht x i _ ?_ hi hi').mono ?_; exact HR.out.keep (below_keeps (by (repeat' (first | (with_reducible exact Below.refl _ _) | (with_reducible assumption) | (with_reducible refine below_plus ?_ ?_ _) | (with_reducible refine Below.alloc ?_ ?_ _) | (with_reducible refine Below.drew ?_) | (with_reducible refine below_drewN ?_ _) | (with_reducible refine Below.setCell ?_ ?_ _) | (first | omega | (simp only [World.size_alloc, size_plus, World.size_drew, World.size_setCell] <;> omega) | (simp <;> omega)) | omega | (simp; omega))))); rintro e w' ⟨cs', ok, y, rfl, hr, hok, -, hb⟩; obtain ⟨X, rfl⟩ := plus_of_below hb; clear hb; obtain ⟨A', cap', rfl, -⟩ := rdN_open hr; (have hok' : ok = false := by rw [hok, HL.out]; rfl); subst hok'; clear hok hr)
    go_ret
    exact ⟨by rw [HG.out]; rfl, by (repeat' (first | (with_reducible exact Below.refl _ _) | (with_reducible assumption) | (with_reducible refine below_plus ?_ ?_ _) | (with_reducible refine Below.alloc ?_ ?_ _) | (with_reducible refine Below.drew ?_) | (with_reducible refine below_drewN ?_ _) | (with_reducible refine Below.setCell ?_ ?_ _) | (first | omega | (simp only [World.size_alloc, size_plus, World.size_drew, World.size_setCell] <;> omega) | (simp <;> omega)) | omega | (simp; omega)))⟩
  | some y0 =>
    obtain ⟨i0, i1⟩ := leafP_in hl
    obtain ⟨d, hdd⟩ : ∃ d : Nat, digB i 1 = d := ⟨(digB i 1).toNat, by have := digB_lt i 1; omega⟩
    have hd8 : d < 8 := by have := digB_lt i 1; omega
    have HG : Hid (getP ht x i = y0.v d) := by unfold Hid getP; rw [hl, hdd]; rfl
    have HDIG : Hid (∀ W, Calls Try.prog 82 #[.int .i64 i, .int .i64 1] W fun e w' => e = .returned (.int .i64 (d : Int)) ∧ W = w') := fun W => (p_digit i 1 W i0 i1 (by omega) (by omega)).mono fun e w' ⟨he, hw⟩ => ⟨by rw [he, hdd], hw⟩
    have HL := Lib.hid hl
    have hv := fun s => listN_v y0 s d hd8
    have hd2 : (d : Int) < 8 := by omega
    clear hl hdd
    go_enter Try.func26, Try.ntmps26
    go_wp2_with (first
      | (go_at_call 81; refine (p_leaf _ ht x i _ ?_ hi hi').mono ?_; exact HR.out.keep (below_keeps (by (repeat' (first | (with_reducible exact Below.refl _ _) | (with_reducible assumption) | (with_reducible refine below_plus ?_ ?_ _) | (with_reducible refine Below.alloc ?_ ?_ _) | (with_reducible refine Below.drew ?_) | (with_reducible refine below_drewN ?_ _) | (with_reducible refine Below.setCell ?_ ?_ _) | (first | omega | (simp only [World.size_alloc, size_plus, World.size_drew, World.size_setCell] <;> omega) | (simp <;> omega)) | omega | (simp; omega))))); rintro e w' ⟨cs', ok, y, rfl, hr, hok, hy, hb⟩; obtain ⟨X, rfl⟩ := plus_of_below hb; clear hb; (have hok' : ok = true := by rw [hok, HL.out]; rfl); subst hok'; (have hy' := hy _ HL.out); subst hy'; clear hok hy; obtain ⟨A', cap', rfl, -⟩ := rdN_open hr; clear hr)
      | (go_at_call 82; refine (HDIG.out _).mono ?_; rintro e w' ⟨rfl, rfl⟩))
    go_ret
    exact ⟨by rw [HG.out]; rfl, by (repeat' (first | (with_reducible exact Below.refl _ _) | (with_reducible assumption) | (with_reducible refine below_plus ?_ ?_ _) | (with_reducible refine Below.alloc ?_ ?_ _) | (with_reducible refine Below.drew ?_) | (with_reducible refine below_drewN ?_ _) | (with_reducible refine Below.setCell ?_ ?_ _) | (first | omega | (simp only [World.size_alloc, size_plus, World.size_drew, World.size_setCell] <;> omega) | (simp <;> omega)) | omega | (simp; omega)))⟩

set_option maxRecDepth 100000 in
set_option maxHeartbeats 1000000 in
theorem p_Tagged (cs : Array Value) (ht : Int) (x : RN) (i tag : Int) (w : World) (h : RdVals w cs 12 (encR ht x)) (hi : -9223372036854775808 ≤ i) (hi' : i ≤ 9223372036854775807) :
    Calls Try.prog 29 #[.agg cs, .int .i64 i, .int .i64 tag] w fun e w' => e = .returned (.bool (taggedP ht x i tag)) ∧ Below w.heap.size w w' := by
  obtain ⟨A, cap, rfl, hk⟩ := rdR_open h
  have HR := Lib.hid h
  clear h hk
  cases hl : leafP ht x i with
  | none =>
    have HG : Hid (taggedP ht x i tag = false) := by unfold Hid taggedP; rw [hl]
    have HL := Lib.hid hl
    clear hl
    go_enter Try.func29, Try.ntmps29
    go_wp2_with (go_at_call 81; refine (p_leaf _ ht x i _ ?_ hi hi').mono ?_; exact HR.out.keep (below_keeps (by (repeat' (first | (with_reducible exact Below.refl _ _) | (with_reducible assumption) | (with_reducible refine below_plus ?_ ?_ _) | (with_reducible refine Below.alloc ?_ ?_ _) | (with_reducible refine Below.drew ?_) | (with_reducible refine below_drewN ?_ _) | (with_reducible refine Below.setCell ?_ ?_ _) | (first | omega | (simp only [World.size_alloc, size_plus, World.size_drew, World.size_setCell] <;> omega) | (simp <;> omega)) | omega | (simp; omega))))); rintro e w' ⟨cs', ok, y, rfl, hr, hok, -, hb⟩; obtain ⟨X, rfl⟩ := plus_of_below hb; clear hb; obtain ⟨A', cap', rfl, -⟩ := rdN_open hr; (have hok' : ok = false := by rw [hok, HL.out]; rfl); subst hok'; clear hok hr)
    (refine wp_region_quiet_plus (by kernel_rfl) (by kernel_rfl) ?_; (repeat (go_big_quiet_step (fail))); refine wpQuiet_nil ?_; intro _)
    go_wp2_with fail
    go_ret
    exact ⟨by rw [HG.out]; rfl, by (repeat' (first | (with_reducible exact Below.refl _ _) | (with_reducible assumption) | (with_reducible refine below_plus ?_ ?_ _) | (with_reducible refine Below.alloc ?_ ?_ _) | (with_reducible refine Below.drew ?_) | (with_reducible refine below_drewN ?_ _) | (with_reducible refine Below.setCell ?_ ?_ _) | (first | omega | (simp only [World.size_alloc, size_plus, World.size_drew, World.size_setCell] <;> omega) | (simp <;> omega)) | omega | (simp; omega)))⟩
  | some y0 =>
    obtain ⟨i0, i1⟩ := leafP_in hl
    obtain ⟨d, hdd⟩ : ∃ d : Nat, digB i 1 = d := ⟨(digB i 1).toNat, by have := digB_lt i 1; omega⟩
    have hd8 : d < 8 := by have := digB_lt i 1; omega
    have HG : Hid (taggedP ht x i tag = ((tag == 0 || tag == 1) && y0.v d != 0 && bitB (y0.t tag.toNat) d)) := by unfold Hid taggedP; rw [hl, hdd]; rfl
    have HDIG : Hid (∀ W, Calls Try.prog 82 #[.int .i64 i, .int .i64 1] W fun e w' => e = .returned (.int .i64 (d : Int)) ∧ W = w') := fun W => (p_digit i 1 W i0 i1 (by omega) (by omega)).mono fun e w' ⟨he, hw⟩ => ⟨by rw [he, hdd], hw⟩
    have HL := Lib.hid hl
    have hv := fun s => listN_v y0 s d hd8
    have hd2 : (d : Int) < 8 := by omega
    clear hl hdd
    by_cases htag : tag = 0 ∨ tag = 1
    · cases hv0 : (y0.v d != 0)
      all_goals
        rcases htag with rfl | rfl
        all_goals
          go_enter Try.func29, Try.ntmps29
          go_wp2_with (go_at_call 81; refine (p_leaf _ ht x i _ ?_ hi hi').mono ?_; exact HR.out.keep (below_keeps (by (repeat' (first | (with_reducible exact Below.refl _ _) | (with_reducible assumption) | (with_reducible refine below_plus ?_ ?_ _) | (with_reducible refine Below.alloc ?_ ?_ _) | (with_reducible refine Below.drew ?_) | (with_reducible refine below_drewN ?_ _) | (with_reducible refine Below.setCell ?_ ?_ _) | (first | omega | (simp only [World.size_alloc, size_plus, World.size_drew, World.size_setCell] <;> omega) | (simp <;> omega)) | omega | (simp; omega))))); rintro e w' ⟨cs', ok, y, rfl, hr, hok, hy, hb⟩; obtain ⟨X, rfl⟩ := plus_of_below hb; clear hb; (have hok' : ok = true := by rw [hok, HL.out]; rfl); subst hok'; (have hy' := hy _ HL.out); subst hy'; clear hok hy; obtain ⟨A', cap', rfl, -⟩ := rdN_open hr; clear hr)
          (refine wp_region_quiet_plus (by kernel_rfl) (by kernel_rfl) ?_; (repeat (go_big_quiet_step ((go_at_call 82; exact Calls.quiet_plus_same (HDIG.out _))))); refine wpQuiet_nil ?_; intro _)
          go_wp2_with fail
          go_ret
          exact ⟨by rw [HG.out, hv0]; first | rfl | simp, by (repeat' (first | (with_reducible exact Below.refl _ _) | (with_reducible assumption) | (with_reducible refine below_plus ?_ ?_ _) | (with_reducible refine Below.alloc ?_ ?_ _) | (with_reducible refine Below.drew ?_) | (with_reducible refine below_drewN ?_ _) | (with_reducible refine Below.setCell ?_ ?_ _) | (first | omega | (simp only [World.size_alloc, size_plus, World.size_drew, World.size_setCell] <;> omega) | (simp <;> omega)) | omega | (simp; omega)))⟩
    · have ht0 : (tag == 0) = false := by simp; omega
      have ht1 : (tag == 1) = false := by simp; omega
      go_enter Try.func29, Try.ntmps29
      go_wp2_with (go_at_call 81; refine (p_leaf _ ht x i _ ?_ hi hi').mono ?_; exact HR.out.keep (below_keeps (by (repeat' (first | (with_reducible exact Below.refl _ _) | (with_reducible assumption) | (with_reducible refine below_plus ?_ ?_ _) | (with_reducible refine Below.alloc ?_ ?_ _) | (with_reducible refine Below.drew ?_) | (with_reducible refine below_drewN ?_ _) | (with_reducible refine Below.setCell ?_ ?_ _) | (first | omega | (simp only [World.size_alloc, size_plus, World.size_drew, World.size_setCell] <;> omega) | (simp <;> omega)) | omega | (simp; omega))))); rintro e w' ⟨cs', ok, y, rfl, hr, hok, hy, hb⟩; obtain ⟨X, rfl⟩ := plus_of_below hb; clear hb; (have hok' : ok = true := by rw [hok, HL.out]; rfl); subst hok'; (have hy' := hy _ HL.out); subst hy'; clear hok hy; obtain ⟨A', cap', rfl, -⟩ := rdN_open hr; clear hr)
      (refine wp_region_quiet_plus (by kernel_rfl) (by kernel_rfl) ?_; (repeat (go_big_quiet_step (fail))); refine wpQuiet_nil ?_; intro _)
      go_wp2_with fail
      go_ret
      exact ⟨by rw [HG.out, ht0, ht1]; rfl, by (repeat' (first | (with_reducible exact Below.refl _ _) | (with_reducible assumption) | (with_reducible refine below_plus ?_ ?_ _) | (with_reducible refine Below.alloc ?_ ?_ _) | (with_reducible refine Below.drew ?_) | (with_reducible refine below_drewN ?_ _) | (with_reducible refine Below.setCell ?_ ?_ _) | (first | omega | (simp only [World.size_alloc, size_plus, World.size_drew, World.size_setCell] <;> omega) | (simp <;> omega)) | omega | (simp; omega)))⟩

end Go.Proofs.Ytcicfijpfhbcaaa
