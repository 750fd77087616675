/-
  The reference of filecache: Frame, Shadow, NextDirty, Frames.
-/
import Derived.Test.YtcicfijpfhbcaaaGq
import Derived.Test.YtcicfijpfhbcaaaFe
namespace Go.Proofs.Ytcicfijpfhbcaaa
set_option linter.unusedSimpArgs false
set_option linter.unusedVariables false
set_option linter.unusedSectionVars false
open Go.RowKit


set_option maxRecDepth 100000 in
set_option maxHeartbeats 1000000 in
theorem d_Frame (cs : Array Value) (ht : Int) (x : RN) (i : Int) (w : World) (hr : RdVals w cs 12 (encR ht x)) (hv : vOk ht x) :
    Calls Try.prog 44 #[.agg cs, .int .i64 i] w fun e w' => e = .returned (.int .i64 (frameP ht x i)) ∧ Below w.heap.size w w' := by
  obtain ⟨A, cap, rfl, hk⟩ := rdR_open hr
  have HR := Lib.hid hr
  have hb := hv i
  have HG := Lib.hid (rdG ht x i)
  have hf : Hid (frameP ht x i = if fcI ht x i ≠ 0 then -1 else if 0 < getP ht x i then getP ht x i - 1 else -1) := rfl
  clear hr hk hv
  generalize fcI ht x i = ci at *
  generalize getP ht x i = v at *
  by_cases hc : ci ≠ 0
  · rw [if_pos hc] at hf
    have hcb : (ci != 0) = true := by simp [hc]
    clear hc
    go_enter Try.func44, Try.ntmps44
    go_wp2_with (go_at_call 92; refine (HG.out.ck _ _ ?_).mono ?_; exact HR.out.keep (below_keeps (by (repeat' (first | (with_reducible exact Below.refl _ _) | (with_reducible assumption) | (with_reducible refine below_plus ?_ ?_ _) | (with_reducible refine Below.alloc ?_ ?_ _) | (with_reducible refine Below.drew ?_) | (with_reducible refine below_drewN ?_ _) | (with_reducible refine Below.setCell ?_ ?_ _) | (first | omega | (simp only [World.size_alloc, size_plus, World.size_drew, World.size_setCell] <;> omega) | (simp <;> omega)) | omega | (simp; omega))))); rintro e w' ⟨rfl, hb⟩; (first | (obtain ⟨X, rfl⟩ := plus_again hb) | (obtain ⟨X, rfl⟩ := plus_of_below hb)); clear hb)
    go_ret
    exact ⟨by rw [hf.out]; rfl, by (repeat' (first | (with_reducible exact Below.refl _ _) | (with_reducible assumption) | (with_reducible refine below_plus ?_ ?_ _) | (with_reducible refine Below.alloc ?_ ?_ _) | (with_reducible refine Below.drew ?_) | (with_reducible refine below_drewN ?_ _) | (with_reducible refine Below.setCell ?_ ?_ _) | (first | omega | (simp only [World.size_alloc, size_plus, World.size_drew, World.size_setCell] <;> omega) | (simp <;> omega)) | omega | (simp; omega)))⟩
  · rw [if_neg hc] at hf
    have hcb : (ci != 0) = false := by simpa using hc
    clear hc
    by_cases h0 : 0 < v
    · rw [if_pos h0] at hf
      go_enter Try.func44, Try.ntmps44
      go_wp2_with (first | (go_at_call 92; refine (HG.out.ck _ _ ?_).mono ?_; exact HR.out.keep (below_keeps (by (repeat' (first | (with_reducible exact Below.refl _ _) | (with_reducible assumption) | (with_reducible refine below_plus ?_ ?_ _) | (with_reducible refine Below.alloc ?_ ?_ _) | (with_reducible refine Below.drew ?_) | (with_reducible refine below_drewN ?_ _) | (with_reducible refine Below.setCell ?_ ?_ _) | (first | omega | (simp only [World.size_alloc, size_plus, World.size_drew, World.size_setCell] <;> omega) | (simp <;> omega)) | omega | (simp; omega))))); rintro e w' ⟨rfl, hb⟩; (first | (obtain ⟨X, rfl⟩ := plus_again hb) | (obtain ⟨X, rfl⟩ := plus_of_below hb)); clear hb) | (go_at_call 27; refine (HG.out.get _ _ ?_).mono ?_; exact HR.out.keep (below_keeps (by (repeat' (first | (with_reducible exact Below.refl _ _) | (with_reducible assumption) | (with_reducible refine below_plus ?_ ?_ _) | (with_reducible refine Below.alloc ?_ ?_ _) | (with_reducible refine Below.drew ?_) | (with_reducible refine below_drewN ?_ _) | (with_reducible refine Below.setCell ?_ ?_ _) | (first | omega | (simp only [World.size_alloc, size_plus, World.size_drew, World.size_setCell] <;> omega) | (simp <;> omega)) | omega | (simp; omega))))); rintro e w' ⟨rfl, hb⟩; (first | (obtain ⟨X, rfl⟩ := plus_again hb) | (obtain ⟨X, rfl⟩ := plus_of_below hb)); clear hb))
      go_ret
      exact ⟨by rw [hf.out]; rfl, by (repeat' (first | (with_reducible exact Below.refl _ _) | (with_reducible assumption) | (with_reducible refine below_plus ?_ ?_ _) | (with_reducible refine Below.alloc ?_ ?_ _) | (with_reducible refine Below.drew ?_) | (with_reducible refine below_drewN ?_ _) | (with_reducible refine Below.setCell ?_ ?_ _) | (first | omega | (simp only [World.size_alloc, size_plus, World.size_drew, World.size_setCell] <;> omega) | (simp <;> omega)) | omega | (simp; omega)))⟩
    · rw [if_neg h0] at hf
      go_enter Try.func44, Try.ntmps44
      go_wp2_with (first | (go_at_call 92; refine (HG.out.ck _ _ ?_).mono ?_; exact HR.out.keep (below_keeps (by (repeat' (first | (with_reducible exact Below.refl _ _) | (with_reducible assumption) | (with_reducible refine below_plus ?_ ?_ _) | (with_reducible refine Below.alloc ?_ ?_ _) | (with_reducible refine Below.drew ?_) | (with_reducible refine below_drewN ?_ _) | (with_reducible refine Below.setCell ?_ ?_ _) | (first | omega | (simp only [World.size_alloc, size_plus, World.size_drew, World.size_setCell] <;> omega) | (simp <;> omega)) | omega | (simp; omega))))); rintro e w' ⟨rfl, hb⟩; (first | (obtain ⟨X, rfl⟩ := plus_again hb) | (obtain ⟨X, rfl⟩ := plus_of_below hb)); clear hb) | (go_at_call 27; refine (HG.out.get _ _ ?_).mono ?_; exact HR.out.keep (below_keeps (by (repeat' (first | (with_reducible exact Below.refl _ _) | (with_reducible assumption) | (with_reducible refine below_plus ?_ ?_ _) | (with_reducible refine Below.alloc ?_ ?_ _) | (with_reducible refine Below.drew ?_) | (with_reducible refine below_drewN ?_ _) | (with_reducible refine Below.setCell ?_ ?_ _) | (first | omega | (simp only [World.size_alloc, size_plus, World.size_drew, World.size_setCell] <;> omega) | (simp <;> omega)) | omega | (simp; omega))))); rintro e w' ⟨rfl, hb⟩; (first | (obtain ⟨X, rfl⟩ := plus_again hb) | (obtain ⟨X, rfl⟩ := plus_of_below hb)); clear hb))
      go_ret
      exact ⟨by rw [hf.out]; rfl, by (repeat' (first | (with_reducible exact Below.refl _ _) | (with_reducible assumption) | (with_reducible refine below_plus ?_ ?_ _) | (with_reducible refine Below.alloc ?_ ?_ _) | (with_reducible refine Below.drew ?_) | (with_reducible refine below_drewN ?_ _) | (with_reducible refine Below.setCell ?_ ?_ _) | (first | omega | (simp only [World.size_alloc, size_plus, World.size_drew, World.size_setCell] <;> omega) | (simp <;> omega)) | omega | (simp; omega)))⟩

set_option maxRecDepth 100000 in
set_option maxHeartbeats 1000000 in
theorem d_Shadow (cs : Array Value) (ht : Int) (x : RN) (i : Int) (w : World) (hr : RdVals w cs 12 (encR ht x)) (hv : vOk ht x) :
    Calls Try.prog 46 #[.agg cs, .int .i64 i] w fun e w' => e = .returned (.int .i64 (shadowP ht x i)) ∧ Below w.heap.size w w' := by
  obtain ⟨A, cap, rfl, hk⟩ := rdR_open hr
  have HR := Lib.hid hr
  have hb := hv i
  have HG := Lib.hid (rdG ht x i)
  have hf : Hid (shadowP ht x i = if fcI ht x i ≠ 0 then -1 else if getP ht x i < 0 then -1 - getP ht x i else -1) := rfl
  clear hr hk hv
  generalize fcI ht x i = ci at *
  generalize getP ht x i = v at *
  by_cases hc : ci ≠ 0
  · rw [if_pos hc] at hf
    have hcb : (ci != 0) = true := by simp [hc]
    clear hc
    go_enter Try.func46, Try.ntmps46
    go_wp2_with (go_at_call 92; refine (HG.out.ck _ _ ?_).mono ?_; exact HR.out.keep (below_keeps (by (repeat' (first | (with_reducible exact Below.refl _ _) | (with_reducible assumption) | (with_reducible refine below_plus ?_ ?_ _) | (with_reducible refine Below.alloc ?_ ?_ _) | (with_reducible refine Below.drew ?_) | (with_reducible refine below_drewN ?_ _) | (with_reducible refine Below.setCell ?_ ?_ _) | (first | omega | (simp only [World.size_alloc, size_plus, World.size_drew, World.size_setCell] <;> omega) | (simp <;> omega)) | omega | (simp; omega))))); rintro e w' ⟨rfl, hb⟩; (first | (obtain ⟨X, rfl⟩ := plus_again hb) | (obtain ⟨X, rfl⟩ := plus_of_below hb)); clear hb)
    go_ret
    exact ⟨by rw [hf.out]; rfl, by (repeat' (first | (with_reducible exact Below.refl _ _) | (with_reducible assumption) | (with_reducible refine below_plus ?_ ?_ _) | (with_reducible refine Below.alloc ?_ ?_ _) | (with_reducible refine Below.drew ?_) | (with_reducible refine below_drewN ?_ _) | (with_reducible refine Below.setCell ?_ ?_ _) | (first | omega | (simp only [World.size_alloc, size_plus, World.size_drew, World.size_setCell] <;> omega) | (simp <;> omega)) | omega | (simp; omega)))⟩
  · rw [if_neg hc] at hf
    have hcb : (ci != 0) = false := by simpa using hc
    clear hc
    by_cases h0 : v < 0
    · rw [if_pos h0] at hf
      go_enter Try.func46, Try.ntmps46
      go_wp2_with (first | (go_at_call 92; refine (HG.out.ck _ _ ?_).mono ?_; exact HR.out.keep (below_keeps (by (repeat' (first | (with_reducible exact Below.refl _ _) | (with_reducible assumption) | (with_reducible refine below_plus ?_ ?_ _) | (with_reducible refine Below.alloc ?_ ?_ _) | (with_reducible refine Below.drew ?_) | (with_reducible refine below_drewN ?_ _) | (with_reducible refine Below.setCell ?_ ?_ _) | (first | omega | (simp only [World.size_alloc, size_plus, World.size_drew, World.size_setCell] <;> omega) | (simp <;> omega)) | omega | (simp; omega))))); rintro e w' ⟨rfl, hb⟩; (first | (obtain ⟨X, rfl⟩ := plus_again hb) | (obtain ⟨X, rfl⟩ := plus_of_below hb)); clear hb) | (go_at_call 27; refine (HG.out.get _ _ ?_).mono ?_; exact HR.out.keep (below_keeps (by (repeat' (first | (with_reducible exact Below.refl _ _) | (with_reducible assumption) | (with_reducible refine below_plus ?_ ?_ _) | (with_reducible refine Below.alloc ?_ ?_ _) | (with_reducible refine Below.drew ?_) | (with_reducible refine below_drewN ?_ _) | (with_reducible refine Below.setCell ?_ ?_ _) | (first | omega | (simp only [World.size_alloc, size_plus, World.size_drew, World.size_setCell] <;> omega) | (simp <;> omega)) | omega | (simp; omega))))); rintro e w' ⟨rfl, hb⟩; (first | (obtain ⟨X, rfl⟩ := plus_again hb) | (obtain ⟨X, rfl⟩ := plus_of_below hb)); clear hb))
      go_ret
      exact ⟨by rw [hf.out]; rfl, by (repeat' (first | (with_reducible exact Below.refl _ _) | (with_reducible assumption) | (with_reducible refine below_plus ?_ ?_ _) | (with_reducible refine Below.alloc ?_ ?_ _) | (with_reducible refine Below.drew ?_) | (with_reducible refine below_drewN ?_ _) | (with_reducible refine Below.setCell ?_ ?_ _) | (first | omega | (simp only [World.size_alloc, size_plus, World.size_drew, World.size_setCell] <;> omega) | (simp <;> omega)) | omega | (simp; omega)))⟩
    · rw [if_neg h0] at hf
      go_enter Try.func46, Try.ntmps46
      go_wp2_with (first | (go_at_call 92; refine (HG.out.ck _ _ ?_).mono ?_; exact HR.out.keep (below_keeps (by (repeat' (first | (with_reducible exact Below.refl _ _) | (with_reducible assumption) | (with_reducible refine below_plus ?_ ?_ _) | (with_reducible refine Below.alloc ?_ ?_ _) | (with_reducible refine Below.drew ?_) | (with_reducible refine below_drewN ?_ _) | (with_reducible refine Below.setCell ?_ ?_ _) | (first | omega | (simp only [World.size_alloc, size_plus, World.size_drew, World.size_setCell] <;> omega) | (simp <;> omega)) | omega | (simp; omega))))); rintro e w' ⟨rfl, hb⟩; (first | (obtain ⟨X, rfl⟩ := plus_again hb) | (obtain ⟨X, rfl⟩ := plus_of_below hb)); clear hb) | (go_at_call 27; refine (HG.out.get _ _ ?_).mono ?_; exact HR.out.keep (below_keeps (by (repeat' (first | (with_reducible exact Below.refl _ _) | (with_reducible assumption) | (with_reducible refine below_plus ?_ ?_ _) | (with_reducible refine Below.alloc ?_ ?_ _) | (with_reducible refine Below.drew ?_) | (with_reducible refine below_drewN ?_ _) | (with_reducible refine Below.setCell ?_ ?_ _) | (first | omega | (simp only [World.size_alloc, size_plus, World.size_drew, World.size_setCell] <;> omega) | (simp <;> omega)) | omega | (simp; omega))))); rintro e w' ⟨rfl, hb⟩; (first | (obtain ⟨X, rfl⟩ := plus_again hb) | (obtain ⟨X, rfl⟩ := plus_of_below hb)); clear hb))
      go_ret
      exact ⟨by rw [hf.out]; rfl, by (repeat' (first | (with_reducible exact Below.refl _ _) | (with_reducible assumption) | (with_reducible refine below_plus ?_ ?_ _) | (with_reducible refine Below.alloc ?_ ?_ _) | (with_reducible refine Below.drew ?_) | (with_reducible refine below_drewN ?_ _) | (with_reducible refine Below.setCell ?_ ?_ _) | (first | omega | (simp only [World.size_alloc, size_plus, World.size_drew, World.size_setCell] <;> omega) | (simp <;> omega)) | omega | (simp; omega)))⟩

theorem dirtyP_neg (ht : Int) (x : RN) (i : Int) (h : i < 0) : dirtyP ht x i = -1 := by
  unfold dirtyP nextP
  rw [if_pos h]
  split <;> rfl
set_option maxRecDepth 100000 in
set_option maxHeartbeats 1000000 in
theorem d_NextDirty (cs : Array Value) (ht : Int) (x : RN) (i : Int) (w : World) (hr : RdVals w cs 12 (encR ht x)) :
    Calls Try.prog 48 #[.agg cs, .int .i64 i] w fun e w' => e = .returned (.int .i64 (dirtyP ht x i)) ∧ Below w.heap.size w w' := by
  obtain ⟨A, cap, rfl, hk⟩ := rdR_open hr
  have HR := Lib.hid hr
  have HC : Hid (∀ cs W, RdVals W cs 12 (encR ht x) → Calls Try.prog 42 #[.agg cs] W fun e w' => e = .returned (.int .i64 (fcP ht x)) ∧ Below W.heap.size W w') := fun cs W h => d_Check cs ht x W h
  have HN : Hid (∀ cs W, RdVals W cs 12 (encR ht x) → Calls Try.prog 36 #[.agg cs, .int .i64 i, .int .i64 0] W fun e w' => e = .returned (.int .i64 (nextP ht x i 0)) ∧ Below W.heap.size W w') := fun cs W h => by rw [next_ref]; exact r_Next cs ht x i 0 W h
  have hf : Hid (dirtyP ht x i = if fcP ht x ≠ 0 then -1 else nextP ht x i 0) := rfl
  have hng : Hid (i < 0 → dirtyP ht x i = -1) := dirtyP_neg ht x i
  clear hr hk
  generalize fcP ht x = ci at *
  generalize nextP ht x i 0 = v at *
  generalize dirtyP ht x i = dp at *
  by_cases hc : ci ≠ 0
  · rw [if_pos hc] at hf
    have hcb : (ci != 0) = true := by simp [hc]
    clear hc
    go_enter Try.func48, Try.ntmps48
    go_wp2_with (go_at_call 42; refine (HC.out _ _ ?_).mono ?_; exact HR.out.keep (below_keeps (by (repeat' (first | (with_reducible exact Below.refl _ _) | (with_reducible assumption) | (with_reducible refine below_plus ?_ ?_ _) | (with_reducible refine Below.alloc ?_ ?_ _) | (with_reducible refine Below.drew ?_) | (with_reducible refine below_drewN ?_ _) | (with_reducible refine Below.setCell ?_ ?_ _) | (first | omega | (simp only [World.size_alloc, size_plus, World.size_drew, World.size_setCell] <;> omega) | (simp <;> omega)) | omega | (simp; omega))))); rintro e w' ⟨rfl, hb⟩; (first | (obtain ⟨X, rfl⟩ := plus_again hb) | (obtain ⟨X, rfl⟩ := plus_of_below hb)); clear hb)
    go_ret
    exact ⟨by rw [hf.out]; rfl, by (repeat' (first | (with_reducible exact Below.refl _ _) | (with_reducible assumption) | (with_reducible refine below_plus ?_ ?_ _) | (with_reducible refine Below.alloc ?_ ?_ _) | (with_reducible refine Below.drew ?_) | (with_reducible refine below_drewN ?_ _) | (with_reducible refine Below.setCell ?_ ?_ _) | (first | omega | (simp only [World.size_alloc, size_plus, World.size_drew, World.size_setCell] <;> omega) | (simp <;> omega)) | omega | (simp; omega)))⟩
  · rw [if_neg hc] at hf
    have hcb : (ci != 0) = false := by simpa using hc
    clear hc
    by_cases h0 : i < 0
    · have hf2 := Lib.hid (hng.out h0)
      go_enter Try.func48, Try.ntmps48
      go_wp2_with (go_at_call 42; refine (HC.out _ _ ?_).mono ?_; exact HR.out.keep (below_keeps (by (repeat' (first | (with_reducible exact Below.refl _ _) | (with_reducible assumption) | (with_reducible refine below_plus ?_ ?_ _) | (with_reducible refine Below.alloc ?_ ?_ _) | (with_reducible refine Below.drew ?_) | (with_reducible refine below_drewN ?_ _) | (with_reducible refine Below.setCell ?_ ?_ _) | (first | omega | (simp only [World.size_alloc, size_plus, World.size_drew, World.size_setCell] <;> omega) | (simp <;> omega)) | omega | (simp; omega))))); rintro e w' ⟨rfl, hb⟩; (first | (obtain ⟨X, rfl⟩ := plus_again hb) | (obtain ⟨X, rfl⟩ := plus_of_below hb)); clear hb)
      go_ret
      exact ⟨by rw [hf2.out]; rfl, by (repeat' (first | (with_reducible exact Below.refl _ _) | (with_reducible assumption) | (with_reducible refine below_plus ?_ ?_ _) | (with_reducible refine Below.alloc ?_ ?_ _) | (with_reducible refine Below.drew ?_) | (with_reducible refine below_drewN ?_ _) | (with_reducible refine Below.setCell ?_ ?_ _) | (first | omega | (simp only [World.size_alloc, size_plus, World.size_drew, World.size_setCell] <;> omega) | (simp <;> omega)) | omega | (simp; omega)))⟩
    · go_enter Try.func48, Try.ntmps48
      go_wp2_with (first | (go_at_call 42; refine (HC.out _ _ ?_).mono ?_; exact HR.out.keep (below_keeps (by (repeat' (first | (with_reducible exact Below.refl _ _) | (with_reducible assumption) | (with_reducible refine below_plus ?_ ?_ _) | (with_reducible refine Below.alloc ?_ ?_ _) | (with_reducible refine Below.drew ?_) | (with_reducible refine below_drewN ?_ _) | (with_reducible refine Below.setCell ?_ ?_ _) | (first | omega | (simp only [World.size_alloc, size_plus, World.size_drew, World.size_setCell] <;> omega) | (simp <;> omega)) | omega | (simp; omega))))); rintro e w' ⟨rfl, hb⟩; (first | (obtain ⟨X, rfl⟩ := plus_again hb) | (obtain ⟨X, rfl⟩ := plus_of_below hb)); clear hb) | (go_at_call 36; refine (HN.out _ _ ?_).mono ?_; exact HR.out.keep (below_keeps (by (repeat' (first | (with_reducible exact Below.refl _ _) | (with_reducible assumption) | (with_reducible refine below_plus ?_ ?_ _) | (with_reducible refine Below.alloc ?_ ?_ _) | (with_reducible refine Below.drew ?_) | (with_reducible refine below_drewN ?_ _) | (with_reducible refine Below.setCell ?_ ?_ _) | (first | omega | (simp only [World.size_alloc, size_plus, World.size_drew, World.size_setCell] <;> omega) | (simp <;> omega)) | omega | (simp; omega))))); rintro e w' ⟨rfl, hb⟩; (first | (obtain ⟨X, rfl⟩ := plus_again hb) | (obtain ⟨X, rfl⟩ := plus_of_below hb)); clear hb))
      go_ret
      exact ⟨by rw [hf.out]; rfl, by (repeat' (first | (with_reducible exact Below.refl _ _) | (with_reducible assumption) | (with_reducible refine below_plus ?_ ?_ _) | (with_reducible refine Below.alloc ?_ ?_ _) | (with_reducible refine Below.drew ?_) | (with_reducible refine below_drewN ?_ _) | (with_reducible refine Below.setCell ?_ ?_ _) | (first | omega | (simp only [World.size_alloc, size_plus, World.size_drew, World.size_setCell] <;> omega) | (simp <;> omega)) | omega | (simp; omega)))⟩

set_option maxRecDepth 100000 in
set_option maxHeartbeats 1000000 in
theorem d_Frames (cs : Array Value) (ht : Int) (x : RN) (w : World) (hr : RdVals w cs 12 (encR ht x)) (hv : vOk ht x) :
    Calls Try.prog 51 #[.agg cs] w fun e w' => ∃ v, e = .returned v ∧ OwnI w' w.heap.size (framesP ht x) v ∧ Below w.heap.size w w' := by
  obtain ⟨A, cap, rfl, hk⟩ := rdR_open hr
  have HR := Lib.hid hr
  have HV := Lib.hid hv
  clear hr hk hv
  by_cases hc : fcP ht x ≠ 0
  · have hf : Hid (framesP ht x = []) := if_pos hc
    have hcb : (fcP ht x != 0) = true := by simp [hc]
    clear hc
    go_enter Try.func51, Try.ntmps51
    go_wp2_with (go_at_call 42; refine (d_Check _ ht x _ ?_).mono ?_; exact HR.out.keep (below_keeps (by (repeat' (first | (with_reducible exact Below.refl _ _) | (with_reducible assumption) | (with_reducible refine below_plus ?_ ?_ _) | (with_reducible refine Below.alloc ?_ ?_ _) | (with_reducible refine Below.drew ?_) | (with_reducible refine below_drewN ?_ _) | (with_reducible refine Below.setCell ?_ ?_ _) | (first | omega | (simp only [World.size_alloc, size_plus, World.size_drew, World.size_setCell] <;> omega) | (simp <;> omega)) | omega | (simp; omega))))); rintro e w' ⟨rfl, hb⟩; (first | (obtain ⟨X, rfl⟩ := plus_again hb) | (obtain ⟨X, rfl⟩ := plus_of_below hb)); clear hb)
    go_ret
    exact ⟨_, rfl, by rw [hf.out]; exact OwnI.nil _ _, by (repeat' (first | (with_reducible exact Below.refl _ _) | (with_reducible assumption) | (with_reducible refine below_plus ?_ ?_ _) | (with_reducible refine Below.alloc ?_ ?_ _) | (with_reducible refine Below.drew ?_) | (with_reducible refine below_drewN ?_ _) | (with_reducible refine Below.setCell ?_ ?_ _) | (first | omega | (simp only [World.size_alloc, size_plus, World.size_drew, World.size_setCell] <;> omega) | (simp <;> omega)) | omega | (simp; omega)))⟩
  · have hcb : (fcP ht x != 0) = false := by simpa using hc
    have hf : Hid (framesP ht x = framesL ht x (eachL ht x (-1))) := if_neg hc
    clear hc
    have hlen := len_each ht x
    have HLI : Hid (∀ cs W, RdVals W cs 12 (encR ht x) → Calls Try.prog 39 #[.agg cs] W fun e w' => ∃ v, e = .returned v ∧ OwnI w' W.heap.size (eachL ht x (-1)) v ∧ Below W.heap.size W w') := fun cs W h => by
      have := r_List cs ht x W h
      rwa [← each_list] at this
    have HGT : Hid (∀ i cs W, RdVals W cs 12 (encR ht x) → Calls Try.prog 27 #[.agg cs, .int .i64 i] W fun e w' => e = .returned (.int .i64 (getP ht x i)) ∧ Below W.heap.size W w') := fun i cs W h => by
      rw [get_ref]; exact r_Get cs ht x i W h
    generalize eachL ht x (-1) = L at *
    have hlenI : (L.length : Int) ≤ 1073741824 := by omega
    go_enter Try.func51, Try.ntmps51
    go_wp2_with (first
      | (go_at_call 42; refine (d_Check _ ht x _ ?_).mono ?_; exact HR.out.keep (below_keeps (by (repeat' (first | (with_reducible exact Below.refl _ _) | (with_reducible assumption) | (with_reducible refine below_plus ?_ ?_ _) | (with_reducible refine Below.alloc ?_ ?_ _) | (with_reducible refine Below.drew ?_) | (with_reducible refine below_drewN ?_ _) | (with_reducible refine Below.setCell ?_ ?_ _) | (first | omega | (simp only [World.size_alloc, size_plus, World.size_drew, World.size_setCell] <;> omega) | (simp <;> omega)) | omega | (simp; omega))))); rintro e w' ⟨rfl, hb⟩; (first | (obtain ⟨X, rfl⟩ := plus_again hb) | (obtain ⟨X, rfl⟩ := plus_of_below hb)); clear hb)
      | (go_at_call 39; (with_reducible refine (HLI.out _ _ ?_).mono ?_); exact HR.out.keep (below_keeps (by (repeat' (first | (with_reducible exact Below.refl _ _) | (with_reducible assumption) | (with_reducible refine below_plus ?_ ?_ _) | (with_reducible refine Below.alloc ?_ ?_ _) | (with_reducible refine Below.drew ?_) | (with_reducible refine below_drewN ?_ _) | (with_reducible refine Below.setCell ?_ ?_ _) | (first | omega | (simp only [World.size_alloc, size_plus, World.size_drew, World.size_setCell] <;> omega) | (simp <;> omega)) | omega | (simp; omega))))); rintro e V ⟨v, rfl, ho, hb⟩; (obtain ⟨A1, cap1, rfl, -, -⟩ := ho.slice); (have HBX := Lib.hid ((hb.block w.heap.size (by (first | omega | (simp only [World.size_alloc, size_plus, World.size_drew, World.size_setCell] <;> omega) | (simp <;> omega)))).trans (by (repeat' (first | (refine heap_alloc_here _ _ _ ?_; (first | omega | (simp only [World.size_alloc, size_plus, World.size_drew, World.size_setCell] <;> omega) | (simp <;> omega))) | (refine (heap_alloc_old _ _ _ ?_).trans ?_; (first | omega | (simp only [World.size_alloc, size_plus, World.size_drew, World.size_setCell] <;> omega) | (simp <;> omega))) | (refine (heap_plus _ _ _ ?_).trans ?_; (first | omega | (simp only [World.size_alloc, size_plus, World.size_drew, World.size_setCell] <;> omega) | (simp <;> omega))) | rfl))) : V.heap[w.heap.size]? = some (.cells (cellsR ht x (.slice A x.n cap)) 28 (0, 0)))); have HO := Lib.hid ho; (have HB := Lib.hid ((by (repeat' (first | (with_reducible exact Below.refl _ _) | (with_reducible assumption) | (with_reducible refine below_plus ?_ ?_ _) | (with_reducible refine Below.alloc ?_ ?_ _) | (with_reducible refine Below.drew ?_) | (with_reducible refine below_drewN ?_ _) | (with_reducible refine Below.setCell ?_ ?_ _) | (first | omega | (simp only [World.size_alloc, size_plus, World.size_drew, World.size_setCell] <;> omega) | (simp <;> omega)) | omega | (simp; omega))) : Below w.heap.size w _).trans (hb.mono (by (first | omega | (simp only [World.size_alloc, size_plus, World.size_drew, World.size_setCell] <;> omega) | (simp <;> omega)))))); clear ho hb))
    go_loopw [3, 13] (fun v i wr => ∃ k : Nat, k ≤ L.length ∧ i = .int .i64 k ∧ OwnI wr V.heap.size (framesL ht x (L.take k)) v ∧ Below V.heap.size V wr) (fun _ i _ => L.length - (intOf i).toNat)
    case atStart => exact ⟨0, by omega, rfl, OwnI.nil _ _, Below.refl _ _⟩
    case round =>
      obtain ⟨k, hk, rfl, hI, hbl⟩ := hrel
      by_cases hlt : k < L.length
      · have hlt' : (k : Int) < (L.length : Int) := by omega
        have hg : L[k]? = some L[k] := List.getElem?_eq_getElem hlt
        obtain ⟨g, cap', hs, -, hgw, ci⟩ := (HO.out.below hbl).at hg
        injection hs with e1 e2 e3
        subst e1 e3
        have hbox : wr.heap[w.heap.size]? = some (.cells (cellsR ht x (.slice A x.n cap)) 28 (0, 0)) := (hbl.block _ (lt_of_heap HBX.out)).trans HBX.out
        have d12 := row12 hbox
        have hlB := lt_of_heap hbox
        have hst : L.take (k + 1) = L.take k ++ [L[k]] := by rw [List.take_add_one, hg]; rfl
        have hfs := frames_snoc ht x (L.take k) L[k]
        rw [← hst] at hfs
        have HRW : Hid (RdVals wr (cellsR ht x (.slice A x.n cap)) 12 (encR ht x)) := HR.out.keep (below_keeps (HB.out.trans (hbl.mono HB.out.size)))
        have HBL := Lib.hid hbl
        have HI := Lib.hid hI
        have hll : (framesL ht x (L.take k)).length ≤ 1073741824 := by
          have := frames_len ht x (L.take k)
          rw [List.length_take] at this
          omega
        have hsz := hbl.size
        have hvb := HV.out L[k]
        have HLB := Lib.hid hlB
        have HBOX := Lib.hid hbox
        clear hbl hbox hg hst e2 hI
        generalize L[k] = i at *
        have HGI := Lib.hid (HGT.out i)
        generalize framesL ht x (L.take k) = lf at *
        generalize getP ht x i = v at *
        by_cases h0 : 0 < v
        · rw [if_pos h0] at hfs
          have HF := Lib.hid hfs
          clear hfs
          go_wp2_with (first
            | (go_at_call 27; (with_reducible refine (HGI.out _ _ ?_).mono ?_); exact HRW.out.keep (below_keeps (by (repeat' (first | (with_reducible exact Below.refl _ _) | (with_reducible assumption) | (with_reducible refine below_plus ?_ ?_ _) | (with_reducible refine Below.alloc ?_ ?_ _) | (with_reducible refine Below.drew ?_) | (with_reducible refine below_drewN ?_ _) | (with_reducible refine Below.setCell ?_ ?_ _) | (first | omega | (simp only [World.size_alloc, size_plus, World.size_drew, World.size_setCell] <;> omega) | (simp <;> omega)) | omega | (simp; omega))))); rintro e W2 ⟨rfl, hb2⟩; (have HB2 : Hid (Below V.heap.size V W2) := HBL.out.trans (hb2.mono hsz)); (have HO2 := Lib.hid (HI.out.below hb2)); (have hsz2 : V.heap.size ≤ W2.heap.size := HB2.out.size); clear hb2)
            | ((with_reducible refine wpList_appendI ?_ (.tmp 22) (.tmp 25) ?_ V.heap.size lf _ ?_ HO2.out (v - 1) _ ?_ hsz2 hll ?_); rfl; (with_reducible rfl); rfl; rfl; (intro v2 W3 ha); have HA := Lib.hid ha; clear ha))
          exact ⟨⟨k + 1, by omega, by go_num, by rw [HF.out]; exact HA.out.own, (HB2.out.alloc hsz2 _).trans HA.out.below⟩, by simp [intOf]; omega⟩
        · rw [if_neg h0] at hfs
          have HF := Lib.hid hfs
          clear hfs
          go_wp2_with (go_at_call 27; (with_reducible refine (HGI.out _ _ ?_).mono ?_); exact HRW.out.keep (below_keeps (by (repeat' (first | (with_reducible exact Below.refl _ _) | (with_reducible assumption) | (with_reducible refine below_plus ?_ ?_ _) | (with_reducible refine Below.alloc ?_ ?_ _) | (with_reducible refine Below.drew ?_) | (with_reducible refine below_drewN ?_ _) | (with_reducible refine Below.setCell ?_ ?_ _) | (first | omega | (simp only [World.size_alloc, size_plus, World.size_drew, World.size_setCell] <;> omega) | (simp <;> omega)) | omega | (simp; omega))))); rintro e W2 ⟨rfl, hb2⟩; (have HB2 : Hid (Below V.heap.size V W2) := HBL.out.trans (hb2.mono hsz)); (have HO2 := Lib.hid (HI.out.below hb2)); clear hb2)
          exact ⟨⟨k + 1, by omega, by go_num, by rw [HF.out]; exact HO2.out, HB2.out⟩, by simp [intOf]; omega⟩
      · obtain rfl : k = L.length := by omega
        have HBL := Lib.hid hbl
        have HI := Lib.hid (hI.mono HB.out.size)
        clear hbl hI
        go_wp2_with fail
        go_ret
        have := HI.out
        rw [List.take_length, ← hf.out] at this
        exact ⟨_, rfl, this, HB.out.trans (HBL.out.mono HB.out.size)⟩
end Go.Proofs.Ytcicfijpfhbcaaa
