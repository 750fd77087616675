/-
  The reference's small looks at a node: Absent, values, bit, leaf; nodes, Few.
-/
import Derived.Test.YtcicfijpfhbcaaaNode
import Derived.Test.YtcicfijpfhbcaaaValid
namespace Go.Proofs.Ytcicfijpfhbcaaa
set_option linter.unusedSimpArgs false
set_option linter.unusedVariables false
set_option linter.unusedSectionVars false
open Go.RowKit

set_option maxRecDepth 100000 in
set_option maxHeartbeats 1000000 in
theorem r_Absent (cs : Array Value) (x : RN) (w : World) (h : RdVals w cs 11 (encN x)) :
    Calls Try.prog 69 #[.agg cs] w fun e w' => e = .returned (.bool (absentB x)) ∧ Below w.heap.size w w' := by
  obtain ⟨A, cap, rfl, hk⟩ := rdN_open h
  have hcap := (encK_n hk).2
  clear hk h
  go_enter Try.func69, Try.ntmps69
  go_wp2_with fail
  all_goals first
    | (go_ret
       exact ⟨by simp_all [absentB], by (repeat' (first | (with_reducible exact Below.refl _ _) | (with_reducible assumption) | (with_reducible refine below_plus ?_ ?_ _) | (with_reducible refine Below.alloc ?_ ?_ _) | (with_reducible refine Below.drew ?_) | (with_reducible refine below_drewN ?_ _) | (with_reducible refine Below.setCell ?_ ?_ _) | (first | omega | (simp only [World.size_alloc, size_plus, World.size_drew, World.size_setCell] <;> omega) | (simp <;> omega)) | omega | (simp; omega)))⟩)
    | go_loop [3] (fun i => ∃ k : Nat, k ≤ 8 ∧ i = .int .i64 k ∧ zeroTo x.v k = true) (fun i => 8 - (intOf i).toNat)
  case atStart => exact ⟨0, by omega, rfl, rfl⟩
  case round =>
    obtain ⟨k, hk, rfl, hz⟩ := hrel
    by_cases hlt : k < 8
    · have hv := fun s => cellsN_v x s k hlt
      cases he : (x.v k != 0)
      all_goals
        go_wp2_with fail
        first
          | (go_ret
             exact ⟨by simp [absentB, zero8, zeroTo_not (f := x.v) hlt (by simpa using he)], by (repeat' (first | (with_reducible exact Below.refl _ _) | (with_reducible assumption) | (with_reducible refine below_plus ?_ ?_ _) | (with_reducible refine Below.alloc ?_ ?_ _) | (with_reducible refine Below.drew ?_) | (with_reducible refine below_drewN ?_ _) | (with_reducible refine Below.setCell ?_ ?_ _) | (first | omega | (simp only [World.size_alloc, size_plus, World.size_drew, World.size_setCell] <;> omega) | (simp <;> omega)) | omega | (simp; omega)))⟩)
          | exact ⟨⟨k + 1, by omega, by go_num, by rw [zeroTo_succ, hz]; simpa using he⟩, by simp [intOf]; omega⟩
    · obtain rfl : k = 8 := by omega
      go_wp2_with fail
      go_ret
      exact ⟨by simp_all [absentB, zero8], by (repeat' (first | (with_reducible exact Below.refl _ _) | (with_reducible assumption) | (with_reducible refine below_plus ?_ ?_ _) | (with_reducible refine Below.alloc ?_ ?_ _) | (with_reducible refine Below.drew ?_) | (with_reducible refine below_drewN ?_ _) | (with_reducible refine Below.setCell ?_ ?_ _) | (first | omega | (simp only [World.size_alloc, size_plus, World.size_drew, World.size_setCell] <;> omega) | (simp <;> omega)) | omega | (simp; omega)))⟩

set_option maxRecDepth 100000 in
set_option maxHeartbeats 1000000 in
theorem r_values (cs : Array Value) (x : RN) (w : World) (h : RdVals w cs 11 (encN x)) :
    Calls Try.prog 98 #[.agg cs] w fun e w' => e = .returned (.bool (zero8 x.v)) ∧ Below w.heap.size w w' := by
  obtain ⟨A, cap, rfl, hk⟩ := rdN_open h
  clear hk h
  go_enter Try.func98, Try.ntmps98
  go_wp2_with fail
  go_loop [3] (fun i => ∃ k : Nat, k ≤ 8 ∧ i = .int .i64 k ∧ zeroTo x.v k = true) (fun i => 8 - (intOf i).toNat)
  case atStart => exact ⟨0, by omega, rfl, rfl⟩
  case round =>
    obtain ⟨k, hk, rfl, hz⟩ := hrel
    by_cases hlt : k < 8
    · have hv := fun s => cellsN_v x s k hlt
      cases he : (x.v k != 0)
      all_goals
        go_wp2_with fail
        first
          | (go_ret
             exact ⟨by simp [zero8, zeroTo_not (f := x.v) hlt (by simpa using he)], by (repeat' (first | (with_reducible exact Below.refl _ _) | (with_reducible assumption) | (with_reducible refine below_plus ?_ ?_ _) | (with_reducible refine Below.alloc ?_ ?_ _) | (with_reducible refine Below.drew ?_) | (with_reducible refine below_drewN ?_ _) | (with_reducible refine Below.setCell ?_ ?_ _) | (first | omega | (simp only [World.size_alloc, size_plus, World.size_drew, World.size_setCell] <;> omega) | (simp <;> omega)) | omega | (simp; omega)))⟩)
          | exact ⟨⟨k + 1, by omega, by go_num, by rw [zeroTo_succ, hz]; simpa using he⟩, by simp [intOf]; omega⟩
    · obtain rfl : k = 8 := by omega
      go_wp2_with fail
      go_ret
      exact ⟨by simp_all [zero8], by (repeat' (first | (with_reducible exact Below.refl _ _) | (with_reducible assumption) | (with_reducible refine below_plus ?_ ?_ _) | (with_reducible refine Below.alloc ?_ ?_ _) | (with_reducible refine Below.drew ?_) | (with_reducible refine below_drewN ?_ _) | (with_reducible refine Below.setCell ?_ ?_ _) | (first | omega | (simp only [World.size_alloc, size_plus, World.size_drew, World.size_setCell] <;> omega) | (simp <;> omega)) | omega | (simp; omega)))⟩

theorem r_bit (m : Int) (i : Nat) (w : World) (hi : i < 8) :
    Calls Try.prog 99 #[.int .i64 m, .int .i64 i] w fun e w' => e = .returned (.bool (bitB m i)) ∧ w = w' := by
  go_enter Try.func99, Try.ntmps99
  go_wp2_with fail
  go_ret
  exact ⟨rfl, rfl⟩

/-- The leaf loop: no tag without a value. -/
def lfOk (x : RN) (i : Nat) : Bool := !(x.v i == 0 && (bitB x.t0 i || bitB x.t1 i))
def lfTo (x : RN) (k : Nat) : Bool := (List.range k).all (lfOk x)
def anyTo (x : RN) (k : Nat) : Bool := (List.range k).any (fun i => x.v i != 0)
def leafW (x : RN) : Bool := lfTo x 8 && anyTo x 8
theorem lfTo_succ (x : RN) (k : Nat) : lfTo x (k + 1) = (lfTo x k && lfOk x k) := by simp [lfTo, List.range_succ]
theorem anyTo_succ (x : RN) (k : Nat) : anyTo x (k + 1) = (anyTo x k || x.v k != 0) := by simp [anyTo, List.range_succ]
theorem leafW_not {x : RN} {k : Nat} (hk : k < 8) (h : lfOk x k = false) : leafW x = false := by
  have : lfTo x 8 = false := by
    rw [lfTo, List.all_eq_false]
    exact ⟨k, List.mem_range.2 hk, by simp [h]⟩
  simp [leafW, this]

set_option maxRecDepth 100000 in
set_option maxHeartbeats 1000000 in
theorem r_leaf (cs : Array Value) (x : RN) (w : World) (h : RdVals w cs 11 (encN x)) :
    Calls Try.prog 97 #[.agg cs] w fun e w' => e = .returned (.bool (leafW x)) ∧ Below w.heap.size w w' := by
  obtain ⟨A, cap, rfl, hk⟩ := rdN_open h
  clear hk h
  go_enter Try.func97, Try.ntmps97
  go_wp2_with fail
  go_loop [3, 4] (fun s i => ∃ k : Nat, k ≤ 8 ∧ i = .int .i64 k ∧ s = .bool (anyTo x k) ∧ lfTo x k = true) (fun _ i => 8 - (intOf i).toNat)
  case atStart => exact ⟨0, by omega, rfl, rfl, rfl⟩
  case round =>
    obtain ⟨k, hk, rfl, rfl, hz⟩ := hrel
    by_cases hlt : k < 8
    · have hv := fun s => cellsN_v x s k hlt
      cases hv0 : (x.v k == 0) <;> cases hb0 : bitB x.t0 k <;> cases hb1 : bitB x.t1 k <;> cases ha : anyTo x k
      all_goals
        have hv1 : (x.v k != 0) = !(x.v k == 0) := rfl
        rw [hv0] at hv1
        go_wp2_with (first
          | (go_at_call 99; (with_reducible refine (r_bit x.t0 k _ hlt).mono ?_); rintro e w' ⟨rfl, rfl⟩; rw [hb0])
          | (go_at_call 99; (with_reducible refine (r_bit x.t1 k _ hlt).mono ?_); rintro e w' ⟨rfl, rfl⟩; rw [hb1]))
        first
          | (go_ret
             exact ⟨by rw [leafW_not hlt (by simp [lfOk, hv0, hb0, hb1])]; rfl, by (repeat' (first | (with_reducible exact Below.refl _ _) | (with_reducible assumption) | (with_reducible refine below_plus ?_ ?_ _) | (with_reducible refine Below.alloc ?_ ?_ _) | (with_reducible refine Below.drew ?_) | (with_reducible refine below_drewN ?_ _) | (with_reducible refine Below.setCell ?_ ?_ _) | (first | omega | (simp only [World.size_alloc, size_plus, World.size_drew, World.size_setCell] <;> omega) | (simp <;> omega)) | omega | (simp; omega)))⟩)
          | exact ⟨⟨k + 1, by omega, by go_num, by rw [anyTo_succ, ha, hv1]; rfl, by rw [lfTo_succ, hz]; simp [lfOk, hv0, hb0, hb1]⟩, by simp [intOf]; omega⟩
    · obtain rfl : k = 8 := by omega
      go_wp2_with fail
      go_ret
      exact ⟨by simp [leafW, hz], by (repeat' (first | (with_reducible exact Below.refl _ _) | (with_reducible assumption) | (with_reducible refine below_plus ?_ ?_ _) | (with_reducible refine Below.alloc ?_ ?_ _) | (with_reducible refine Below.drew ?_) | (with_reducible refine below_drewN ?_ _) | (with_reducible refine Below.setCell ?_ ?_ _) | (first | omega | (simp only [World.size_alloc, size_plus, World.size_drew, World.size_setCell] <;> omega) | (simp <;> omega)) | omega | (simp; omega)))⟩

end Go.Proofs.Ytcicfijpfhbcaaa
