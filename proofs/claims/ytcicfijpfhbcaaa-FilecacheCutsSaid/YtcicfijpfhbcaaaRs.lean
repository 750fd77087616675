/-
  The reference's small looks at a node: Absent, values, bit, leaf; nodes, Few.
-/
/-
  The reference's sameNode.
-/
import Derived.Test.YtcicfijpfhbcaaaNode2
import Derived.Test.YtcicfijpfhbcaaaValid
namespace Go.Proofs.Ytcicfijpfhbcaaa
set_option linter.unusedSimpArgs false
set_option linter.unusedVariables false
set_option linter.unusedSectionVars false
open Go.RowKit

set_option maxRecDepth 100000 in
set_option maxHeartbeats 1000000 in
theorem r_Absent (cs : Array Value) (x : RN) (w : World) (h : RdVals w cs 11 (encN x)) :
    Calls Try.prog 69 #[.agg cs] w fun e w' => e = .returned (.bool (absentB x)) ∧ Below w.heap.size w w' := by
  obtain ⟨A, cap, rfl, hk⟩ := rdN_open h
  have hcap := (encK_n hk).2
  clear hk h
  go_enter Try.func69, Try.ntmps69
  go_wp2_with fail
  all_goals first
    | (go_ret
       exact ⟨by simp_all [absentB], by (repeat' (first | (with_reducible exact Below.refl _ _) | (with_reducible assumption) | (with_reducible refine below_plus ?_ ?_ _) | (with_reducible refine Below.alloc ?_ ?_ _) | (with_reducible refine Below.drew ?_) | (with_reducible refine below_drewN ?_ _) | (with_reducible refine Below.setCell ?_ ?_ _) | (first | omega | (simp only [World.size_alloc, size_plus, World.size_drew, World.size_setCell] <;> omega) | (simp <;> omega)) | omega | (simp; omega)))⟩)
    | go_loop [3] (fun i => ∃ k : Nat, k ≤ 8 ∧ i = .int .i64 k ∧ zeroTo x.v k = true) (fun i => 8 - (intOf i).toNat)
  case atStart => exact ⟨0, by omega, rfl, rfl⟩
  case round =>
    obtain ⟨k, hk, rfl, hz⟩ := hrel
    by_cases hlt : k < 8
    · have hv := fun s => cellsN_v x s k hlt
      cases he : (x.v k != 0)
      all_goals
        go_wp2_with fail
        first
          | (go_ret
             exact ⟨by simp [absentB, zero8, zeroTo_not (f := x.v) hlt (by simpa using he)], by (repeat' (first | (with_reducible exact Below.refl _ _) | (with_reducible assumption) | (with_reducible refine below_plus ?_ ?_ _) | (with_reducible refine Below.alloc ?_ ?_ _) | (with_reducible refine Below.drew ?_) | (with_reducible refine below_drewN ?_ _) | (with_reducible refine Below.setCell ?_ ?_ _) | (first | omega | (simp only [World.size_alloc, size_plus, World.size_drew, World.size_setCell] <;> omega) | (simp <;> omega)) | omega | (simp; omega)))⟩)
          | exact ⟨⟨k + 1, by omega, by go_num, by rw [zeroTo_succ, hz]; simpa using he⟩, by simp [intOf]; omega⟩
    · obtain rfl : k = 8 := by omega
      go_wp2_with fail
      go_ret
      exact ⟨by simp_all [absentB, zero8], by (repeat' (first | (with_reducible exact Below.refl _ _) | (with_reducible assumption) | (with_reducible refine below_plus ?_ ?_ _) | (with_reducible refine Below.alloc ?_ ?_ _) | (with_reducible refine Below.drew ?_) | (with_reducible refine below_drewN ?_ _) | (with_reducible refine Below.setCell ?_ ?_ _) | (first | omega | (simp only [World.size_alloc, size_plus, World.size_drew, World.size_setCell] <;> omega) | (simp <;> omega)) | omega | (simp; omega)))⟩

set_option maxRecDepth 100000 in
set_option maxHeartbeats 1000000 in
theorem r_values (cs : Array Value) (x : RN) (w : World) (h : RdVals w cs 11 (encN x)) :
    Calls Try.prog 98 #[.agg cs] w fun e w' => e = .returned (.bool (zero8 x.v)) ∧ Below w.heap.size w w' := by
  obtain ⟨A, cap, rfl, hk⟩ := rdN_open h
  clear hk h
  go_enter Try.func98, Try.ntmps98
  go_wp2_with fail
  go_loop [3] (fun i => ∃ k : Nat, k ≤ 8 ∧ i = .int .i64 k ∧ zeroTo x.v k = true) (fun i => 8 - (intOf i).toNat)
  case atStart => exact ⟨0, by omega, rfl, rfl⟩
  case round =>
    obtain ⟨k, hk, rfl, hz⟩ := hrel
    by_cases hlt : k < 8
    · have hv := fun s => cellsN_v x s k hlt
      cases he : (x.v k != 0)
      all_goals
        go_wp2_with fail
        first
          | (go_ret
             exact ⟨by simp [zero8, zeroTo_not (f := x.v) hlt (by simpa using he)], by (repeat' (first | (with_reducible exact Below.refl _ _) | (with_reducible assumption) | (with_reducible refine below_plus ?_ ?_ _) | (with_reducible refine Below.alloc ?_ ?_ _) | (with_reducible refine Below.drew ?_) | (with_reducible refine below_drewN ?_ _) | (with_reducible refine Below.setCell ?_ ?_ _) | (first | omega | (simp only [World.size_alloc, size_plus, World.size_drew, World.size_setCell] <;> omega) | (simp <;> omega)) | omega | (simp; omega)))⟩)
          | exact ⟨⟨k + 1, by omega, by go_num, by rw [zeroTo_succ, hz]; simpa using he⟩, by simp [intOf]; omega⟩
    · obtain rfl : k = 8 := by omega
      go_wp2_with fail
      go_ret
      exact ⟨by simp_all [zero8], by (repeat' (first | (with_reducible exact Below.refl _ _) | (with_reducible assumption) | (with_reducible refine below_plus ?_ ?_ _) | (with_reducible refine Below.alloc ?_ ?_ _) | (with_reducible refine Below.drew ?_) | (with_reducible refine below_drewN ?_ _) | (with_reducible refine Below.setCell ?_ ?_ _) | (first | omega | (simp only [World.size_alloc, size_plus, World.size_drew, World.size_setCell] <;> omega) | (simp <;> omega)) | omega | (simp; omega)))⟩

theorem r_bit (m : Int) (i : Nat) (w : World) (hi : i < 8) :
    Calls Try.prog 99 #[.int .i64 m, .int .i64 i] w fun e w' => e = .returned (.bool (bitB m i)) ∧ w = w' := by
  go_enter Try.func99, Try.ntmps99
  go_wp2_with fail
  go_ret
  exact ⟨rfl, rfl⟩

/-- The leaf loop: no tag without a value. -/
def lfOk (x : RN) (i : Nat) : Bool := !(x.v i == 0 && (bitB x.t0 i || bitB x.t1 i))
def lfTo (x : RN) (k : Nat) : Bool := (List.range k).all (lfOk x)
def anyTo (x : RN) (k : Nat) : Bool := (List.range k).any (fun i => x.v i != 0)
def leafW (x : RN) : Bool := lfTo x 8 && anyTo x 8
theorem lfTo_succ (x : RN) (k : Nat) : lfTo x (k + 1) = (lfTo x k && lfOk x k) := by simp [lfTo, List.range_succ]
theorem anyTo_succ (x : RN) (k : Nat) : anyTo x (k + 1) = (anyTo x k || x.v k != 0) := by simp [anyTo, List.range_succ]
theorem leafW_not {x : RN} {k : Nat} (hk : k < 8) (h : lfOk x k = false) : leafW x = false := by
  have : lfTo x 8 = false := by
    rw [lfTo, List.all_eq_false]
    exact ⟨k, List.mem_range.2 hk, by simp [h]⟩
  simp [leafW, this]

set_option maxRecDepth 100000 in
set_option maxHeartbeats 1000000 in
theorem r_leaf (cs : Array Value) (x : RN) (w : World) (h : RdVals w cs 11 (encN x)) :
    Calls Try.prog 97 #[.agg cs] w fun e w' => e = .returned (.bool (leafW x)) ∧ Below w.heap.size w w' := by
  obtain ⟨A, cap, rfl, hk⟩ := rdN_open h
  clear hk h
  go_enter Try.func97, Try.ntmps97
  go_wp2_with fail
  go_loop [3, 4] (fun s i => ∃ k : Nat, k ≤ 8 ∧ i = .int .i64 k ∧ s = .bool (anyTo x k) ∧ lfTo x k = true) (fun _ i => 8 - (intOf i).toNat)
  case atStart => exact ⟨0, by omega, rfl, rfl, rfl⟩
  case round =>
    obtain ⟨k, hk, rfl, rfl, hz⟩ := hrel
    by_cases hlt : k < 8
    · have hv := fun s => cellsN_v x s k hlt
      cases hv0 : (x.v k == 0) <;> cases hb0 : bitB x.t0 k <;> cases hb1 : bitB x.t1 k <;> cases ha : anyTo x k
      all_goals
        have hv1 : (x.v k != 0) = !(x.v k == 0) := rfl
        rw [hv0] at hv1
        go_wp2_with (first
          | (go_at_call 99; (with_reducible refine (r_bit x.t0 k _ hlt).mono ?_); rintro e w' ⟨rfl, rfl⟩; rw [hb0])
          | (go_at_call 99; (with_reducible refine (r_bit x.t1 k _ hlt).mono ?_); rintro e w' ⟨rfl, rfl⟩; rw [hb1]))
        first
          | (go_ret
             exact ⟨by rw [leafW_not hlt (by simp [lfOk, hv0, hb0, hb1])]; rfl, by (repeat' (first | (with_reducible exact Below.refl _ _) | (with_reducible assumption) | (with_reducible refine below_plus ?_ ?_ _) | (with_reducible refine Below.alloc ?_ ?_ _) | (with_reducible refine Below.drew ?_) | (with_reducible refine below_drewN ?_ _) | (with_reducible refine Below.setCell ?_ ?_ _) | (first | omega | (simp only [World.size_alloc, size_plus, World.size_drew, World.size_setCell] <;> omega) | (simp <;> omega)) | omega | (simp; omega)))⟩)
          | exact ⟨⟨k + 1, by omega, by go_num, by rw [anyTo_succ, ha, hv1]; rfl, by rw [lfTo_succ, hz]; simp [lfOk, hv0, hb0, hb1]⟩, by simp [intOf]; omega⟩
    · obtain rfl : k = 8 := by omega
      go_wp2_with fail
      go_ret
      exact ⟨by simp [leafW, hz], by (repeat' (first | (with_reducible exact Below.refl _ _) | (with_reducible assumption) | (with_reducible refine below_plus ?_ ?_ _) | (with_reducible refine Below.alloc ?_ ?_ _) | (with_reducible refine Below.drew ?_) | (with_reducible refine below_drewN ?_ _) | (with_reducible refine Below.setCell ?_ ?_ _) | (first | omega | (simp only [World.size_alloc, size_plus, World.size_drew, World.size_setCell] <;> omega) | (simp <;> omega)) | omega | (simp; omega)))⟩

end Go.Proofs.Ytcicfijpfhbcaaa
namespace Go.Proofs.Ytcicfijpfhbcaaa
set_option linter.unusedSimpArgs false
set_option linter.unusedVariables false
set_option linter.unusedSectionVars false
open Go.RowKit

def eqTo (f g : Nat → Int) (k : Nat) : Bool := (List.range k).all fun i => f i == g i
theorem eqTo_succ (f g : Nat → Int) (k : Nat) : eqTo f g (k + 1) = (eqTo f g k && f k == g k) := by simp [eqTo, List.range_succ]
def allTo (f : Nat → Bool) (k : Nat) : Bool := (List.range k).all f
theorem allTo_succ (f : Nat → Bool) (k : Nat) : allTo f (k + 1) = (allTo f k && f k) := by simp [allTo, List.range_succ]
theorem allTo_not {f : Nat → Bool} {k m : Nat} (hk : k < m) (h : f k = false) : allTo f m = false := by
  rw [allTo, List.all_eq_false]
  exact ⟨k, List.mem_range.2 hk, by simp [h]⟩
def sameW (x y : RN) (sub : Nat → Bool) : Bool := x.t0 == y.t0 && x.t1 == y.t1 && x.n == y.n && eqTo x.v y.v 8 && allTo sub x.n
/-- The two nodes are equal. -/
def sameB : RN → RN → Bool
  | .mk v t0 t1 n kid, y => sameW (.mk v t0 t1 n kid) y (fun i => if h : i < n then sameB (kid ⟨i, h⟩) (y.kid i) else true)
theorem allTo_congr {f g : Nat → Bool} {k : Nat} (h : ∀ i, i < k → f i = g i) : allTo f k = allTo g k := by
  unfold allTo
  rw [Bool.eq_iff_iff, List.all_eq_true, List.all_eq_true]
  exact ⟨fun a i hi => (h i (List.mem_range.1 hi)) ▸ a i hi, fun a i hi => (h i (List.mem_range.1 hi)).symm ▸ a i hi⟩
theorem sameB_eq (x y : RN) : sameB x y = sameW x y (fun i => sameB (x.kid i) (y.kid i)) := by
  cases x with
  | mk v t0 t1 n kid =>
    rw [sameB]
    unfold sameW
    congr 1
    refine allTo_congr fun i hi => ?_
    have hi' : i < n := hi
    rw [dif_pos hi', RN.kid_mk _ _ _ _ _ _ hi']

set_option maxRecDepth 100000 in
set_option maxHeartbeats 1000000 in
theorem r_sameNode_step (cs ds : Array Value) (x y : RN) (w : World) (h : RdVals w cs 11 (encN x)) (h' : RdVals w ds 11 (encN y)) (sub : Nat → Bool)
    (IH : ∀ (i : Nat) (cs' ds' : Array Value) (w' : World), i < x.n → RdVals w' cs' 11 (encN (x.kid i)) → RdVals w' ds' 11 (encN (y.kid i)) → Calls Try.prog 71 #[.agg cs', .agg ds'] w' fun e w'' => e = .returned (.bool (sub i)) ∧ Below w'.heap.size w' w'') :
    Calls Try.prog 71 #[.agg cs, .agg ds] w fun e w' => e = .returned (.bool (sameW x y sub)) ∧ Below w.heap.size w w' := by
  obtain ⟨A, cap, rfl, hk⟩ := rdN_open h
  obtain ⟨B, cap', rfl, hl⟩ := rdN_open h'
  have hcap := (encK_n hk).2
  have hcap' := (encK_n hl).2
  have HK := Lib.hid hk
  have HL := Lib.hid hl
  have HI := Lib.hid IH
  clear h h' hk hl IH
  cases e0 : (x.t0 != y.t0) <;> cases e1 : (x.t1 != y.t1) <;> cases e2 : ((x.n : Int) != (y.n : Int))
  case false.false.false =>
    have hn : x.n = y.n := by simp at e2; omega
    have hle : x.n ≤ y.n := by omega
    have HN := Lib.hid hn
    clear hn
    go_enter Try.func71, Try.ntmps71
    go_wp2_with fail
    go_loopw [5] (fun i wr => ∃ k : Nat, k ≤ 8 ∧ i = .int .i64 k ∧ eqTo x.v y.v k = true ∧ ∃ X, wr = ((w.alloc (.cells (cellsN x (.slice A x.n cap)) 26)).alloc (.cells (cellsN y (.slice B y.n cap')) 26)).plus X) (fun i _ => 8 - (intOf i).toNat)
    case atStart => exact ⟨0, by omega, rfl, rfl, plus_of_below (by (repeat' (first | (with_reducible exact Below.refl _ _) | (with_reducible assumption) | (with_reducible refine below_plus ?_ ?_ _) | (with_reducible refine Below.alloc ?_ ?_ _) | (with_reducible refine Below.drew ?_) | (with_reducible refine below_drewN ?_ _) | (with_reducible refine Below.setCell ?_ ?_ _) | (first | omega | (simp only [World.size_alloc, size_plus, World.size_drew, World.size_setCell] <;> omega) | (simp <;> omega)) | omega | (simp; omega))))⟩
    case round =>
      obtain ⟨k, hk, rfl, hz, X, rfl⟩ := hrel
      by_cases hlt : k < 8
      · have hv := fun s => cellsN_v x s k hlt
        have hu := fun s => cellsN_v y s k hlt
        cases he : (x.v k != y.v k)
        all_goals
          go_wp2_with fail
          (refine wp_region_quiet_plus (by kernel_rfl) (by kernel_rfl) ?_; (repeat (go_big_quiet_step (fail))); refine wpQuiet_nil ?_; intro _)
          go_wp2_with fail
          first
            | (go_ret
               exact ⟨by simp [sameW, show eqTo x.v y.v 8 = false from allTo_not (f := fun i => x.v i == y.v i) hlt (by simpa using he)], by (repeat' (first | (with_reducible exact Below.refl _ _) | (with_reducible assumption) | (with_reducible refine below_plus ?_ ?_ _) | (with_reducible refine Below.alloc ?_ ?_ _) | (with_reducible refine Below.drew ?_) | (with_reducible refine below_drewN ?_ _) | (with_reducible refine Below.setCell ?_ ?_ _) | (first | omega | (simp only [World.size_alloc, size_plus, World.size_drew, World.size_setCell] <;> omega) | (simp <;> omega)) | omega | (simp; omega)))⟩)
            | exact ⟨⟨k + 1, by omega, by go_num, by rw [eqTo_succ, hz]; simpa using he, plus_of_below (by (repeat' (first | (with_reducible exact Below.refl _ _) | (with_reducible assumption) | (with_reducible refine below_plus ?_ ?_ _) | (with_reducible refine Below.alloc ?_ ?_ _) | (with_reducible refine Below.drew ?_) | (with_reducible refine below_drewN ?_ _) | (with_reducible refine Below.setCell ?_ ?_ _) | (first | omega | (simp only [World.size_alloc, size_plus, World.size_drew, World.size_setCell] <;> omega) | (simp <;> omega)) | omega | (simp; omega))))⟩, by simp [intOf]; omega⟩
      · obtain rfl : k = 8 := by omega
        clear hlt hk
        go_wp2_with fail
        go_loopw [6] (fun i wr => ∃ k : Nat, k ≤ x.n ∧ i = .int .i64 k ∧ allTo sub k = true ∧ ∃ X, wr = ((w.alloc (.cells (cellsN x (.slice A x.n cap)) 26)).alloc (.cells (cellsN y (.slice B y.n cap')) 26)).plus X) (fun i _ => x.n - (intOf i).toNat)
        case atStart => exact ⟨0, by omega, rfl, rfl, X, rfl⟩
        case round =>
          obtain ⟨k, hk, rfl, hs, Y, rfl⟩ := hrel
          by_cases hlt : k < x.n
          · obtain ⟨g, b, s, rfl, hgl, -, hvk, hck⟩ := encK_kid (i := k) HK.out hlt
            obtain ⟨g', b', s', rfl, hgl', -, hvk', hck'⟩ := encK_kid (i := k) HL.out (by omega)
            have hrow := row11 hck
            have hrow' := row11 hck'
            have hlt' : k < y.n := by omega
            have HV := Lib.hid hvk
            have HV' := Lib.hid hvk'
            clear hck hck' hvk hvk'
            cases he : sub k
            all_goals
              go_wp2_with fail
              (refine wp_region_quiet_plus (by kernel_rfl) (by kernel_rfl) ?_; (repeat (go_big_quiet_step ((go_at_call 71; exact Calls.quiet_plus (he ▸ HI.out k (cellsN (x.kid k) s) (cellsN (y.kid k) s') _ hlt (HV.out.keep (below_keeps (by (repeat' (first | (with_reducible exact Below.refl _ _) | (with_reducible assumption) | (with_reducible refine below_plus ?_ ?_ _) | (with_reducible refine Below.alloc ?_ ?_ _) | (with_reducible refine Below.drew ?_) | (with_reducible refine below_drewN ?_ _) | (with_reducible refine Below.setCell ?_ ?_ _) | (first | omega | (simp only [World.size_alloc, size_plus, World.size_drew, World.size_setCell] <;> omega) | (simp <;> omega)) | omega | (simp; omega)))))) (HV'.out.keep (below_keeps (by (repeat' (first | (with_reducible exact Below.refl _ _) | (with_reducible assumption) | (with_reducible refine below_plus ?_ ?_ _) | (with_reducible refine Below.alloc ?_ ?_ _) | (with_reducible refine Below.drew ?_) | (with_reducible refine below_drewN ?_ _) | (with_reducible refine Below.setCell ?_ ?_ _) | (first | omega | (simp only [World.size_alloc, size_plus, World.size_drew, World.size_setCell] <;> omega) | (simp <;> omega)) | omega | (simp; omega))))))))))); refine wpQuiet_nil ?_; intro _)
              go_wp2_with fail
              first
                | (go_ret
                   exact ⟨by simp [sameW, allTo_not hlt he], by (repeat' (first | (with_reducible exact Below.refl _ _) | (with_reducible assumption) | (with_reducible refine below_plus ?_ ?_ _) | (with_reducible refine Below.alloc ?_ ?_ _) | (with_reducible refine Below.drew ?_) | (with_reducible refine below_drewN ?_ _) | (with_reducible refine Below.setCell ?_ ?_ _) | (first | omega | (simp only [World.size_alloc, size_plus, World.size_drew, World.size_setCell] <;> omega) | (simp <;> omega)) | omega | (simp; omega)))⟩)
                | exact ⟨⟨k + 1, by omega, by go_num, by rw [allTo_succ, hs, he]; rfl, plus_of_below (by (repeat' (first | (with_reducible exact Below.refl _ _) | (with_reducible assumption) | (with_reducible refine below_plus ?_ ?_ _) | (with_reducible refine Below.alloc ?_ ?_ _) | (with_reducible refine Below.drew ?_) | (with_reducible refine below_drewN ?_ _) | (with_reducible refine Below.setCell ?_ ?_ _) | (first | omega | (simp only [World.size_alloc, size_plus, World.size_drew, World.size_setCell] <;> omega) | (simp <;> omega)) | omega | (simp; omega))))⟩, by simp [intOf]; omega⟩
          · obtain rfl : k = x.n := by omega
            go_wp2_with fail
            go_ret
            exact ⟨by have hn := HN.out; simp_all [sameW], by (repeat' (first | (with_reducible exact Below.refl _ _) | (with_reducible assumption) | (with_reducible refine below_plus ?_ ?_ _) | (with_reducible refine Below.alloc ?_ ?_ _) | (with_reducible refine Below.drew ?_) | (with_reducible refine below_drewN ?_ _) | (with_reducible refine Below.setCell ?_ ?_ _) | (first | omega | (simp only [World.size_alloc, size_plus, World.size_drew, World.size_setCell] <;> omega) | (simp <;> omega)) | omega | (simp; omega)))⟩
  all_goals
    go_enter Try.func71, Try.ntmps71
    go_wp2_with fail
    go_ret
    exact ⟨by simp_all [sameW]; try (intros; omega), by (repeat' (first | (with_reducible exact Below.refl _ _) | (with_reducible assumption) | (with_reducible refine below_plus ?_ ?_ _) | (with_reducible refine Below.alloc ?_ ?_ _) | (with_reducible refine Below.drew ?_) | (with_reducible refine below_drewN ?_ _) | (with_reducible refine Below.setCell ?_ ?_ _) | (first | omega | (simp only [World.size_alloc, size_plus, World.size_drew, World.size_setCell] <;> omega) | (simp <;> omega)) | omega | (simp; omega)))⟩
/-- The reference's sameNode, for all nodes. -/
theorem r_sameNode (x : RN) : ∀ (y : RN) (cs ds : Array Value) (w : World), RdVals w cs 11 (encN x) → RdVals w ds 11 (encN y) →
    Calls Try.prog 71 #[.agg cs, .agg ds] w fun e w' => e = .returned (.bool (sameB x y)) ∧ Below w.heap.size w w' := by
  induction x with
  | mk v t0 t1 n kid ih =>
    intro y cs ds w h h'
    rw [sameB_eq]
    exact r_sameNode_step cs ds _ y w h h' _ fun i cs' ds' w' hi a b => by
      have hi' : i < n := hi
      rw [RN.kid_mk _ _ _ _ _ _ hi'] at a ⊢
      exact ih ⟨i, hi'⟩ (y.kid i) cs' ds' w' a b

end Go.Proofs.Ytcicfijpfhbcaaa
