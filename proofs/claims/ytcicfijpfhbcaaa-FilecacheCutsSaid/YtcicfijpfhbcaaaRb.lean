/-
  The reference's shape and Check.
-/
import Derived.Test.YtcicfijpfhbcaaaRs
import Derived.Test.YtcicfijpfhbcaaaPc
import Derived.Test.YtcicfijpfhbcaaaNode2
namespace Go.Proofs.Ytcicfijpfhbcaaa
set_option linter.unusedSimpArgs false
set_option linter.unusedVariables false
set_option linter.unusedSectionVars false
open Go.RowKit

/-- Child i is as 'shape' wants it. -/
def shOk (x : RN) (sub : Nat → Bool) (i : Nat) : Bool :=
  if absentB (x.kid i) then !(bitB x.t0 i || bitB x.t1 i) else sub i && (bitB x.t0 i == ((x.kid i).t0 != 0)) && (bitB x.t1 i == ((x.kid i).t1 != 0))
def someTo (x : RN) (k : Nat) : Bool := (List.range k).any (fun i => !absentB (x.kid i))
theorem someTo_succ (x : RN) (k : Nat) : someTo x (k + 1) = (someTo x k || !absentB (x.kid k)) := by simp [someTo, List.range_succ]
def tagsIn (x : RN) : Bool := decide (0 ≤ x.t0) && decide (x.t0 ≤ 255) && decide (0 ≤ x.t1) && decide (x.t1 ≤ 255)
def shapeW (x : RN) (l : Int) (sub : Nat → Bool) : Bool :=
  tagsIn x && !absentB x && (if l = 1 then (x.n : Int) == 0 && leafW x else (x.n : Int) == 8 && zero8 x.v && allTo (shOk x sub) 8 && someTo x 8)
def shapeB : RN → Int → Bool
  | .mk v t0 t1 n kid, l => shapeW (.mk v t0 t1 n kid) l (fun i => if h : i < n then shapeB (kid ⟨i, h⟩) (l - 1) else false)
theorem shapeB_zero (l : Int) : shapeB zeroN l = false := by
  unfold zeroN
  rw [shapeB]
  unfold shapeW
  have : absentB (.mk (fun _ => 0) 0 0 0 (fun i => absurd i.2 (by omega))) = true := by decide
  rw [this]; simp
theorem shapeB_eq (x : RN) (l : Int) : shapeB x l = shapeW x l (fun i => shapeB (x.kid i) (l - 1)) := by
  cases x with
  | mk v t0 t1 n kid =>
    rw [shapeB]
    congr 1
    funext i
    by_cases h : i < n
    · rw [dif_pos h, RN.kid_mk _ _ _ _ _ _ h]
    · rw [dif_neg h]; simp [RN.kid, h, shapeB_zero]

set_option maxRecDepth 100000 in
set_option maxHeartbeats 1000000 in
theorem r_shape_leaf (cs : Array Value) (x : RN) (w : World) (h : RdVals w cs 11 (encN x)) (sub : Nat → Bool) :
    Calls Try.prog 70 #[.agg cs, .int .i64 1] w fun e w' => e = .returned (.bool (shapeW x 1 sub)) ∧ Below w.heap.size w w' := by
  obtain ⟨A, cap, rfl, hk⟩ := rdN_open h
  have hcap := (encK_n hk).2
  have HV := Lib.hid h
  clear h hk
  cases ha : absentB x <;> cases hl : leafW x <;> cases hn : ((x.n : Int) == 0)
  all_goals
    go_enter Try.func70, Try.ntmps70
    go_wp2_with (first
      | (go_at_call 69; refine (r_Absent _ x _ ?_).mono ?_; exact HV.out.keep (below_keeps (by (repeat' (first | (with_reducible exact Below.refl _ _) | (with_reducible assumption) | (with_reducible refine below_plus ?_ ?_ _) | (with_reducible refine Below.alloc ?_ ?_ _) | (with_reducible refine Below.drew ?_) | (with_reducible refine below_drewN ?_ _) | (with_reducible refine Below.setCell ?_ ?_ _) | (first | omega | (simp only [World.size_alloc, size_plus, World.size_drew, World.size_setCell] <;> omega) | (simp <;> omega)) | omega | (simp; omega))))); rintro e w' ⟨rfl, hb⟩; (first | (obtain ⟨X, rfl⟩ := plus_again hb) | (obtain ⟨X, rfl⟩ := plus_of_below hb)); clear hb; rw [ha])
      | (go_at_call 97; refine (r_leaf _ x _ ?_).mono ?_; exact HV.out.keep (below_keeps (by (repeat' (first | (with_reducible exact Below.refl _ _) | (with_reducible assumption) | (with_reducible refine below_plus ?_ ?_ _) | (with_reducible refine Below.alloc ?_ ?_ _) | (with_reducible refine Below.drew ?_) | (with_reducible refine below_drewN ?_ _) | (with_reducible refine Below.setCell ?_ ?_ _) | (first | omega | (simp only [World.size_alloc, size_plus, World.size_drew, World.size_setCell] <;> omega) | (simp <;> omega)) | omega | (simp; omega))))); rintro e w' ⟨rfl, hb⟩; (first | (obtain ⟨X, rfl⟩ := plus_again hb) | (obtain ⟨X, rfl⟩ := plus_of_below hb)); clear hb; rw [hl]))
    all_goals
      go_ret
      exact ⟨by simp_all [shapeW, tagsIn] <;> (intros; omega), by (repeat' (first | (with_reducible exact Below.refl _ _) | (with_reducible assumption) | (with_reducible refine below_plus ?_ ?_ _) | (with_reducible refine Below.alloc ?_ ?_ _) | (with_reducible refine Below.drew ?_) | (with_reducible refine below_drewN ?_ _) | (with_reducible refine Below.setCell ?_ ?_ _) | (first | omega | (simp only [World.size_alloc, size_plus, World.size_drew, World.size_setCell] <;> omega) | (simp <;> omega)) | omega | (simp; omega)))⟩

set_option maxRecDepth 100000 in
set_option maxHeartbeats 1000000 in
theorem r_shape_inner (cs : Array Value) (x : RN) (l : Int) (w : World) (h : RdVals w cs 11 (encN x)) (sub : Nat → Bool) (h1 : 1 < l) (h10 : l ≤ 10)
    (IH : ∀ (i : Nat) (cs' : Array Value) (w' : World), i < x.n → RdVals w' cs' 11 (encN (x.kid i)) → Calls Try.prog 70 #[.agg cs', .int .i64 (l - 1)] w' fun e w'' => e = .returned (.bool (sub i)) ∧ Below w'.heap.size w' w'') :
    Calls Try.prog 70 #[.agg cs, .int .i64 l] w fun e w' => e = .returned (.bool (shapeW x l sub)) ∧ Below w.heap.size w w' := by
  obtain ⟨A, cap, rfl, hk⟩ := rdN_open h
  have hcap := (encK_n hk).2
  have HR := Lib.hid h
  have HK := Lib.hid hk
  have HI := Lib.hid IH
  have hl1 : (l == 1) = false := by simp; omega
  have HL1 : Hid (¬ l = 1) := by unfold Hid; omega
  clear hk h IH
  cases ht : tagsIn x
  · have ht' : ¬ (0 ≤ x.t0 ∧ x.t0 ≤ 255 ∧ 0 ≤ x.t1 ∧ x.t1 ≤ 255) := by simp [tagsIn] at ht; omega
    cases ha : absentB x
    all_goals
      go_enter Try.func70, Try.ntmps70
      go_wp2_with (go_at_call 69; refine (r_Absent _ x _ ?_).mono ?_; exact HR.out.keep (below_keeps (by (repeat' (first | (with_reducible exact Below.refl _ _) | (with_reducible assumption) | (with_reducible refine below_plus ?_ ?_ _) | (with_reducible refine Below.alloc ?_ ?_ _) | (with_reducible refine Below.drew ?_) | (with_reducible refine below_drewN ?_ _) | (with_reducible refine Below.setCell ?_ ?_ _) | (first | omega | (simp only [World.size_alloc, size_plus, World.size_drew, World.size_setCell] <;> omega) | (simp <;> omega)) | omega | (simp; omega))))); rintro e w' ⟨rfl, hb⟩; (first | (obtain ⟨X, rfl⟩ := plus_again hb) | (obtain ⟨X, rfl⟩ := plus_of_below hb)); clear hb; rw [ha])
      all_goals first
        | (exfalso; omega)
        | (go_ret
           exact ⟨by simp [shapeW, ht], by (repeat' (first | (with_reducible exact Below.refl _ _) | (with_reducible assumption) | (with_reducible refine below_plus ?_ ?_ _) | (with_reducible refine Below.alloc ?_ ?_ _) | (with_reducible refine Below.drew ?_) | (with_reducible refine below_drewN ?_ _) | (with_reducible refine Below.setCell ?_ ?_ _) | (first | omega | (simp only [World.size_alloc, size_plus, World.size_drew, World.size_setCell] <;> omega) | (simp <;> omega)) | omega | (simp; omega)))⟩)
  · have ht' : 0 ≤ x.t0 ∧ x.t0 ≤ 255 ∧ 0 ≤ x.t1 ∧ x.t1 ≤ 255 := by simp [tagsIn] at ht; omega
    obtain ⟨a0, a1, b0, b1⟩ := ht'
    have HT := Lib.hid ht
    clear ht
    cases ha : absentB x with
    | true =>
      go_enter Try.func70, Try.ntmps70
      go_wp2_with (go_at_call 69; refine (r_Absent _ x _ ?_).mono ?_; exact HR.out.keep (below_keeps (by (repeat' (first | (with_reducible exact Below.refl _ _) | (with_reducible assumption) | (with_reducible refine below_plus ?_ ?_ _) | (with_reducible refine Below.alloc ?_ ?_ _) | (with_reducible refine Below.drew ?_) | (with_reducible refine below_drewN ?_ _) | (with_reducible refine Below.setCell ?_ ?_ _) | (first | omega | (simp only [World.size_alloc, size_plus, World.size_drew, World.size_setCell] <;> omega) | (simp <;> omega)) | omega | (simp; omega))))); rintro e w' ⟨rfl, hb⟩; (first | (obtain ⟨X, rfl⟩ := plus_again hb) | (obtain ⟨X, rfl⟩ := plus_of_below hb)); clear hb; rw [ha])
      go_ret
      exact ⟨by simp [shapeW, ha], by (repeat' (first | (with_reducible exact Below.refl _ _) | (with_reducible assumption) | (with_reducible refine below_plus ?_ ?_ _) | (with_reducible refine Below.alloc ?_ ?_ _) | (with_reducible refine Below.drew ?_) | (with_reducible refine below_drewN ?_ _) | (with_reducible refine Below.setCell ?_ ?_ _) | (first | omega | (simp only [World.size_alloc, size_plus, World.size_drew, World.size_setCell] <;> omega) | (simp <;> omega)) | omega | (simp; omega)))⟩
    | false =>
      cases hn : ((x.n : Int) != 8) with
      | true =>
        go_enter Try.func70, Try.ntmps70
        go_wp2_with (go_at_call 69; refine (r_Absent _ x _ ?_).mono ?_; exact HR.out.keep (below_keeps (by (repeat' (first | (with_reducible exact Below.refl _ _) | (with_reducible assumption) | (with_reducible refine below_plus ?_ ?_ _) | (with_reducible refine Below.alloc ?_ ?_ _) | (with_reducible refine Below.drew ?_) | (with_reducible refine below_drewN ?_ _) | (with_reducible refine Below.setCell ?_ ?_ _) | (first | omega | (simp only [World.size_alloc, size_plus, World.size_drew, World.size_setCell] <;> omega) | (simp <;> omega)) | omega | (simp; omega))))); rintro e w' ⟨rfl, hb⟩; (first | (obtain ⟨X, rfl⟩ := plus_again hb) | (obtain ⟨X, rfl⟩ := plus_of_below hb)); clear hb; rw [ha])
        go_ret
        exact ⟨by simp at hn; simp [shapeW, HL1.out, hn] <;> (intros; omega), by (repeat' (first | (with_reducible exact Below.refl _ _) | (with_reducible assumption) | (with_reducible refine below_plus ?_ ?_ _) | (with_reducible refine Below.alloc ?_ ?_ _) | (with_reducible refine Below.drew ?_) | (with_reducible refine below_drewN ?_ _) | (with_reducible refine Below.setCell ?_ ?_ _) | (first | omega | (simp only [World.size_alloc, size_plus, World.size_drew, World.size_setCell] <;> omega) | (simp <;> omega)) | omega | (simp; omega)))⟩
      | false =>
        have hn1 : 8 ≤ x.n := by simp at hn; omega
        have HN : Hid (x.n = 8) := by unfold Hid; simp at hn; omega
        cases hz : zero8 x.v with
        | false =>
          go_enter Try.func70, Try.ntmps70
          go_wp2_with (first
            | (go_at_call 69; refine (r_Absent _ x _ ?_).mono ?_; exact HR.out.keep (below_keeps (by (repeat' (first | (with_reducible exact Below.refl _ _) | (with_reducible assumption) | (with_reducible refine below_plus ?_ ?_ _) | (with_reducible refine Below.alloc ?_ ?_ _) | (with_reducible refine Below.drew ?_) | (with_reducible refine below_drewN ?_ _) | (with_reducible refine Below.setCell ?_ ?_ _) | (first | omega | (simp only [World.size_alloc, size_plus, World.size_drew, World.size_setCell] <;> omega) | (simp <;> omega)) | omega | (simp; omega))))); rintro e w' ⟨rfl, hb⟩; (first | (obtain ⟨X, rfl⟩ := plus_again hb) | (obtain ⟨X, rfl⟩ := plus_of_below hb)); clear hb; rw [ha])
            | (go_at_call 98; refine (r_values _ x _ ?_).mono ?_; exact HR.out.keep (below_keeps (by (repeat' (first | (with_reducible exact Below.refl _ _) | (with_reducible assumption) | (with_reducible refine below_plus ?_ ?_ _) | (with_reducible refine Below.alloc ?_ ?_ _) | (with_reducible refine Below.drew ?_) | (with_reducible refine below_drewN ?_ _) | (with_reducible refine Below.setCell ?_ ?_ _) | (first | omega | (simp only [World.size_alloc, size_plus, World.size_drew, World.size_setCell] <;> omega) | (simp <;> omega)) | omega | (simp; omega))))); rintro e w' ⟨rfl, hb⟩; (first | (obtain ⟨X, rfl⟩ := plus_again hb) | (obtain ⟨X, rfl⟩ := plus_of_below hb)); clear hb; rw [hz]))
          go_ret
          exact ⟨by simp [shapeW, HL1.out, hz] <;> (intros; omega), by (repeat' (first | (with_reducible exact Below.refl _ _) | (with_reducible assumption) | (with_reducible refine below_plus ?_ ?_ _) | (with_reducible refine Below.alloc ?_ ?_ _) | (with_reducible refine Below.drew ?_) | (with_reducible refine below_drewN ?_ _) | (with_reducible refine Below.setCell ?_ ?_ _) | (first | omega | (simp only [World.size_alloc, size_plus, World.size_drew, World.size_setCell] <;> omega) | (simp <;> omega)) | omega | (simp; omega)))⟩
        | true =>
          go_enter Try.func70, Try.ntmps70
          go_wp2_with (first
            | (go_at_call 69; refine (r_Absent _ x _ ?_).mono ?_; exact HR.out.keep (below_keeps (by (repeat' (first | (with_reducible exact Below.refl _ _) | (with_reducible assumption) | (with_reducible refine below_plus ?_ ?_ _) | (with_reducible refine Below.alloc ?_ ?_ _) | (with_reducible refine Below.drew ?_) | (with_reducible refine below_drewN ?_ _) | (with_reducible refine Below.setCell ?_ ?_ _) | (first | omega | (simp only [World.size_alloc, size_plus, World.size_drew, World.size_setCell] <;> omega) | (simp <;> omega)) | omega | (simp; omega))))); rintro e w' ⟨rfl, hb⟩; (first | (obtain ⟨X, rfl⟩ := plus_again hb) | (obtain ⟨X, rfl⟩ := plus_of_below hb)); clear hb; rw [ha])
            | (go_at_call 98; refine (r_values _ x _ ?_).mono ?_; exact HR.out.keep (below_keeps (by (repeat' (first | (with_reducible exact Below.refl _ _) | (with_reducible assumption) | (with_reducible refine below_plus ?_ ?_ _) | (with_reducible refine Below.alloc ?_ ?_ _) | (with_reducible refine Below.drew ?_) | (with_reducible refine below_drewN ?_ _) | (with_reducible refine Below.setCell ?_ ?_ _) | (first | omega | (simp only [World.size_alloc, size_plus, World.size_drew, World.size_setCell] <;> omega) | (simp <;> omega)) | omega | (simp; omega))))); rintro e w' ⟨rfl, hb⟩; (first | (obtain ⟨X, rfl⟩ := plus_again hb) | (obtain ⟨X, rfl⟩ := plus_of_below hb)); clear hb; rw [hz]))
          go_loopw [5, 6] (fun s i wr => ∃ k : Nat, k ≤ 8 ∧ i = .int .i64 k ∧ s = .bool (someTo x k) ∧ allTo (shOk x sub) k = true ∧ ∃ X, wr = (w.alloc (.cells (cellsN x (.slice A x.n cap)) 26)).plus X) (fun _ i _ => 8 - (intOf i).toNat)
          case atStart => exact ⟨0, by omega, rfl, rfl, rfl, plus_of_below (by (repeat' (first | (with_reducible exact Below.refl _ _) | (with_reducible assumption) | (with_reducible refine below_plus ?_ ?_ _) | (with_reducible refine Below.alloc ?_ ?_ _) | (with_reducible refine Below.drew ?_) | (with_reducible refine below_drewN ?_ _) | (with_reducible refine Below.setCell ?_ ?_ _) | (first | omega | (simp only [World.size_alloc, size_plus, World.size_drew, World.size_setCell] <;> omega) | (simp <;> omega)) | omega | (simp; omega))))⟩
          case round =>
            obtain ⟨k, hk, rfl, rfl, hok, Y, rfl⟩ := hrel
            by_cases hlt : k < 8
            · obtain ⟨g, b, s, rfl, hgl, -, hvk, hck⟩ := encK_kid (i := k) HK.out (by omega)
              have hrow := row11 hck
              have HC := Lib.hid hck
              have HV := Lib.hid hvk
              clear hvk hck
              have Hsh : Hid (shOk x sub k = if absentB (x.kid k) then !(bitB x.t0 k || bitB x.t1 k) else sub k && (bitB x.t0 k == ((x.kid k).t0 != 0)) && (bitB x.t1 k == ((x.kid k).t1 != 0))) := rfl
              cases hak : absentB (x.kid k) with
              | true =>
                cases hb0 : bitB x.t0 k <;> cases hb1 : bitB x.t1 k
                all_goals
                  go_wp2_with (first
                    | (go_at_call 69; refine (r_Absent _ (x.kid k) _ ?_).mono ?_; exact HV.out.keep (below_keeps (by (repeat' (first | (with_reducible exact Below.refl _ _) | (with_reducible assumption) | (with_reducible refine below_plus ?_ ?_ _) | (with_reducible refine Below.alloc ?_ ?_ _) | (with_reducible refine Below.drew ?_) | (with_reducible refine below_drewN ?_ _) | (with_reducible refine Below.setCell ?_ ?_ _) | (first | omega | (simp only [World.size_alloc, size_plus, World.size_drew, World.size_setCell] <;> omega) | (simp <;> omega)) | omega | (simp; omega))))); rintro e w' ⟨rfl, hb⟩; (first | (obtain ⟨X, rfl⟩ := plus_again hb) | (obtain ⟨X, rfl⟩ := plus_of_below hb)); clear hb; rw [hak])
                    | (go_at_call 99; (with_reducible refine (r_bit x.t0 k _ hlt).mono ?_); rintro e w' ⟨rfl, rfl⟩; rw [hb0])
                    | (go_at_call 99; (with_reducible refine (r_bit x.t1 k _ hlt).mono ?_); rintro e w' ⟨rfl, rfl⟩; rw [hb1])
                    | ((with_reducible refine wpList_loadN (.tmp 59) ?_ ?_ (g) (b + k * 11) ?_ (x.kid k) (s) ?_ ?_); (with_reducible rfl); rfl; rfl; (intro j v hj; exact below_keeps (by (repeat' (first | (with_reducible exact Below.refl _ _) | (with_reducible assumption) | (with_reducible refine below_plus ?_ ?_ _) | (with_reducible refine Below.alloc ?_ ?_ _) | (with_reducible refine Below.drew ?_) | (with_reducible refine below_drewN ?_ _) | (with_reducible refine Below.setCell ?_ ?_ _) | (first | omega | (simp only [World.size_alloc, size_plus, World.size_drew, World.size_setCell] <;> omega) | (simp <;> omega)) | omega | (simp; omega)))) _ _ (HC.out j v hj))))
                  first
                    | (go_ret
                       exact ⟨by simp [shapeW, HL1.out, allTo_not hlt (show shOk x sub k = false by rw [Hsh.out, hak, hb0, hb1]; rfl)] <;> (intros; omega), by (repeat' (first | (with_reducible exact Below.refl _ _) | (with_reducible assumption) | (with_reducible refine below_plus ?_ ?_ _) | (with_reducible refine Below.alloc ?_ ?_ _) | (with_reducible refine Below.drew ?_) | (with_reducible refine below_drewN ?_ _) | (with_reducible refine Below.setCell ?_ ?_ _) | (first | omega | (simp only [World.size_alloc, size_plus, World.size_drew, World.size_setCell] <;> omega) | (simp <;> omega)) | omega | (simp; omega)))⟩)
                    | exact ⟨⟨k + 1, by omega, by go_num, by rw [someTo_succ, hak]; simp, by rw [allTo_succ, hok, Hsh.out, hak, hb0, hb1]; rfl, plus_of_below (by (repeat' (first | (with_reducible exact Below.refl _ _) | (with_reducible assumption) | (with_reducible refine below_plus ?_ ?_ _) | (with_reducible refine Below.alloc ?_ ?_ _) | (with_reducible refine Below.drew ?_) | (with_reducible refine below_drewN ?_ _) | (with_reducible refine Below.setCell ?_ ?_ _) | (first | omega | (simp only [World.size_alloc, size_plus, World.size_drew, World.size_setCell] <;> omega) | (simp <;> omega)) | omega | (simp; omega))))⟩, by simp [intOf]; omega⟩
              | false =>
                cases hsb : sub k <;> cases hd0 : (bitB x.t0 k == ((x.kid k).t0 != 0)) <;> cases hd1 : (bitB x.t1 k == ((x.kid k).t1 != 0))
                all_goals
                  go_wp2_with (first
                    | (go_at_call 69; refine (r_Absent _ (x.kid k) _ ?_).mono ?_; exact HV.out.keep (below_keeps (by (repeat' (first | (with_reducible exact Below.refl _ _) | (with_reducible assumption) | (with_reducible refine below_plus ?_ ?_ _) | (with_reducible refine Below.alloc ?_ ?_ _) | (with_reducible refine Below.drew ?_) | (with_reducible refine below_drewN ?_ _) | (with_reducible refine Below.setCell ?_ ?_ _) | (first | omega | (simp only [World.size_alloc, size_plus, World.size_drew, World.size_setCell] <;> omega) | (simp <;> omega)) | omega | (simp; omega))))); rintro e w' ⟨rfl, hb⟩; (first | (obtain ⟨X, rfl⟩ := plus_again hb) | (obtain ⟨X, rfl⟩ := plus_of_below hb)); clear hb; rw [hak])
                    | ((with_reducible refine wpList_loadN (.tmp 59) ?_ ?_ (g) (b + k * 11) ?_ (x.kid k) (s) ?_ ?_); (with_reducible rfl); rfl; rfl; (intro j v hj; exact below_keeps (by (repeat' (first | (with_reducible exact Below.refl _ _) | (with_reducible assumption) | (with_reducible refine below_plus ?_ ?_ _) | (with_reducible refine Below.alloc ?_ ?_ _) | (with_reducible refine Below.drew ?_) | (with_reducible refine below_drewN ?_ _) | (with_reducible refine Below.setCell ?_ ?_ _) | (first | omega | (simp only [World.size_alloc, size_plus, World.size_drew, World.size_setCell] <;> omega) | (simp <;> omega)) | omega | (simp; omega)))) _ _ (HC.out j v hj))))
                  (refine wp_region_quiet_plus (by kernel_rfl) (by kernel_rfl) ?_; (repeat (go_big_quiet_step ((first
                    | (go_at_call 70; exact Calls.quiet_plus (hsb ▸ HI.out k (cellsN (x.kid k) s) _ (by omega) (HV.out.keep (below_keeps (by (repeat' (first | (with_reducible exact Below.refl _ _) | (with_reducible assumption) | (with_reducible refine below_plus ?_ ?_ _) | (with_reducible refine Below.alloc ?_ ?_ _) | (with_reducible refine Below.drew ?_) | (with_reducible refine below_drewN ?_ _) | (with_reducible refine Below.setCell ?_ ?_ _) | (first | omega | (simp only [World.size_alloc, size_plus, World.size_drew, World.size_setCell] <;> omega) | (simp <;> omega)) | omega | (simp; omega))))))))
                    | (go_at_call 99; (with_reducible refine Calls.quiet_plus_same (r_bit x.t0 k _ hlt)))
                    | (go_at_call 99; (with_reducible refine Calls.quiet_plus_same (r_bit x.t1 k _ hlt))))))); refine wpQuiet_nil ?_; intro _)
                  go_wp2_with fail
                  first
                    | (go_ret
                       exact ⟨by simp [shapeW, HL1.out, allTo_not hlt (show shOk x sub k = false by rw [Hsh.out, hak, hsb, hd0, hd1]; rfl)] <;> (intros; omega), by (repeat' (first | (with_reducible exact Below.refl _ _) | (with_reducible assumption) | (with_reducible refine below_plus ?_ ?_ _) | (with_reducible refine Below.alloc ?_ ?_ _) | (with_reducible refine Below.drew ?_) | (with_reducible refine below_drewN ?_ _) | (with_reducible refine Below.setCell ?_ ?_ _) | (first | omega | (simp only [World.size_alloc, size_plus, World.size_drew, World.size_setCell] <;> omega) | (simp <;> omega)) | omega | (simp; omega)))⟩)
                    | exact ⟨⟨k + 1, by omega, by go_num, by rw [someTo_succ, hak]; simp, by rw [allTo_succ, hok, Hsh.out, hak, hsb, hd0, hd1]; rfl, plus_of_below (by (repeat' (first | (with_reducible exact Below.refl _ _) | (with_reducible assumption) | (with_reducible refine below_plus ?_ ?_ _) | (with_reducible refine Below.alloc ?_ ?_ _) | (with_reducible refine Below.drew ?_) | (with_reducible refine below_drewN ?_ _) | (with_reducible refine Below.setCell ?_ ?_ _) | (first | omega | (simp only [World.size_alloc, size_plus, World.size_drew, World.size_setCell] <;> omega) | (simp <;> omega)) | omega | (simp; omega))))⟩, by simp [intOf]; omega⟩
            · obtain rfl : k = 8 := by omega
              go_wp2_with fail
              go_ret
              exact ⟨by simp [shapeW, HL1.out, hz, HT.out, ha, hok, HN.out], by (repeat' (first | (with_reducible exact Below.refl _ _) | (with_reducible assumption) | (with_reducible refine below_plus ?_ ?_ _) | (with_reducible refine Below.alloc ?_ ?_ _) | (with_reducible refine Below.drew ?_) | (with_reducible refine below_drewN ?_ _) | (with_reducible refine Below.setCell ?_ ?_ _) | (first | omega | (simp only [World.size_alloc, size_plus, World.size_drew, World.size_setCell] <;> omega) | (simp <;> omega)) | omega | (simp; omega)))⟩
/-- The reference's shape, for every node and every level from 1 to 10. -/
theorem r_shape (x : RN) : ∀ (l : Int) (cs : Array Value) (w : World), 1 ≤ l → l ≤ 10 → RdVals w cs 11 (encN x) →
    Calls Try.prog 70 #[.agg cs, .int .i64 l] w fun e w' => e = .returned (.bool (shapeB x l)) ∧ Below w.heap.size w w' := by
  induction x with
  | mk v t0 t1 n kid ih =>
    intro l cs w h1 h10 h
    rw [shapeB_eq]
    by_cases hl : l = 1
    · subst hl
      exact r_shape_leaf cs _ w h _
    · exact r_shape_inner cs _ l w h _ (by omega) h10 fun i cs' w' hi h' => by
        have hi' : i < n := hi
        rw [RN.kid_mk _ _ _ _ _ _ hi'] at h' ⊢
        exact ih ⟨i, hi'⟩ (l - 1) cs' w' (by omega) (by omega) h'

end Go.Proofs.Ytcicfijpfhbcaaa
