/-
  radix.Check.
-/
import Derived.Test.YtcicfijpfhbcaaaValid
namespace Go.Proofs.Ytcicfijpfhbcaaa
set_option linter.unusedSimpArgs false
set_option linter.unusedVariables false
set_option linter.unusedSectionVars false
open Go.RowKit

/-- A tree's twelve cells. -/
def encR (h : Int) (x : RN) (j : Nat) : D := if j = 0 then .v (.int .i64 h) else encN x (j - 1)
def cellsR (h : Int) (x : RN) (s : Value) : Array Value := #[.int .i64 h, .int .i64 (x.v 0), .int .i64 (x.v 1), .int .i64 (x.v 2), .int .i64 (x.v 3), .int .i64 (x.v 4), .int .i64 (x.v 5), .int .i64 (x.v 6), .int .i64 (x.v 7), .int .i64 x.t0, .int .i64 x.t1, s]
@[go_sem] theorem cellsR_0 (h : Int) (x : RN) (s : Value) : (cellsR h x s)[0]? = some (.int .i64 h) := rfl
@[go_sem] theorem cellsR_1 (h : Int) (x : RN) (s : Value) : (cellsR h x s)[1]? = some (.int .i64 (x.v 0)) := rfl
@[go_sem] theorem cellsR_2 (h : Int) (x : RN) (s : Value) : (cellsR h x s)[2]? = some (.int .i64 (x.v 1)) := rfl
@[go_sem] theorem cellsR_3 (h : Int) (x : RN) (s : Value) : (cellsR h x s)[3]? = some (.int .i64 (x.v 2)) := rfl
@[go_sem] theorem cellsR_4 (h : Int) (x : RN) (s : Value) : (cellsR h x s)[4]? = some (.int .i64 (x.v 3)) := rfl
@[go_sem] theorem cellsR_5 (h : Int) (x : RN) (s : Value) : (cellsR h x s)[5]? = some (.int .i64 (x.v 4)) := rfl
@[go_sem] theorem cellsR_6 (h : Int) (x : RN) (s : Value) : (cellsR h x s)[6]? = some (.int .i64 (x.v 5)) := rfl
@[go_sem] theorem cellsR_7 (h : Int) (x : RN) (s : Value) : (cellsR h x s)[7]? = some (.int .i64 (x.v 6)) := rfl
@[go_sem] theorem cellsR_8 (h : Int) (x : RN) (s : Value) : (cellsR h x s)[8]? = some (.int .i64 (x.v 7)) := rfl
@[go_sem] theorem cellsR_9 (h : Int) (x : RN) (s : Value) : (cellsR h x s)[9]? = some (.int .i64 x.t0) := rfl
@[go_sem] theorem cellsR_10 (h : Int) (x : RN) (s : Value) : (cellsR h x s)[10]? = some (.int .i64 x.t1) := rfl
@[go_sem] theorem cellsR_11 (h : Int) (x : RN) (s : Value) : (cellsR h x s)[11]? = some s := rfl
@[go_sem] theorem cellsR_size (h : Int) (x : RN) (s : Value) : (cellsR h x s).size = 12 := rfl
theorem rdR_open {w : World} {cs : Array Value} {ht : Int} {x : RN} (h : RdVals w cs 12 (encR ht x)) :
    ∃ A cap, cs = cellsR ht x (.slice A x.n cap) ∧ RdC w (encK x) (.slice A x.n cap) := by
  obtain ⟨hs, hc⟩ := h
  obtain ⟨l⟩ := cs
  match l, hs with
  | c :: l, hs =>
    obtain ⟨y, e0, h0⟩ := hc 0 (by omega)
    simp at e0
    subst e0
    simp only [encR, if_true, RdC] at h0
    subst h0
    have hN : RdVals w ⟨l⟩ 11 (encN x) := by
      refine ⟨by simpa using hs, fun j hj => ?_⟩
      obtain ⟨y, e, hy⟩ := hc (j + 1) (by omega)
      exact ⟨y, by simpa using e, by simpa [encR] using hy⟩
    obtain ⟨A, cap, e, hk⟩ := rdN_open hN
    exact ⟨A, cap, by simp only [cellsN, Array.mk.injEq] at e; rw [e]; rfl, hk⟩
theorem rdR_shut {w : World} {ht : Int} {x : RN} {s : Value} (h : RdC w (encK x) s) : RdVals w (cellsR ht x s) 12 (encR ht x) := by
  refine ⟨rfl, fun j hj => ?_⟩
  match j, hj with
  | 0, _ => exact ⟨.int .i64 ht, rfl, by simp [encR, RdC]⟩
  | j + 1, hj =>
    obtain ⟨y, e, hy⟩ := (rdN_shut h).2 j (by omega)
    exact ⟨y, by simpa [cellsR, cellsN] using e, by simpa [encR] using hy⟩

/-- Some child from number 1 to k is there. -/
def laterTo (x : RN) (k : Nat) : Bool := (List.range k).any (fun i => !absentB (x.kid (i + 1)))
theorem laterTo_succ (x : RN) (k : Nat) : laterTo x (k + 1) = (laterTo x k || !absentB (x.kid (k + 1))) := by simp [laterTo, List.range_succ]
theorem laterTo_of {x : RN} {k : Nat} (hk : k < 7) (h : absentB (x.kid (k + 1)) = false) : laterTo x 7 = true := by
  rw [laterTo, List.any_eq_true]
  exact ⟨k, List.mem_range.2 hk, by simp [h]⟩
/-- What radix.Check answers. -/
def checkP (h : Int) (x : RN) : Int :=
  if h < 0 ∨ 10 < h then 2 else if h = 0 then (if absentB x then 0 else 3) else if validB x h then (if h = 1 ∨ laterTo x 7 then 0 else 3) else 3
theorem valid_n {x : RN} {l : Int} (h : validB x l = true) (hl : 1 < l) : x.n = 8 := by
  rw [validB_eq] at h
  simp only [validW, Bool.and_eq_true] at h
  have := h.1.1.2
  simp only [okTo, List.all_eq_true] at this
  have := this 0 (by simp)
  simp [okB, hl] at this
  exact this.1.1.1

set_option maxRecDepth 100000 in
set_option maxHeartbeats 1000000 in
theorem p_Check (cs : Array Value) (ht : Int) (x : RN) (w : World) (h : RdVals w cs 12 (encR ht x)) :
    Calls Try.prog 19 #[.agg cs] w fun e w' => e = .returned (.int .i64 (checkP ht x)) ∧ Below w.heap.size w w' := by
  obtain ⟨A, cap, rfl, hk⟩ := rdR_open h
  have hcap := encK_n hk
  have HV : Hid (RdVals w (cellsN x (.slice A x.n cap)) 11 (encN x)) := rdN_shut hk
  have HK := Lib.hid hk
  clear h hk
  by_cases hr : ht < 0 ∨ 10 < ht
  · have e1 : checkP ht x = 2 := by simp [checkP, hr]
    rcases hr with hr | hr
    all_goals
      go_enter Try.func19, Try.ntmps19
      go_wp2_with fail
      all_goals
        go_ret
        exact ⟨rfl, by (repeat' (first | (with_reducible exact Below.refl _ _) | (with_reducible assumption) | (with_reducible refine below_plus ?_ ?_ _) | (with_reducible refine Below.alloc ?_ ?_ _) | (with_reducible refine Below.drew ?_) | (with_reducible refine below_drewN ?_ _) | (with_reducible refine Below.setCell ?_ ?_ _) | (first | omega | (simp only [World.size_alloc, size_plus, World.size_drew, World.size_setCell] <;> omega) | (simp <;> omega)) | omega | (simp; omega)))⟩
  · have h0 : 0 ≤ ht := by omega
    have h10 : ht ≤ 10 := by omega
    by_cases hz : ht = 0
    · subst hz
      cases ha : absentB x
      all_goals
        go_enter Try.func19, Try.ntmps19
        go_wp2_with (go_at_call 67; refine (p_absent _ x _ ?_).mono ?_; exact HV.out.keep (below_keeps (by (repeat' (first | (with_reducible exact Below.refl _ _) | (with_reducible assumption) | (with_reducible refine below_plus ?_ ?_ _) | (with_reducible refine Below.alloc ?_ ?_ _) | (with_reducible refine Below.drew ?_) | (with_reducible refine below_drewN ?_ _) | (with_reducible refine Below.setCell ?_ ?_ _) | (first | omega | (simp only [World.size_alloc, size_plus, World.size_drew, World.size_setCell] <;> omega) | (simp <;> omega)) | omega | (simp; omega))))); rintro e w' ⟨rfl, hb⟩; (first | (obtain ⟨X, rfl⟩ := plus_again hb) | (obtain ⟨X, rfl⟩ := plus_of_below hb)); clear hb; rw [ha])
        go_ret
        exact ⟨by simp [checkP, ha], by (repeat' (first | (with_reducible exact Below.refl _ _) | (with_reducible assumption) | (with_reducible refine below_plus ?_ ?_ _) | (with_reducible refine Below.alloc ?_ ?_ _) | (with_reducible refine Below.drew ?_) | (with_reducible refine below_drewN ?_ _) | (with_reducible refine Below.setCell ?_ ?_ _) | (first | omega | (simp only [World.size_alloc, size_plus, World.size_drew, World.size_setCell] <;> omega) | (simp <;> omega)) | omega | (simp; omega)))⟩
    · have h1 : 1 ≤ ht := by omega
      have hb0 : (ht == 0) = false := by simp [hz]
      cases hv : validB x ht with
      | false =>
        go_enter Try.func19, Try.ntmps19
        go_wp2_with (go_at_call 68; refine (p_valid x ht _ _ h1 h10 ?_).mono ?_; exact HV.out.keep (below_keeps (by (repeat' (first | (with_reducible exact Below.refl _ _) | (with_reducible assumption) | (with_reducible refine below_plus ?_ ?_ _) | (with_reducible refine Below.alloc ?_ ?_ _) | (with_reducible refine Below.drew ?_) | (with_reducible refine below_drewN ?_ _) | (with_reducible refine Below.setCell ?_ ?_ _) | (first | omega | (simp only [World.size_alloc, size_plus, World.size_drew, World.size_setCell] <;> omega) | (simp <;> omega)) | omega | (simp; omega))))); rintro e w' ⟨rfl, hb⟩; (first | (obtain ⟨X, rfl⟩ := plus_again hb) | (obtain ⟨X, rfl⟩ := plus_of_below hb)); clear hb; rw [hv])
        go_ret
        exact ⟨by simp [checkP, hz, hv]; omega, by (repeat' (first | (with_reducible exact Below.refl _ _) | (with_reducible assumption) | (with_reducible refine below_plus ?_ ?_ _) | (with_reducible refine Below.alloc ?_ ?_ _) | (with_reducible refine Below.drew ?_) | (with_reducible refine below_drewN ?_ _) | (with_reducible refine Below.setCell ?_ ?_ _) | (first | omega | (simp only [World.size_alloc, size_plus, World.size_drew, World.size_setCell] <;> omega) | (simp <;> omega)) | omega | (simp; omega)))⟩
      | true =>
        by_cases hh : ht = 1
        · subst hh
          go_enter Try.func19, Try.ntmps19
          go_wp2_with (go_at_call 68; refine (p_valid x 1 _ _ h1 h10 ?_).mono ?_; exact HV.out.keep (below_keeps (by (repeat' (first | (with_reducible exact Below.refl _ _) | (with_reducible assumption) | (with_reducible refine below_plus ?_ ?_ _) | (with_reducible refine Below.alloc ?_ ?_ _) | (with_reducible refine Below.drew ?_) | (with_reducible refine below_drewN ?_ _) | (with_reducible refine Below.setCell ?_ ?_ _) | (first | omega | (simp only [World.size_alloc, size_plus, World.size_drew, World.size_setCell] <;> omega) | (simp <;> omega)) | omega | (simp; omega))))); rintro e w' ⟨rfl, hb⟩; (first | (obtain ⟨X, rfl⟩ := plus_again hb) | (obtain ⟨X, rfl⟩ := plus_of_below hb)); clear hb; rw [hv])
          go_ret
          exact ⟨by simp [checkP, hv], by (repeat' (first | (with_reducible exact Below.refl _ _) | (with_reducible assumption) | (with_reducible refine below_plus ?_ ?_ _) | (with_reducible refine Below.alloc ?_ ?_ _) | (with_reducible refine Below.drew ?_) | (with_reducible refine below_drewN ?_ _) | (with_reducible refine Below.setCell ?_ ?_ _) | (first | omega | (simp only [World.size_alloc, size_plus, World.size_drew, World.size_setCell] <;> omega) | (simp <;> omega)) | omega | (simp; omega)))⟩
        · have hb1 : (ht == 1) = false := by simp [hh]
          have hn := valid_n hv (by omega)
          have hn8 : 8 ≤ x.n := by omega
          have hn8' : x.n ≤ 8 := by omega
          obtain ⟨g, b, s0, rfl, hgl, -⟩ := encK_kid (i := 0) HK.out (by omega)
          have hc8 := encK_cap HK.out
          have hc : 8 ≤ cap := by omega
          have hc' : cap ≤ 9223372036854775807 := hc8.2
          have HN := Lib.hid hn
          clear hn hc8
          go_enter Try.func19, Try.ntmps19
          go_wp2_with (go_at_call 68; refine (p_valid x ht _ _ h1 h10 ?_).mono ?_; exact HV.out.keep (below_keeps (by (repeat' (first | (with_reducible exact Below.refl _ _) | (with_reducible assumption) | (with_reducible refine below_plus ?_ ?_ _) | (with_reducible refine Below.alloc ?_ ?_ _) | (with_reducible refine Below.drew ?_) | (with_reducible refine below_drewN ?_ _) | (with_reducible refine Below.setCell ?_ ?_ _) | (first | omega | (simp only [World.size_alloc, size_plus, World.size_drew, World.size_setCell] <;> omega) | (simp <;> omega)) | omega | (simp; omega))))); rintro e w' ⟨rfl, hb⟩; (first | (obtain ⟨X, rfl⟩ := plus_again hb) | (obtain ⟨X, rfl⟩ := plus_of_below hb)); clear hb; rw [hv])
          go_loopw [34] (fun i wr => ∃ k : Nat, k ≤ 7 ∧ i = .int .i64 k ∧ laterTo x k = false ∧ ∃ X, wr = (w.alloc (.cells (cellsR ht x (.slice (some ⟨g, b, none⟩) x.n cap)) 28)).plus X) (fun i _ => 7 - (intOf i).toNat)
          case atStart => exact ⟨0, by omega, rfl, rfl, X, rfl⟩
          case round =>
            obtain ⟨k, hk, rfl, hlt0, Y, rfl⟩ := hrel
            by_cases hlt : k < 7
            · obtain ⟨g', b', s, hA, hgl', hsk, hvk, hck⟩ := encK_kid (i := k + 1) HK.out (by omega)
              obtain ⟨A', cap2, rfl, -⟩ := hsk
              simp only [Option.some.injEq, Addr.mk.injEq, and_true] at hA
              obtain ⟨rfl, rfl⟩ := hA
              rw [show b + (k + 1) * 11 = b + 11 + k * 11 from by omega] at hck
              have HC := Lib.hid hck
              have HV' := Lib.hid hvk
              have hkn : k < x.n - 1 := by omega
              clear hck hvk
              cases ha : absentB (x.kid (k + 1))
              all_goals
                go_wp2_with (first
                  | ((with_reducible refine wpList_loadN (.tmp 36) ?_ ?_ (g) (b + 11 + k * 11) ?_ (x.kid (k + 1)) (.slice A' (x.kid (k + 1)).n cap2) ?_ ?_); (with_reducible rfl); rfl; rfl; (intro j v hj; exact below_keeps (by (repeat' (first | (with_reducible exact Below.refl _ _) | (with_reducible assumption) | (with_reducible refine below_plus ?_ ?_ _) | (with_reducible refine Below.alloc ?_ ?_ _) | (with_reducible refine Below.drew ?_) | (with_reducible refine below_drewN ?_ _) | (with_reducible refine Below.setCell ?_ ?_ _) | (first | omega | (simp only [World.size_alloc, size_plus, World.size_drew, World.size_setCell] <;> omega) | (simp <;> omega)) | omega | (simp; omega)))) _ _ (HC.out j v hj)))
                  | ((with_reducible refine wpList_storeN_new (.tmp 4) (.tmp 37) ?_ ?_ (w.heap.size + 1 + Y.objs.size) ?_ (x.kid (k + 1)) A' (x.kid (k + 1)).n cap2 ?_ ?_ ?_ ?_); (with_reducible rfl); rfl; rfl; rfl; rfl; (focus (first | omega | (simp only [World.size_alloc, size_plus, World.size_drew, World.size_setCell] <;> omega) | (simp <;> omega))))
                  | (go_at_call 67; refine (p_absent _ (x.kid (k + 1)) _ ?_).mono ?_; exact HV'.out.keep (below_keeps (by (repeat' (first | (with_reducible exact Below.refl _ _) | (with_reducible assumption) | (with_reducible refine below_plus ?_ ?_ _) | (with_reducible refine Below.alloc ?_ ?_ _) | (with_reducible refine Below.drew ?_) | (with_reducible refine below_drewN ?_ _) | (with_reducible refine Below.setCell ?_ ?_ _) | (first | omega | (simp only [World.size_alloc, size_plus, World.size_drew, World.size_setCell] <;> omega) | (simp <;> omega)) | omega | (simp; omega))))); rintro e w' ⟨rfl, hb⟩; (first | (obtain ⟨X, rfl⟩ := plus_again hb) | (obtain ⟨X, rfl⟩ := plus_of_below hb)); clear hb; rw [ha]))
                first
                  | (go_ret
                     exact ⟨by simp [checkP, hz, hh, hv, laterTo_of hlt ha] <;> (intros; omega), by (repeat' (first | (with_reducible exact Below.refl _ _) | (with_reducible assumption) | (with_reducible refine below_plus ?_ ?_ _) | (with_reducible refine Below.alloc ?_ ?_ _) | (with_reducible refine Below.drew ?_) | (with_reducible refine below_drewN ?_ _) | (with_reducible refine Below.setCell ?_ ?_ _) | (first | omega | (simp only [World.size_alloc, size_plus, World.size_drew, World.size_setCell] <;> omega) | (simp <;> omega)) | omega | (simp; omega)))⟩)
                  | exact ⟨⟨k + 1, by omega, by go_num, by rw [laterTo_succ, hlt0, ha]; rfl, plus_of_below (by (repeat' (first | (with_reducible exact Below.refl _ _) | (with_reducible assumption) | (with_reducible refine below_plus ?_ ?_ _) | (with_reducible refine Below.alloc ?_ ?_ _) | (with_reducible refine Below.drew ?_) | (with_reducible refine below_drewN ?_ _) | (with_reducible refine Below.setCell ?_ ?_ _) | (first | omega | (simp only [World.size_alloc, size_plus, World.size_drew, World.size_setCell] <;> omega) | (simp <;> omega)) | omega | (simp; omega))))⟩, by simp [intOf]; omega⟩
            · obtain rfl : k = 7 := by omega
              go_wp2_with fail
              go_ret
              exact ⟨by simp [checkP, hz, hh, hv, hlt0] <;> (intros; omega), by (repeat' (first | (with_reducible exact Below.refl _ _) | (with_reducible assumption) | (with_reducible refine below_plus ?_ ?_ _) | (with_reducible refine Below.alloc ?_ ?_ _) | (with_reducible refine Below.drew ?_) | (with_reducible refine below_drewN ?_ _) | (with_reducible refine Below.setCell ?_ ?_ _) | (first | omega | (simp only [World.size_alloc, size_plus, World.size_drew, World.size_setCell] <;> omega) | (simp <;> omega)) | omega | (simp; omega)))⟩
end Go.Proofs.Ytcicfijpfhbcaaa
