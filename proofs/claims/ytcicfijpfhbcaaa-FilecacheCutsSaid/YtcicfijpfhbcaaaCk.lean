/-
  The fixed example of the laws, in plain words.
-/
/-
  The laws' fixed example holds: awake.
-/
/-
  estoversref04.Check, New, Same; the law RadixChecks.
-/
import Derived.Test.YtcicfijpfhbcaaaNx
import Derived.Test.YtcicfijpfhbcaaaTg
namespace Go.Proofs.Ytcicfijpfhbcaaa
set_option linter.unusedSimpArgs false
set_option linter.unusedVariables false
set_option linter.unusedSectionVars false
open Go.RowKit

def aw1 : Int × RN × Int := setP 0 zeroN 0 5
def aw2 : Int × RN × Int := setP aw1.1 aw1.2.1 9 7
def aw3 : Int × RN × Int := markP aw2.1 aw2.2.1 9 0 true
theorem aw1_e : aw1.2.2 = 0 := by decide +kernel
theorem aw1_h : aw1.1 = 1 := by decide +kernel
theorem aw1_v : aw1.2.1.v 0 = 5 := by decide +kernel
theorem aw2_e : aw2.2.2 = 0 := by decide +kernel
theorem aw2_h : aw2.1 = 2 := by decide +kernel
theorem aw2_n : aw2.2.1.n = 8 := by decide +kernel
theorem aw2_v : (aw2.2.1.kid 1).v 1 = 7 := by decide +kernel
theorem aw3_e : aw3.2.2 = 0 := by decide +kernel
theorem aw3_t : aw3.2.1.t0 = 2 := by decide +kernel
theorem aw3_n0 : nextP aw3.1 aw3.2.1 0 0 = 9 := by decide +kernel
theorem aw3_n1 : nextP aw3.1 aw3.2.1 0 1 = -1 := by decide +kernel
theorem aw3_n2 : nextP aw3.1 aw3.2.1 1 (-1) = 9 := by decide +kernel
theorem aw3_g : getP aw3.1 aw3.2.1 0 = 5 := by decide +kernel
theorem aw3_c : countP aw3.1 aw3.2.1 (-1) = 2 := by decide +kernel
theorem aw_c : checkP 1 zeroN = 3 := by decide +kernel
end Go.Proofs.Ytcicfijpfhbcaaa
namespace Go.Proofs.Ytcicfijpfhbcaaa
set_option linter.unusedSimpArgs false
set_option linter.unusedVariables false
set_option linter.unusedSectionVars false
open Go.RowKit

theorem wpList_storeR_new {ops : Array Oper} {rest : List Oper} {o : Oper} {a : Act} {w : World} {old : Array Value} {t : TypeId} {Q : Exit → Act → World → Prop} (x z : Operand) (ho : o.op = .store 28 x z) (hw : Region.wanted o (yielded ops a.tmps) = true)
    (g : Nat) (hx : a.eval x = .pointer (some ⟨g, 0, none⟩)) (ht : Int) (y : RN) (A : Option Addr) (len cap : Nat) (hz : a.eval z = .agg (cellsR ht y (.slice A len cap))) (hold : old.size = 12) (hg : g = w.heap.size)
    (h : wpList Try.prog ops Q rest (a.put o.dst undef) (w.alloc (.cells (cellsR ht y (.slice A len cap)) t))) : wpList Try.prog ops Q (o :: rest) a (w.alloc (.cells old t)) :=
  wpList_storeR x z ho hw g hx ht y A len cap hz old t (heap_alloc_here _ _ _ hg) hold (by rw [setRow_alloc_eq _ _ _ _ _ _ hg]; exact h)

def TreeOut (h : Int) (x : RN) (er : Int) (w : World) (e : Ending) (w' : World) : Prop :=
  ∃ s, e = .returned (.tuple #[.agg (cellsR h x s), .int .i64 er]) ∧ OwnK w' x s (fun b => w.heap.size ≤ b) ∧ Below w.heap.size w w'
theorem aw3_h : aw3.1 = 2 := by decide +kernel
theorem rd_of_own {w w' : World} {x : RN} {s : Value} {S : Nat → Prop} (h : OwnK w x s S) (hb : Below w.heap.size w w') (ht : Int) : RdVals w' (cellsR ht x s) 12 (encR ht x) := (rdR_shut h.rd).keep (below_keeps hb)

set_option maxRecDepth 100000 in
set_option maxHeartbeats 1000000 in
theorem l_awake (w : World) : Calls Try.prog 17 #[] w fun e w' => e = .returned (.bool true) ∧ Below w.heap.size w w' := by
  obtain ⟨x1, h1⟩ : ∃ x1, aw1 = (1, x1, 0) := ⟨aw1.2.1, by rw [← aw1_h, ← aw1_e]⟩
  have v1 := aw1_v
  have HS1 : Hid (∀ cs w, RdVals w cs 12 (encR 0 zeroN) → Calls Try.prog 24 #[.agg cs, .int .i64 0, .int .i64 5] w (TreeOut 1 x1 0 w)) := fun cs w h => by
    have := p_Set cs 0 zeroN 0 5 w h
    rw [show setP 0 zeroN 0 5 = aw1 from rfl, h1] at this; exact this
  obtain ⟨x2, h2⟩ : ∃ x2, aw2 = (2, x2, 0) := ⟨aw2.2.1, by rw [← aw2_h, ← aw2_e]⟩
  have v2 := aw2_v
  have n2 := aw2_n
  have HS2 : Hid (∀ cs w, RdVals w cs 12 (encR 1 x1) → Calls Try.prog 24 #[.agg cs, .int .i64 9, .int .i64 7] w (TreeOut 2 x2 0 w)) := fun cs w h => by
    have := p_Set cs 1 x1 9 7 w h
    rw [show setP 1 x1 9 7 = aw2 by unfold aw2; rw [h1], h2] at this; exact this
  obtain ⟨x3, h3⟩ : ∃ x3, aw3 = (2, x3, 0) := ⟨aw3.2.1, by rw [← aw3_h, ← aw3_e]⟩
  have t3 := aw3_t
  have HS3 : Hid (∀ cs w, RdVals w cs 12 (encR 2 x2) → Calls Try.prog 31 #[.agg cs, .int .i64 9, .int .i64 0] w (TreeOut 2 x3 0 w)) := fun cs w h => by
    have := p_Tag cs 2 x2 9 0 w h (by omega) (by omega)
    rw [show markP 2 x2 9 0 true = aw3 by unfold aw3; rw [h2], h3] at this; exact this
  have k0 := aw3_n0
  have k1 := aw3_n1
  have k2 := aw3_n2
  have kg := aw3_g
  have kc := aw3_c
  rw [h1] at v1
  rw [h2] at v2 n2
  rw [h3] at t3 k0 k1 k2 kg kc
  have v1' : (x1.v 0 != 5) = false := by rw [show x1.v 0 = 5 from v1]; rfl
  have v2' : ((x2.kid 1).v 1 != 7) = false := by rw [show (x2.kid 1).v 1 = 7 from v2]; rfl
  have n2' : Hid (x2.n = 8) := n2
  have t3' : (x3.t0 != 2) = false := by rw [show x3.t0 = 2 from t3]; rfl
  have HN0 : Hid (∀ cs w, RdVals w cs 12 (encR 2 x3) → Calls Try.prog 28 #[.agg cs, .int .i64 0, .int .i64 0] w fun e w' => e = .returned (.int .i64 9) ∧ Below w.heap.size w w') := fun cs w h => by
    have := p_Next cs 2 x3 0 0 w h
    rwa [show nextP 2 x3 0 0 = 9 from k0] at this
  have HN1 : Hid (∀ cs w, RdVals w cs 12 (encR 2 x3) → Calls Try.prog 28 #[.agg cs, .int .i64 0, .int .i64 1] w fun e w' => e = .returned (.int .i64 (-1)) ∧ Below w.heap.size w w') := fun cs w h => by
    have := p_Next cs 2 x3 0 1 w h
    rwa [show nextP 2 x3 0 1 = -1 from k1] at this
  have HN2 : Hid (∀ cs w, RdVals w cs 12 (encR 2 x3) → Calls Try.prog 28 #[.agg cs, .int .i64 1, .int .i64 (-1)] w fun e w' => e = .returned (.int .i64 9) ∧ Below w.heap.size w w') := fun cs w h => by
    have := p_Next cs 2 x3 1 (-1) w h
    rwa [show nextP 2 x3 1 (-1) = 9 from k2] at this
  have HG : Hid (∀ cs w, RdVals w cs 12 (encR 2 x3) → Calls Try.prog 26 #[.agg cs, .int .i64 0] w fun e w' => e = .returned (.int .i64 5) ∧ Below w.heap.size w w') := fun cs w h => by
    have := p_Get cs 2 x3 0 w h (by omega) (by omega)
    rwa [show getP 2 x3 0 = 5 from kg] at this
  have HCT : Hid (∀ cs w, RdVals w cs 12 (encR 2 x3) → Calls Try.prog 30 #[.agg cs, .int .i64 (-1)] w fun e w' => e = .returned (.int .i64 2) ∧ Below w.heap.size w w') := fun cs w h => by
    have := p_Count cs 2 x3 (-1) w h
    rwa [show countP 2 x3 (-1) = 2 from kc] at this
  have HCH : Hid (∀ w, Calls Try.prog 19 #[.agg (cellsR 1 zeroN (.slice none 0 0))] w fun e w' => e = .returned (.int .i64 3) ∧ Below w.heap.size w w') := fun w => by
    have := p_Check _ 1 zeroN w (rdR_shut (OwnK.none_ (w := w) (S := fun _ => False) (x := zeroN) rfl).rd)
    rwa [aw_c] at this
  clear v1 v2 n2 t3 k0 k1 k2 kg kc h1 h2 h3
  go_enter Try.func17, Try.ntmps17
  go_wp2_with (first
    | (go_at_call 22; refine (p_New _).mono ?_; rintro e W0 ⟨rfl, hb0⟩; have HB0 := Lib.hid hb0; clear hb0)
    | (go_at_call 24; (with_reducible refine (HS1.out _ _ ?_).mono ?_); exact rdR_shut (OwnK.none_ (S := fun _ => False) rfl).rd; rintro e W1 ⟨s1, rfl, hr1, hb1⟩; (obtain ⟨A1, cap1, rfl, -⟩ := hr1.slice); have HR1 := Lib.hid hr1; have HB1 := Lib.hid hb1; clear hr1 hb1)
    | ((with_reducible refine wpList_storeR_new (.tmp 1) (.tmp 8) ?_ ?_ W1.heap.size ?_ 1 x1 A1 x1.n cap1 ?_ rfl rfl ?_); (with_reducible rfl); rfl; rfl; rfl)
    | (go_at_call 24; (with_reducible refine (HS2.out _ _ ?_).mono ?_); exact rd_of_own HR1.out (below_alloc W1 _) 1; rintro e W2 ⟨s2, rfl, hr2, hb2⟩; (obtain ⟨g2, cap2, cs2, T2, sk2, hA2⟩ := (OwnK_iff.1 hr2).resolve_left (fun h => by have h1 := n2'.out; have h2 := h.1; omega)); (have hs2 := hA2.val); rw [n2'.out] at hs2; subst hs2; (have c12 : W2.cell? ⟨g2, 12, none⟩ = some (.int .i64 ((x2.kid 1).v 1)) := hA2.cells (i := 1) (by have h1 := n2'.out; omega) 1 _ rfl); (have hg2 := lt_of_heap hA2.blk); (have hc2 : 8 ≤ cap2 := by have h1 := hA2.le; have h2 := n2'.out; omega); (have hm2 := hA2.max); have HR2 := Lib.hid hr2; have HB2 := Lib.hid hb2; clear hr2 hb2 hA2)
    | ((with_reducible refine wpList_storeR_new (.tmp 3) (.tmp 27) ?_ ?_ W2.heap.size ?_ 2 x2 (some ⟨g2, 0, none⟩) 8 cap2 ?_ rfl rfl ?_); (with_reducible rfl); rfl; rfl; rfl)
    | (go_at_call 31; (with_reducible refine (HS3.out _ _ ?_).mono ?_); exact rd_of_own HR2.out (below_alloc W2 _) 2; rintro e W3 ⟨s3, rfl, hr3, hb3⟩; (obtain ⟨A3, cap3, rfl, -⟩ := hr3.slice); have HR3 := Lib.hid hr3; have HB3 := Lib.hid hb3; clear hr3 hb3)
    | ((with_reducible refine wpList_storeR_new (.tmp 4) (.tmp 56) ?_ ?_ W3.heap.size ?_ 2 x3 A3 x3.n cap3 ?_ rfl rfl ?_); (with_reducible rfl); rfl; rfl; rfl)
    | (go_at_call 28; (with_reducible refine (HN0.out _ _ ?_).mono ?_); exact rd_of_own HR3.out (by (repeat' (first | (with_reducible exact Below.refl _ _) | (with_reducible assumption) | (with_reducible refine below_plus ?_ ?_ _) | (with_reducible refine Below.alloc ?_ ?_ _) | (with_reducible refine Below.drew ?_) | (with_reducible refine below_drewN ?_ _) | (with_reducible refine Below.setCell ?_ ?_ _) | (first | omega | (simp only [World.size_alloc, size_plus, World.size_drew, World.size_setCell] <;> omega) | (simp <;> omega)) | omega | (simp; omega)))) 2; rintro e w' ⟨rfl, hb⟩; (first | (obtain ⟨X, rfl⟩ := plus_again hb) | (obtain ⟨X, rfl⟩ := plus_of_below hb)); clear hb)
    | (go_at_call 28; (with_reducible refine (HN1.out _ _ ?_).mono ?_); exact rd_of_own HR3.out (by (repeat' (first | (with_reducible exact Below.refl _ _) | (with_reducible assumption) | (with_reducible refine below_plus ?_ ?_ _) | (with_reducible refine Below.alloc ?_ ?_ _) | (with_reducible refine Below.drew ?_) | (with_reducible refine below_drewN ?_ _) | (with_reducible refine Below.setCell ?_ ?_ _) | (first | omega | (simp only [World.size_alloc, size_plus, World.size_drew, World.size_setCell] <;> omega) | (simp <;> omega)) | omega | (simp; omega)))) 2; rintro e w' ⟨rfl, hb⟩; (first | (obtain ⟨X, rfl⟩ := plus_again hb) | (obtain ⟨X, rfl⟩ := plus_of_below hb)); clear hb)
    | (go_at_call 28; (with_reducible refine (HN2.out _ _ ?_).mono ?_); exact rd_of_own HR3.out (by (repeat' (first | (with_reducible exact Below.refl _ _) | (with_reducible assumption) | (with_reducible refine below_plus ?_ ?_ _) | (with_reducible refine Below.alloc ?_ ?_ _) | (with_reducible refine Below.drew ?_) | (with_reducible refine below_drewN ?_ _) | (with_reducible refine Below.setCell ?_ ?_ _) | (first | omega | (simp only [World.size_alloc, size_plus, World.size_drew, World.size_setCell] <;> omega) | (simp <;> omega)) | omega | (simp; omega)))) 2; rintro e w' ⟨rfl, hb⟩; (first | (obtain ⟨X, rfl⟩ := plus_again hb) | (obtain ⟨X, rfl⟩ := plus_of_below hb)); clear hb)
    | (go_at_call 26; (with_reducible refine (HG.out _ _ ?_).mono ?_); exact rd_of_own HR3.out (by (repeat' (first | (with_reducible exact Below.refl _ _) | (with_reducible assumption) | (with_reducible refine below_plus ?_ ?_ _) | (with_reducible refine Below.alloc ?_ ?_ _) | (with_reducible refine Below.drew ?_) | (with_reducible refine below_drewN ?_ _) | (with_reducible refine Below.setCell ?_ ?_ _) | (first | omega | (simp only [World.size_alloc, size_plus, World.size_drew, World.size_setCell] <;> omega) | (simp <;> omega)) | omega | (simp; omega)))) 2; rintro e w' ⟨rfl, hb⟩; (first | (obtain ⟨X, rfl⟩ := plus_again hb) | (obtain ⟨X, rfl⟩ := plus_of_below hb)); clear hb)
    | (go_at_call 30; (with_reducible refine (HCT.out _ _ ?_).mono ?_); exact rd_of_own HR3.out (by (repeat' (first | (with_reducible exact Below.refl _ _) | (with_reducible assumption) | (with_reducible refine below_plus ?_ ?_ _) | (with_reducible refine Below.alloc ?_ ?_ _) | (with_reducible refine Below.drew ?_) | (with_reducible refine below_drewN ?_ _) | (with_reducible refine Below.setCell ?_ ?_ _) | (first | omega | (simp only [World.size_alloc, size_plus, World.size_drew, World.size_setCell] <;> omega) | (simp <;> omega)) | omega | (simp; omega)))) 2; rintro e w' ⟨rfl, hb⟩; (first | (obtain ⟨X, rfl⟩ := plus_again hb) | (obtain ⟨X, rfl⟩ := plus_of_below hb)); clear hb)
    | (go_at_call 19; refine (HCH.out _).mono ?_; rintro e w' ⟨rfl, hb⟩; (first | (obtain ⟨X, rfl⟩ := plus_again hb) | (obtain ⟨X, rfl⟩ := plus_of_below hb)); clear hb))
  all_goals
    go_ret
    refine ⟨rfl, below_trans (below_trans (below_trans (below_trans (below_trans (below_trans HB0.out HB1.out) (below_alloc _ _)) HB2.out) (below_alloc _ _)) HB3.out) ?_⟩
    (repeat' (first | (with_reducible exact Below.refl _ _) | (with_reducible assumption) | (with_reducible refine below_plus ?_ ?_ _) | (with_reducible refine Below.alloc ?_ ?_ _) | (with_reducible refine Below.drew ?_) | (with_reducible refine below_drewN ?_ _) | (with_reducible refine Below.setCell ?_ ?_ _) | (first | omega | (simp only [World.size_alloc, size_plus, World.size_drew, World.size_setCell] <;> omega) | (simp <;> omega)) | omega | (simp; omega)))
end Go.Proofs.Ytcicfijpfhbcaaa
namespace Go.Proofs.Ytcicfijpfhbcaaa
set_option linter.unusedSimpArgs false
set_option linter.unusedVariables false
set_option linter.unusedSectionVars false
open Go.RowKit

/-- What the reference's Check answers. -/
def checkR (h : Int) (x : RN) : Int :=
  if h < 0 ∨ 10 < h then 2 else if h = 0 then (if absentB x then 0 else 3) else if shapeB x h then (if h = 1 ∨ laterTo x 7 then 0 else 3) else 3
theorem checkR_eq (h : Int) (x : RN) : checkR h x = checkP h x := by
  unfold checkR checkP
  by_cases hr : h < 0 ∨ 10 < h
  · rw [if_pos hr, if_pos hr]
  · rw [if_neg hr, if_neg hr]
    by_cases h0 : h = 0
    · rw [if_pos h0, if_pos h0]
    · rw [if_neg h0, if_neg h0, shape_valid h x (by omega)]

set_option maxRecDepth 100000 in
set_option maxHeartbeats 1000000 in
theorem r_New (w : World) : Calls Try.prog 23 #[] w fun e w' => e = .returned (.agg (cellsR 0 zeroN (.slice none 0 0))) ∧ Below w.heap.size w w' := by
  go_enter Try.func23, Try.ntmps23
  go_wp2_with fail
  refine bodyPost_ret (v := .agg (cellsR 0 zeroN (.slice none 0 0))) (results_cell_row Try.results23 _ _ w.heap.size _ _ _ _ rfl (heap_alloc_here _ _ _ rfl) Try.underlying28 rfl sizeR) rfl ⟨rfl, ?_⟩
  (repeat' (first | (with_reducible exact Below.refl _ _) | (with_reducible assumption) | (with_reducible refine below_plus ?_ ?_ _) | (with_reducible refine Below.alloc ?_ ?_ _) | (with_reducible refine Below.drew ?_) | (with_reducible refine below_drewN ?_ _) | (with_reducible refine Below.setCell ?_ ?_ _) | (first | omega | (simp only [World.size_alloc, size_plus, World.size_drew, World.size_setCell] <;> omega) | (simp <;> omega)) | omega | (simp; omega)))

def sameT (h h' : Int) (x y : RN) : Bool := h == h' && sameB x y
set_option maxRecDepth 100000 in
set_option maxHeartbeats 1000000 in
theorem r_Same (cs ds : Array Value) (h h' : Int) (x y : RN) (w : World) (hr : RdVals w cs 12 (encR h x)) (hr' : RdVals w ds 12 (encR h' y)) :
    Calls Try.prog 21 #[.agg cs, .agg ds] w fun e w' => e = .returned (.bool (sameT h h' x y)) ∧ Below w.heap.size w w' := by
  obtain ⟨A, cap, rfl, hk⟩ := rdR_open hr
  obtain ⟨A', cap', rfl, hk'⟩ := rdR_open hr'
  have HV := Lib.hid (rdN_shut hk)
  have HV' := Lib.hid (rdN_shut hk')
  have HS : Hid (sameT h h' x y = (h == h' && sameB x y)) := rfl
  clear hr hr' hk hk'
  rw [HS.out]
  clear HS
  cases hh : (h == h')
  all_goals
    go_enter Try.func21, Try.ntmps21
    go_wp2_with (first | (go_at_call 71; refine (r_sameNode x y _ _ _ ?_ ?_).mono ?_; exact HV.out.keep (below_keeps (by (repeat' (first | (with_reducible exact Below.refl _ _) | (with_reducible assumption) | (with_reducible refine below_plus ?_ ?_ _) | (with_reducible refine Below.alloc ?_ ?_ _) | (with_reducible refine Below.drew ?_) | (with_reducible refine below_drewN ?_ _) | (with_reducible refine Below.setCell ?_ ?_ _) | (first | omega | (simp only [World.size_alloc, size_plus, World.size_drew, World.size_setCell] <;> omega) | (simp <;> omega)) | omega | (simp; omega))))); exact HV'.out.keep (below_keeps (by (repeat' (first | (with_reducible exact Below.refl _ _) | (with_reducible assumption) | (with_reducible refine below_plus ?_ ?_ _) | (with_reducible refine Below.alloc ?_ ?_ _) | (with_reducible refine Below.drew ?_) | (with_reducible refine below_drewN ?_ _) | (with_reducible refine Below.setCell ?_ ?_ _) | (first | omega | (simp only [World.size_alloc, size_plus, World.size_drew, World.size_setCell] <;> omega) | (simp <;> omega)) | omega | (simp; omega))))); rintro e w' ⟨rfl, hb⟩; (first | (obtain ⟨X, rfl⟩ := plus_again hb) | (obtain ⟨X, rfl⟩ := plus_of_below hb)); clear hb))
    go_ret
    exact ⟨rfl, by (repeat' (first | (with_reducible exact Below.refl _ _) | (with_reducible assumption) | (with_reducible refine below_plus ?_ ?_ _) | (with_reducible refine Below.alloc ?_ ?_ _) | (with_reducible refine Below.drew ?_) | (with_reducible refine below_drewN ?_ _) | (with_reducible refine Below.setCell ?_ ?_ _) | (first | omega | (simp only [World.size_alloc, size_plus, World.size_drew, World.size_setCell] <;> omega) | (simp <;> omega)) | omega | (simp; omega)))⟩

set_option maxRecDepth 100000 in
set_option maxHeartbeats 1000000 in
theorem r_Check (cs : Array Value) (ht : Int) (x : RN) (w : World) (h : RdVals w cs 12 (encR ht x)) :
    Calls Try.prog 20 #[.agg cs] w fun e w' => e = .returned (.int .i64 (checkP ht x)) ∧ Below w.heap.size w w' := by
  obtain ⟨A, cap, rfl, hk⟩ := rdR_open h
  have hcap := encK_n hk
  have HV : Hid (RdVals w (cellsN x (.slice A x.n cap)) 11 (encN x)) := rdN_shut hk
  have HK := Lib.hid hk
  clear h hk
  by_cases hr : ht < 0 ∨ 10 < ht
  · have e1 : checkP ht x = 2 := by simp [checkP, hr]
    rcases hr with hr | hr
    all_goals
      go_enter Try.func20, Try.ntmps20
      go_wp2_with fail
      all_goals
        go_ret
        exact ⟨rfl, by (repeat' (first | (with_reducible exact Below.refl _ _) | (with_reducible assumption) | (with_reducible refine below_plus ?_ ?_ _) | (with_reducible refine Below.alloc ?_ ?_ _) | (with_reducible refine Below.drew ?_) | (with_reducible refine below_drewN ?_ _) | (with_reducible refine Below.setCell ?_ ?_ _) | (first | omega | (simp only [World.size_alloc, size_plus, World.size_drew, World.size_setCell] <;> omega) | (simp <;> omega)) | omega | (simp; omega)))⟩
  · have h0 : 0 ≤ ht := by omega
    have h10 : ht ≤ 10 := by omega
    by_cases hz : ht = 0
    · subst hz
      cases ha : absentB x
      all_goals
        go_enter Try.func20, Try.ntmps20
        go_wp2_with (go_at_call 69; refine (r_Absent _ x _ ?_).mono ?_; exact HV.out.keep (below_keeps (by (repeat' (first | (with_reducible exact Below.refl _ _) | (with_reducible assumption) | (with_reducible refine below_plus ?_ ?_ _) | (with_reducible refine Below.alloc ?_ ?_ _) | (with_reducible refine Below.drew ?_) | (with_reducible refine below_drewN ?_ _) | (with_reducible refine Below.setCell ?_ ?_ _) | (first | omega | (simp only [World.size_alloc, size_plus, World.size_drew, World.size_setCell] <;> omega) | (simp <;> omega)) | omega | (simp; omega))))); rintro e w' ⟨rfl, hb⟩; (first | (obtain ⟨X, rfl⟩ := plus_again hb) | (obtain ⟨X, rfl⟩ := plus_of_below hb)); clear hb; rw [ha])
        go_ret
        exact ⟨by simp [checkP, ha], by (repeat' (first | (with_reducible exact Below.refl _ _) | (with_reducible assumption) | (with_reducible refine below_plus ?_ ?_ _) | (with_reducible refine Below.alloc ?_ ?_ _) | (with_reducible refine Below.drew ?_) | (with_reducible refine below_drewN ?_ _) | (with_reducible refine Below.setCell ?_ ?_ _) | (first | omega | (simp only [World.size_alloc, size_plus, World.size_drew, World.size_setCell] <;> omega) | (simp <;> omega)) | omega | (simp; omega)))⟩
    · have h1 : 1 ≤ ht := by omega
      have hb0 : (ht == 0) = false := by simp [hz]
      cases hv : validB x ht with
      | false =>
        go_enter Try.func20, Try.ntmps20
        go_wp2_with (go_at_call 70; refine (r_shape x ht _ _ h1 h10 ?_).mono ?_; exact HV.out.keep (below_keeps (by (repeat' (first | (with_reducible exact Below.refl _ _) | (with_reducible assumption) | (with_reducible refine below_plus ?_ ?_ _) | (with_reducible refine Below.alloc ?_ ?_ _) | (with_reducible refine Below.drew ?_) | (with_reducible refine below_drewN ?_ _) | (with_reducible refine Below.setCell ?_ ?_ _) | (first | omega | (simp only [World.size_alloc, size_plus, World.size_drew, World.size_setCell] <;> omega) | (simp <;> omega)) | omega | (simp; omega))))); rw [shape_valid ht x h1, hv]; rintro e w' ⟨rfl, hb⟩; (first | (obtain ⟨X, rfl⟩ := plus_again hb) | (obtain ⟨X, rfl⟩ := plus_of_below hb)); clear hb)
        go_ret
        exact ⟨by simp [checkP, hz, hv]; omega, by (repeat' (first | (with_reducible exact Below.refl _ _) | (with_reducible assumption) | (with_reducible refine below_plus ?_ ?_ _) | (with_reducible refine Below.alloc ?_ ?_ _) | (with_reducible refine Below.drew ?_) | (with_reducible refine below_drewN ?_ _) | (with_reducible refine Below.setCell ?_ ?_ _) | (first | omega | (simp only [World.size_alloc, size_plus, World.size_drew, World.size_setCell] <;> omega) | (simp <;> omega)) | omega | (simp; omega)))⟩
      | true =>
        by_cases hh : ht = 1
        · subst hh
          go_enter Try.func20, Try.ntmps20
          go_wp2_with (go_at_call 70; refine (r_shape x 1 _ _ h1 h10 ?_).mono ?_; exact HV.out.keep (below_keeps (by (repeat' (first | (with_reducible exact Below.refl _ _) | (with_reducible assumption) | (with_reducible refine below_plus ?_ ?_ _) | (with_reducible refine Below.alloc ?_ ?_ _) | (with_reducible refine Below.drew ?_) | (with_reducible refine below_drewN ?_ _) | (with_reducible refine Below.setCell ?_ ?_ _) | (first | omega | (simp only [World.size_alloc, size_plus, World.size_drew, World.size_setCell] <;> omega) | (simp <;> omega)) | omega | (simp; omega))))); rw [shape_valid 1 x h1, hv]; rintro e w' ⟨rfl, hb⟩; (first | (obtain ⟨X, rfl⟩ := plus_again hb) | (obtain ⟨X, rfl⟩ := plus_of_below hb)); clear hb)
          go_ret
          exact ⟨by simp [checkP, hv], by (repeat' (first | (with_reducible exact Below.refl _ _) | (with_reducible assumption) | (with_reducible refine below_plus ?_ ?_ _) | (with_reducible refine Below.alloc ?_ ?_ _) | (with_reducible refine Below.drew ?_) | (with_reducible refine below_drewN ?_ _) | (with_reducible refine Below.setCell ?_ ?_ _) | (first | omega | (simp only [World.size_alloc, size_plus, World.size_drew, World.size_setCell] <;> omega) | (simp <;> omega)) | omega | (simp; omega)))⟩
        · have hg1 : 1 < ht := by omega
          have hn := valid_n hv (by omega)
          have hn8 : 8 ≤ x.n := by omega
          have hn8' : x.n ≤ 8 := by omega
          obtain ⟨g, b, s0, rfl, hgl, -⟩ := encK_kid (i := 0) HK.out (by omega)
          have hc8 := encK_cap HK.out
          have hc : 8 ≤ cap := by omega
          have hc' : cap ≤ 9223372036854775807 := hc8.2
          have HN := Lib.hid hn
          clear hn hc8
          go_enter Try.func20, Try.ntmps20
          go_wp2_with (go_at_call 70; refine (r_shape x ht _ _ h1 h10 ?_).mono ?_; exact HV.out.keep (below_keeps (by (repeat' (first | (with_reducible exact Below.refl _ _) | (with_reducible assumption) | (with_reducible refine below_plus ?_ ?_ _) | (with_reducible refine Below.alloc ?_ ?_ _) | (with_reducible refine Below.drew ?_) | (with_reducible refine below_drewN ?_ _) | (with_reducible refine Below.setCell ?_ ?_ _) | (first | omega | (simp only [World.size_alloc, size_plus, World.size_drew, World.size_setCell] <;> omega) | (simp <;> omega)) | omega | (simp; omega))))); rw [shape_valid ht x h1, hv]; rintro e w' ⟨rfl, hb⟩; (first | (obtain ⟨X, rfl⟩ := plus_again hb) | (obtain ⟨X, rfl⟩ := plus_of_below hb)); clear hb)
          go_loopw [3] (fun i wr => ∃ k : Nat, k ≤ 7 ∧ i = .int .i64 ((k : Int) + 1) ∧ laterTo x k = false ∧ ∃ X, wr = (w.alloc (.cells (cellsR ht x (.slice (some ⟨g, b, none⟩) x.n cap)) 28)).plus X) (fun i _ => 9 - (intOf i).toNat)
          case atStart => exact ⟨0, by omega, rfl, rfl, X, rfl⟩
          case round =>
            obtain ⟨k, hk, rfl, hlt0, Y, rfl⟩ := hrel
            by_cases hlt : k < 7
            · obtain ⟨g', b', s, hA, hgl', hsk, hvk, hck⟩ := encK_kid (i := k + 1) HK.out (by omega)
              obtain ⟨A', cap2, rfl, -⟩ := hsk
              simp only [Option.some.injEq, Addr.mk.injEq, and_true] at hA
              obtain ⟨rfl, rfl⟩ := hA
              have HC := Lib.hid hck
              have HV' := Lib.hid hvk
              have hkn : (k : Int) + 1 < (x.n : Int) := by omega
              clear hck hvk
              cases ha : absentB (x.kid (k + 1))
              all_goals
                go_wp2_with (first
                  | ((with_reducible refine wpList_loadN (.tmp 36) ?_ ?_ (g) (b + (k + 1) * 11) ?_ (x.kid (k + 1)) (.slice A' (x.kid (k + 1)).n cap2) ?_ ?_); (with_reducible rfl); rfl; rfl; (intro j v hj; exact below_keeps (by (repeat' (first | (with_reducible exact Below.refl _ _) | (with_reducible assumption) | (with_reducible refine below_plus ?_ ?_ _) | (with_reducible refine Below.alloc ?_ ?_ _) | (with_reducible refine Below.drew ?_) | (with_reducible refine below_drewN ?_ _) | (with_reducible refine Below.setCell ?_ ?_ _) | (first | omega | (simp only [World.size_alloc, size_plus, World.size_drew, World.size_setCell] <;> omega) | (simp <;> omega)) | omega | (simp; omega)))) _ _ (HC.out j v hj)))
                  | (go_at_call 69; refine (r_Absent _ (x.kid (k + 1)) _ ?_).mono ?_; exact HV'.out.keep (below_keeps (by (repeat' (first | (with_reducible exact Below.refl _ _) | (with_reducible assumption) | (with_reducible refine below_plus ?_ ?_ _) | (with_reducible refine Below.alloc ?_ ?_ _) | (with_reducible refine Below.drew ?_) | (with_reducible refine below_drewN ?_ _) | (with_reducible refine Below.setCell ?_ ?_ _) | (first | omega | (simp only [World.size_alloc, size_plus, World.size_drew, World.size_setCell] <;> omega) | (simp <;> omega)) | omega | (simp; omega))))); rintro e w' ⟨rfl, hb⟩; (first | (obtain ⟨X, rfl⟩ := plus_again hb) | (obtain ⟨X, rfl⟩ := plus_of_below hb)); clear hb; rw [ha]))
                first
                  | (go_ret
                     exact ⟨by simp [checkP, hz, hh, hv, laterTo_of hlt ha] <;> (intros; omega), by (repeat' (first | (with_reducible exact Below.refl _ _) | (with_reducible assumption) | (with_reducible refine below_plus ?_ ?_ _) | (with_reducible refine Below.alloc ?_ ?_ _) | (with_reducible refine Below.drew ?_) | (with_reducible refine below_drewN ?_ _) | (with_reducible refine Below.setCell ?_ ?_ _) | (first | omega | (simp only [World.size_alloc, size_plus, World.size_drew, World.size_setCell] <;> omega) | (simp <;> omega)) | omega | (simp; omega)))⟩)
                  | exact ⟨⟨k + 1, by omega, by go_num, by rw [laterTo_succ, hlt0, ha]; rfl, plus_of_below (by (repeat' (first | (with_reducible exact Below.refl _ _) | (with_reducible assumption) | (with_reducible refine below_plus ?_ ?_ _) | (with_reducible refine Below.alloc ?_ ?_ _) | (with_reducible refine Below.drew ?_) | (with_reducible refine below_drewN ?_ _) | (with_reducible refine Below.setCell ?_ ?_ _) | (first | omega | (simp only [World.size_alloc, size_plus, World.size_drew, World.size_setCell] <;> omega) | (simp <;> omega)) | omega | (simp; omega))))⟩, by simp [intOf]; omega⟩
            · obtain rfl : k = 7 := by omega
              go_wp2_with fail
              go_ret
              exact ⟨by simp [checkP, hz, hh, hv, hlt0] <;> (intros; omega), by (repeat' (first | (with_reducible exact Below.refl _ _) | (with_reducible assumption) | (with_reducible refine below_plus ?_ ?_ _) | (with_reducible refine Below.alloc ?_ ?_ _) | (with_reducible refine Below.drew ?_) | (with_reducible refine below_drewN ?_ _) | (with_reducible refine Below.setCell ?_ ?_ _) | (first | omega | (simp only [World.size_alloc, size_plus, World.size_drew, World.size_setCell] <;> omega) | (simp <;> omega)) | omega | (simp; omega)))⟩

theorem same_zero : sameT 0 0 zeroN zeroN = true := by decide +kernel

set_option maxRecDepth 100000 in
set_option maxHeartbeats 1000000 in
theorem l_Checks (cs : Array Value) (ht : Int) (x : RN) (w : World) (h : RdVals w cs 12 (encR ht x)) :
    Calls Try.prog 3 #[.agg cs] w fun e w' => e = .returned (.bool true) ∧ Below w.heap.size w w' := by
  obtain ⟨A, cap, rfl, hk⟩ := rdR_open h
  have HR := Lib.hid h
  clear h hk
  have HZ : ∀ W : World, RdVals W (cellsR 0 zeroN (.slice none 0 0)) 12 (encR 0 zeroN) := fun W => rdR_shut (OwnK.none_ (w := W) (S := fun _ => False) (x := zeroN) rfl).rd
  have HSM : Hid (∀ W : World, Calls Try.prog 21 #[.agg (cellsR 0 zeroN (.slice none 0 0)), .agg (cellsR 0 zeroN (.slice none 0 0))] W fun e w' => e = .returned (.bool true) ∧ Below W.heap.size W w') := fun W => by
    have := r_Same _ _ 0 0 zeroN zeroN W (HZ W) (HZ W)
    rwa [same_zero] at this
  clear HZ
  have hcc : (checkP ht x == checkP ht x) = true := by simp
  cases hf : fewB x
  · go_enter Try.func3, Try.ntmps3
    go_wp2_with (first
      | (go_at_call 17; refine (l_awake _).mono ?_; rintro e w' ⟨rfl, hb⟩; (first | (obtain ⟨X, rfl⟩ := plus_again hb) | (obtain ⟨X, rfl⟩ := plus_of_below hb)); clear hb)
      | (go_at_call 18; refine (r_Few _ ht x _ ?_).mono ?_; exact HR.out.keep (below_keeps (by (repeat' (first | (with_reducible exact Below.refl _ _) | (with_reducible assumption) | (with_reducible refine below_plus ?_ ?_ _) | (with_reducible refine Below.alloc ?_ ?_ _) | (with_reducible refine Below.drew ?_) | (with_reducible refine below_drewN ?_ _) | (with_reducible refine Below.setCell ?_ ?_ _) | (first | omega | (simp only [World.size_alloc, size_plus, World.size_drew, World.size_setCell] <;> omega) | (simp <;> omega)) | omega | (simp; omega))))); rintro e w' ⟨rfl, hb⟩; (first | (obtain ⟨X, rfl⟩ := plus_again hb) | (obtain ⟨X, rfl⟩ := plus_of_below hb)); clear hb; rw [hf]))
    go_ret
    exact ⟨rfl, by (repeat' (first | (with_reducible exact Below.refl _ _) | (with_reducible assumption) | (with_reducible refine below_plus ?_ ?_ _) | (with_reducible refine Below.alloc ?_ ?_ _) | (with_reducible refine Below.drew ?_) | (with_reducible refine below_drewN ?_ _) | (with_reducible refine Below.setCell ?_ ?_ _) | (first | omega | (simp only [World.size_alloc, size_plus, World.size_drew, World.size_setCell] <;> omega) | (simp <;> omega)) | omega | (simp; omega)))⟩
  · go_enter Try.func3, Try.ntmps3
    go_wp2_with (first
      | (go_at_call 17; refine (l_awake _).mono ?_; rintro e w' ⟨rfl, hb⟩; (first | (obtain ⟨X, rfl⟩ := plus_again hb) | (obtain ⟨X, rfl⟩ := plus_of_below hb)); clear hb)
      | (go_at_call 18; refine (r_Few _ ht x _ ?_).mono ?_; exact HR.out.keep (below_keeps (by (repeat' (first | (with_reducible exact Below.refl _ _) | (with_reducible assumption) | (with_reducible refine below_plus ?_ ?_ _) | (with_reducible refine Below.alloc ?_ ?_ _) | (with_reducible refine Below.drew ?_) | (with_reducible refine below_drewN ?_ _) | (with_reducible refine Below.setCell ?_ ?_ _) | (first | omega | (simp only [World.size_alloc, size_plus, World.size_drew, World.size_setCell] <;> omega) | (simp <;> omega)) | omega | (simp; omega))))); rintro e w' ⟨rfl, hb⟩; (first | (obtain ⟨X, rfl⟩ := plus_again hb) | (obtain ⟨X, rfl⟩ := plus_of_below hb)); clear hb; rw [hf]))
    (refine wp_region_quiet_plus (by kernel_rfl) (by kernel_rfl) ?_; (repeat (go_big_quiet_step ((first
      | (go_at_call 19; exact Calls.quiet_plus (p_Check _ ht x _ (HR.out.keep (below_keeps (by (repeat' (first | (with_reducible exact Below.refl _ _) | (with_reducible assumption) | (with_reducible refine below_plus ?_ ?_ _) | (with_reducible refine Below.alloc ?_ ?_ _) | (with_reducible refine Below.drew ?_) | (with_reducible refine below_drewN ?_ _) | (with_reducible refine Below.setCell ?_ ?_ _) | (first | omega | (simp only [World.size_alloc, size_plus, World.size_drew, World.size_setCell] <;> omega) | (simp <;> omega)) | omega | (simp; omega))))))))
      | (go_at_call 20; exact Calls.quiet_plus (r_Check _ ht x _ (HR.out.keep (below_keeps (by (repeat' (first | (with_reducible exact Below.refl _ _) | (with_reducible assumption) | (with_reducible refine below_plus ?_ ?_ _) | (with_reducible refine Below.alloc ?_ ?_ _) | (with_reducible refine Below.drew ?_) | (with_reducible refine below_drewN ?_ _) | (with_reducible refine Below.setCell ?_ ?_ _) | (first | omega | (simp only [World.size_alloc, size_plus, World.size_drew, World.size_setCell] <;> omega) | (simp <;> omega)) | omega | (simp; omega))))))))
      | (go_at_call 22; exact Calls.quiet_plus (p_New _))
      | (go_at_call 23; exact Calls.quiet_plus (r_New _))
      | (go_at_call 21; exact Calls.quiet_plus (HSM.out _)))))); refine wpQuiet_nil ?_; intro _)
    go_wp2_with fail
    go_ret
    exact ⟨rfl, by (repeat' (first | (with_reducible exact Below.refl _ _) | (with_reducible assumption) | (with_reducible refine below_plus ?_ ?_ _) | (with_reducible refine Below.alloc ?_ ?_ _) | (with_reducible refine Below.drew ?_) | (with_reducible refine below_drewN ?_ _) | (with_reducible refine Below.setCell ?_ ?_ _) | (first | omega | (simp only [World.size_alloc, size_plus, World.size_drew, World.size_setCell] <;> omega) | (simp <;> omega)) | omega | (simp; omega)))⟩
end Go.Proofs.Ytcicfijpfhbcaaa
