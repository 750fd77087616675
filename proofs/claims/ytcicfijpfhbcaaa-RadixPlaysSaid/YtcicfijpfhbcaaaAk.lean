/-
  The laws' fixed example holds: awake.
-/
import Derived.Test.YtcicfijpfhbcaaaAw
namespace Go.Proofs.Ytcicfijpfhbcaaa
set_option linter.unusedSimpArgs false
set_option linter.unusedVariables false
set_option linter.unusedSectionVars false
open Go.RowKit

theorem wpList_storeR_new {ops : Array Oper} {rest : List Oper} {o : Oper} {a : Act} {w : World} {old : Array Value} {t : TypeId} {Q : Exit → Act → World → Prop} (x z : Operand) (ho : o.op = .store 28 x z) (hw : Region.wanted o (yielded ops a.tmps) = true)
    (g : Nat) (hx : a.eval x = .pointer (some ⟨g, 0, none⟩)) (ht : Int) (y : RN) (A : Option Addr) (len cap : Nat) (hz : a.eval z = .agg (cellsR ht y (.slice A len cap))) (hold : old.size = 12) (hg : g = w.heap.size)
    (h : wpList Try.prog ops Q rest (a.put o.dst undef) (w.alloc (.cells (cellsR ht y (.slice A len cap)) t))) : wpList Try.prog ops Q (o :: rest) a (w.alloc (.cells old t)) :=
  wpList_storeR x z ho hw g hx ht y A len cap hz old t (heap_alloc_here _ _ _ hg) hold (by rw [setRow_alloc_eq _ _ _ _ _ _ hg]; exact h)

def TreeOut (h : Int) (x : RN) (er : Int) (w : World) (e : Ending) (w' : World) : Prop :=
  ∃ s, e = .returned (.tuple #[.agg (cellsR h x s), .int .i64 er]) ∧ OwnK w' x s (fun b => w.heap.size ≤ b) ∧ Below w.heap.size w w'
theorem aw3_h : aw3.1 = 2 := by decide +kernel
theorem rd_of_own {w w' : World} {x : RN} {s : Value} {S : Nat → Prop} (h : OwnK w x s S) (hb : Below w.heap.size w w') (ht : Int) : RdVals w' (cellsR ht x s) 12 (encR ht x) := (rdR_shut h.rd).keep (below_keeps hb)

set_option maxRecDepth 100000 in
set_option maxHeartbeats 1000000 in
theorem l_awake (w : World) : Calls Try.prog 17 #[] w fun e w' => e = .returned (.bool true) ∧ Below w.heap.size w w' := by
  obtain ⟨x1, h1⟩ : ∃ x1, aw1 = (1, x1, 0) := ⟨aw1.2.1, by rw [← aw1_h, ← aw1_e]⟩
  have v1 := aw1_v
  have HS1 : Hid (∀ cs w, RdVals w cs 12 (encR 0 zeroN) → Calls Try.prog 24 #[.agg cs, .int .i64 0, .int .i64 5] w (TreeOut 1 x1 0 w)) := fun cs w h => by
    have := p_Set cs 0 zeroN 0 5 w h
    rw [show setP 0 zeroN 0 5 = aw1 from rfl, h1] at this; exact this
  obtain ⟨x2, h2⟩ : ∃ x2, aw2 = (2, x2, 0) := ⟨aw2.2.1, by rw [← aw2_h, ← aw2_e]⟩
  have v2 := aw2_v
  have n2 := aw2_n
  have HS2 : Hid (∀ cs w, RdVals w cs 12 (encR 1 x1) → Calls Try.prog 24 #[.agg cs, .int .i64 9, .int .i64 7] w (TreeOut 2 x2 0 w)) := fun cs w h => by
    have := p_Set cs 1 x1 9 7 w h
    rw [show setP 1 x1 9 7 = aw2 by unfold aw2; rw [h1], h2] at this; exact this
  obtain ⟨x3, h3⟩ : ∃ x3, aw3 = (2, x3, 0) := ⟨aw3.2.1, by rw [← aw3_h, ← aw3_e]⟩
  have t3 := aw3_t
  have HS3 : Hid (∀ cs w, RdVals w cs 12 (encR 2 x2) → Calls Try.prog 31 #[.agg cs, .int .i64 9, .int .i64 0] w (TreeOut 2 x3 0 w)) := fun cs w h => by
    have := p_Tag cs 2 x2 9 0 w h (by omega) (by omega)
    rw [show markP 2 x2 9 0 true = aw3 by unfold aw3; rw [h2], h3] at this; exact this
  have k0 := aw3_n0
  have k1 := aw3_n1
  have k2 := aw3_n2
  have kg := aw3_g
  have kc := aw3_c
  rw [h1] at v1
  rw [h2] at v2 n2
  rw [h3] at t3 k0 k1 k2 kg kc
  have v1' : (x1.v 0 != 5) = false := by rw [show x1.v 0 = 5 from v1]; rfl
  have v2' : ((x2.kid 1).v 1 != 7) = false := by rw [show (x2.kid 1).v 1 = 7 from v2]; rfl
  have n2' : Hid (x2.n = 8) := n2
  have t3' : (x3.t0 != 2) = false := by rw [show x3.t0 = 2 from t3]; rfl
  have HN0 : Hid (∀ cs w, RdVals w cs 12 (encR 2 x3) → Calls Try.prog 28 #[.agg cs, .int .i64 0, .int .i64 0] w fun e w' => e = .returned (.int .i64 9) ∧ Below w.heap.size w w') := fun cs w h => by
    have := p_Next cs 2 x3 0 0 w h
    rwa [show nextP 2 x3 0 0 = 9 from k0] at this
  have HN1 : Hid (∀ cs w, RdVals w cs 12 (encR 2 x3) → Calls Try.prog 28 #[.agg cs, .int .i64 0, .int .i64 1] w fun e w' => e = .returned (.int .i64 (-1)) ∧ Below w.heap.size w w') := fun cs w h => by
    have := p_Next cs 2 x3 0 1 w h
    rwa [show nextP 2 x3 0 1 = -1 from k1] at this
  have HN2 : Hid (∀ cs w, RdVals w cs 12 (encR 2 x3) → Calls Try.prog 28 #[.agg cs, .int .i64 1, .int .i64 (-1)] w fun e w' => e = .returned (.int .i64 9) ∧ Below w.heap.size w w') := fun cs w h => by
    have := p_Next cs 2 x3 1 (-1) w h
    rwa [show nextP 2 x3 1 (-1) = 9 from k2] at this
  have HG : Hid (∀ cs w, RdVals w cs 12 (encR 2 x3) → Calls Try.prog 26 #[.agg cs, .int .i64 0] w fun e w' => e = .returned (.int .i64 5) ∧ Below w.heap.size w w') := fun cs w h => by
    have := p_Get cs 2 x3 0 w h (by omega) (by omega)
    rwa [show getP 2 x3 0 = 5 from kg] at this
  have HCT : Hid (∀ cs w, RdVals w cs 12 (encR 2 x3) → Calls Try.prog 30 #[.agg cs, .int .i64 (-1)] w fun e w' => e = .returned (.int .i64 2) ∧ Below w.heap.size w w') := fun cs w h => by
    have := p_Count cs 2 x3 (-1) w h
    rwa [show countP 2 x3 (-1) = 2 from kc] at this
  have HCH : Hid (∀ w, Calls Try.prog 19 #[.agg (cellsR 1 zeroN (.slice none 0 0))] w fun e w' => e = .returned (.int .i64 3) ∧ Below w.heap.size w w') := fun w => by
    have := p_Check _ 1 zeroN w (rdR_shut (OwnK.none_ (w := w) (S := fun _ => False) (x := zeroN) rfl).rd)
    rwa [aw_c] at this
  clear v1 v2 n2 t3 k0 k1 k2 kg kc h1 h2 h3
  go_enter Try.func17, Try.ntmps17
  go_wp2_with (first
    | (go_at_call 22; refine (p_New _).mono ?_; rintro e W0 ⟨rfl, hb0⟩; have HB0 := Lib.hid hb0; clear hb0)
    | (go_at_call 24; (with_reducible refine (HS1.out _ _ ?_).mono ?_); exact rdR_shut (OwnK.none_ (S := fun _ => False) rfl).rd; rintro e W1 ⟨s1, rfl, hr1, hb1⟩; (obtain ⟨A1, cap1, rfl, -⟩ := hr1.slice); have HR1 := Lib.hid hr1; have HB1 := Lib.hid hb1; clear hr1 hb1)
    | ((with_reducible refine wpList_storeR_new (.tmp 1) (.tmp 8) ?_ ?_ W1.heap.size ?_ 1 x1 A1 x1.n cap1 ?_ rfl rfl ?_); (with_reducible rfl); rfl; rfl; rfl)
    | (go_at_call 24; (with_reducible refine (HS2.out _ _ ?_).mono ?_); exact rd_of_own HR1.out (below_alloc W1 _) 1; rintro e W2 ⟨s2, rfl, hr2, hb2⟩; (obtain ⟨g2, cap2, cs2, T2, sk2, hA2⟩ := (OwnK_iff.1 hr2).resolve_left (fun h => by have h1 := n2'.out; have h2 := h.1; omega)); (have hs2 := hA2.val); rw [n2'.out] at hs2; subst hs2; (have c12 : W2.cell? ⟨g2, 12, none⟩ = some (.int .i64 ((x2.kid 1).v 1)) := hA2.cells (i := 1) (by have h1 := n2'.out; omega) 1 _ rfl); (have hg2 := lt_of_heap hA2.blk); (have hc2 : 8 ≤ cap2 := by have h1 := hA2.le; have h2 := n2'.out; omega); (have hm2 := hA2.max); have HR2 := Lib.hid hr2; have HB2 := Lib.hid hb2; clear hr2 hb2 hA2)
    | ((with_reducible refine wpList_storeR_new (.tmp 3) (.tmp 27) ?_ ?_ W2.heap.size ?_ 2 x2 (some ⟨g2, 0, none⟩) 8 cap2 ?_ rfl rfl ?_); (with_reducible rfl); rfl; rfl; rfl)
    | (go_at_call 31; (with_reducible refine (HS3.out _ _ ?_).mono ?_); exact rd_of_own HR2.out (below_alloc W2 _) 2; rintro e W3 ⟨s3, rfl, hr3, hb3⟩; (obtain ⟨A3, cap3, rfl, -⟩ := hr3.slice); have HR3 := Lib.hid hr3; have HB3 := Lib.hid hb3; clear hr3 hb3)
    | ((with_reducible refine wpList_storeR_new (.tmp 4) (.tmp 56) ?_ ?_ W3.heap.size ?_ 2 x3 A3 x3.n cap3 ?_ rfl rfl ?_); (with_reducible rfl); rfl; rfl; rfl)
    | (go_at_call 28; (with_reducible refine (HN0.out _ _ ?_).mono ?_); exact rd_of_own HR3.out (by (repeat' (first | (with_reducible exact Below.refl _ _) | (with_reducible assumption) | (with_reducible refine below_plus ?_ ?_ _) | (with_reducible refine Below.alloc ?_ ?_ _) | (with_reducible refine Below.drew ?_) | (with_reducible refine below_drewN ?_ _) | (with_reducible refine Below.setCell ?_ ?_ _) | (first | omega | (simp only [World.size_alloc, size_plus, World.size_drew, World.size_setCell] <;> omega) | (simp <;> omega)) | omega | (simp; omega)))) 2; rintro e w' ⟨rfl, hb⟩; (first | (obtain ⟨X, rfl⟩ := plus_again hb) | (obtain ⟨X, rfl⟩ := plus_of_below hb)); clear hb)
    | (go_at_call 28; (with_reducible refine (HN1.out _ _ ?_).mono ?_); exact rd_of_own HR3.out (by (repeat' (first | (with_reducible exact Below.refl _ _) | (with_reducible assumption) | (with_reducible refine below_plus ?_ ?_ _) | (with_reducible refine Below.alloc ?_ ?_ _) | (with_reducible refine Below.drew ?_) | (with_reducible refine below_drewN ?_ _) | (with_reducible refine Below.setCell ?_ ?_ _) | (first | omega | (simp only [World.size_alloc, size_plus, World.size_drew, World.size_setCell] <;> omega) | (simp <;> omega)) | omega | (simp; omega)))) 2; rintro e w' ⟨rfl, hb⟩; (first | (obtain ⟨X, rfl⟩ := plus_again hb) | (obtain ⟨X, rfl⟩ := plus_of_below hb)); clear hb)
    | (go_at_call 28; (with_reducible refine (HN2.out _ _ ?_).mono ?_); exact rd_of_own HR3.out (by (repeat' (first | (with_reducible exact Below.refl _ _) | (with_reducible assumption) | (with_reducible refine below_plus ?_ ?_ _) | (with_reducible refine Below.alloc ?_ ?_ _) | (with_reducible refine Below.drew ?_) | (with_reducible refine below_drewN ?_ _) | (with_reducible refine Below.setCell ?_ ?_ _) | (first | omega | (simp only [World.size_alloc, size_plus, World.size_drew, World.size_setCell] <;> omega) | (simp <;> omega)) | omega | (simp; omega)))) 2; rintro e w' ⟨rfl, hb⟩; (first | (obtain ⟨X, rfl⟩ := plus_again hb) | (obtain ⟨X, rfl⟩ := plus_of_below hb)); clear hb)
    | (go_at_call 26; (with_reducible refine (HG.out _ _ ?_).mono ?_); exact rd_of_own HR3.out (by (repeat' (first | (with_reducible exact Below.refl _ _) | (with_reducible assumption) | (with_reducible refine below_plus ?_ ?_ _) | (with_reducible refine Below.alloc ?_ ?_ _) | (with_reducible refine Below.drew ?_) | (with_reducible refine below_drewN ?_ _) | (with_reducible refine Below.setCell ?_ ?_ _) | (first | omega | (simp only [World.size_alloc, size_plus, World.size_drew, World.size_setCell] <;> omega) | (simp <;> omega)) | omega | (simp; omega)))) 2; rintro e w' ⟨rfl, hb⟩; (first | (obtain ⟨X, rfl⟩ := plus_again hb) | (obtain ⟨X, rfl⟩ := plus_of_below hb)); clear hb)
    | (go_at_call 30; (with_reducible refine (HCT.out _ _ ?_).mono ?_); exact rd_of_own HR3.out (by (repeat' (first | (with_reducible exact Below.refl _ _) | (with_reducible assumption) | (with_reducible refine below_plus ?_ ?_ _) | (with_reducible refine Below.alloc ?_ ?_ _) | (with_reducible refine Below.drew ?_) | (with_reducible refine below_drewN ?_ _) | (with_reducible refine Below.setCell ?_ ?_ _) | (first | omega | (simp only [World.size_alloc, size_plus, World.size_drew, World.size_setCell] <;> omega) | (simp <;> omega)) | omega | (simp; omega)))) 2; rintro e w' ⟨rfl, hb⟩; (first | (obtain ⟨X, rfl⟩ := plus_again hb) | (obtain ⟨X, rfl⟩ := plus_of_below hb)); clear hb)
    | (go_at_call 19; refine (HCH.out _).mono ?_; rintro e w' ⟨rfl, hb⟩; (first | (obtain ⟨X, rfl⟩ := plus_again hb) | (obtain ⟨X, rfl⟩ := plus_of_below hb)); clear hb))
  all_goals
    go_ret
    refine ⟨rfl, below_trans (below_trans (below_trans (below_trans (below_trans (below_trans HB0.out HB1.out) (below_alloc _ _)) HB2.out) (below_alloc _ _)) HB3.out) ?_⟩
    (repeat' (first | (with_reducible exact Below.refl _ _) | (with_reducible assumption) | (with_reducible refine below_plus ?_ ?_ _) | (with_reducible refine Below.alloc ?_ ?_ _) | (with_reducible refine Below.drew ?_) | (with_reducible refine below_drewN ?_ _) | (with_reducible refine Below.setCell ?_ ?_ _) | (first | omega | (simp only [World.size_alloc, size_plus, World.size_drew, World.size_setCell] <;> omega) | (simp <;> omega)) | omega | (simp; omega)))
end Go.Proofs.Ytcicfijpfhbcaaa
