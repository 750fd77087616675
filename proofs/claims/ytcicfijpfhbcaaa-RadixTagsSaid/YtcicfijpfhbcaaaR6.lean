/-
  The row RadixTags: for every tree, index and tag the law answers true, and the tree reads as it did.
-/
import Derived.Test.YtcicfijpfhbcaaaTm
import Derived.Test.YtcicfijpfhbcaaaCk
import Derived.Test.YtcicfijpfhbcaaaRo
namespace Go.Proofs.Ytcicfijpfhbcaaa
set_option linter.unusedSimpArgs false
set_option linter.unusedVariables false
set_option linter.unusedSectionVars false
open Go.RowKit

theorem row12 {w : World} {g : Nat} {ht : Int} {y : RN} {s : Value} {t : TypeId} {fr : Nat × Nat} (h : w.heap[g]? = some (.cells (cellsR ht y s) t fr)) :
    (w.cell? ⟨g, 0, none⟩ = some (.int .i64 ht) ∧ w.cell? ⟨g, 1, none⟩ = some (.int .i64 (y.v 0)) ∧ w.cell? ⟨g, 2, none⟩ = some (.int .i64 (y.v 1)) ∧ w.cell? ⟨g, 3, none⟩ = some (.int .i64 (y.v 2)) ∧ w.cell? ⟨g, 4, none⟩ = some (.int .i64 (y.v 3)) ∧ w.cell? ⟨g, 5, none⟩ = some (.int .i64 (y.v 4))) ∧
    w.cell? ⟨g, 6, none⟩ = some (.int .i64 (y.v 5)) ∧ w.cell? ⟨g, 7, none⟩ = some (.int .i64 (y.v 6)) ∧ w.cell? ⟨g, 8, none⟩ = some (.int .i64 (y.v 7)) ∧ w.cell? ⟨g, 9, none⟩ = some (.int .i64 y.t0) ∧ w.cell? ⟨g, 10, none⟩ = some (.int .i64 y.t1) ∧ w.cell? ⟨g, 11, none⟩ = some s := by
  have hc : ∀ j, w.cell? ⟨g, j, none⟩ = (cellsR ht y s)[j]? := fun j => cell_of_row _ _ _ _ _ _ h
  exact ⟨⟨hc 0, hc 1, hc 2, hc 3, hc 4, hc 5⟩, hc 6, hc 7, hc 8, hc 9, hc 10, hc 11⟩

set_option maxRecDepth 100000 in
set_option maxHeartbeats 1000000 in
theorem l_Tags (cs : Array Value) (ht : Int) (x : RN) (i tag : Int) (w : World) (h : RdVals w cs 12 (encR ht x)) (i2 : -9223372036854775808 ≤ i) (i3 : i ≤ 9223372036854775807) :
    Calls Try.prog 8 #[.agg cs, .int .i64 i, .int .i64 tag] w fun e w' => e = .returned (.bool true) ∧ Below w.heap.size w w' := by
  obtain ⟨A, cap, rfl, hk⟩ := rdR_open h
  have HR := Lib.hid h
  clear h hk
  cases hf : fewB x
  · go_enter Try.func8, Try.ntmps8
    go_wp2_with (first
      | (go_at_call 17; refine (l_awake _).mono ?_; rintro e w' ⟨rfl, hb⟩; (first | (obtain ⟨X, rfl⟩ := plus_again hb) | (obtain ⟨X, rfl⟩ := plus_of_below hb)); clear hb)
      | (go_at_call 18; refine (r_Few _ ht x _ ?_).mono ?_; exact HR.out.keep (below_keeps (by (repeat' (first | (with_reducible exact Below.refl _ _) | (with_reducible assumption) | (with_reducible refine below_plus ?_ ?_ _) | (with_reducible refine Below.alloc ?_ ?_ _) | (with_reducible refine Below.drew ?_) | (with_reducible refine below_drewN ?_ _) | (with_reducible refine Below.setCell ?_ ?_ _) | (first | omega | (simp only [World.size_alloc, size_plus, World.size_drew, World.size_setCell] <;> omega) | (simp <;> omega)) | omega | (simp; omega))))); rintro e w' ⟨rfl, hb⟩; (first | (obtain ⟨X, rfl⟩ := plus_again hb) | (obtain ⟨X, rfl⟩ := plus_of_below hb)); clear hb; rw [hf]))
    go_ret
    exact ⟨rfl, by (repeat' (first | (with_reducible exact Below.refl _ _) | (with_reducible assumption) | (with_reducible refine below_plus ?_ ?_ _) | (with_reducible refine Below.alloc ?_ ?_ _) | (with_reducible refine Below.drew ?_) | (with_reducible refine below_drewN ?_ _) | (with_reducible refine Below.setCell ?_ ?_ _) | (first | omega | (simp only [World.size_alloc, size_plus, World.size_drew, World.size_setCell] <;> omega) | (simp <;> omega)) | omega | (simp; omega)))⟩
  · obtain ⟨h1, x1, er, hse, hrs⟩ := marks_facts ht x i tag true
    obtain ⟨k1, y1, es, hse', hrs'⟩ := marks_facts ht x i tag false
    have HPT : Hid (∀ cs W, RdVals W cs 12 (encR ht x) → Calls Try.prog 31 #[.agg cs, .int .i64 i, .int .i64 tag] W (TreePost (h1, x1, er) W)) := fun cs W hr => by
      have := p_Tag cs ht x i tag W hr i2 i3
      rw [hse] at this; exact this
    have HPU : Hid (∀ cs W, RdVals W cs 12 (encR ht x) → Calls Try.prog 33 #[.agg cs, .int .i64 i, .int .i64 tag] W (TreePost (k1, y1, es) W)) := fun cs W hr => by
      have := p_Untag cs ht x i tag W hr i2 i3
      rw [hse'] at this; exact this
    have HRT : Hid (∀ cs W, RdVals W cs 12 (encR ht x) → Calls Try.prog 32 #[.agg cs, .int .i64 i, .int .i64 tag] W fun e w' => ∃ (h2 : Int) (x2 : RN), TreePost (h2, x2, er) W e w' ∧ sameT h1 h2 x1 x2 = true) := fun cs W hr =>
      (r_Tag (fun h2 x2 e2 => e2 = er ∧ sameT h1 h2 x1 x2 = true) cs ht x i tag W hr fun cs W hr => (hrs cs W hr).mono fun e w' ⟨h2, x2, hp, hs⟩ => ⟨h2, x2, er, hp, rfl, hs⟩).mono fun e w' ⟨h2, x2, e2, hp, he, hs⟩ => by subst he; exact ⟨h2, x2, hp, hs⟩
    have HRU : Hid (∀ cs W, RdVals W cs 12 (encR ht x) → Calls Try.prog 34 #[.agg cs, .int .i64 i, .int .i64 tag] W fun e w' => ∃ (h2 : Int) (x2 : RN), TreePost (h2, x2, es) W e w' ∧ sameT k1 h2 y1 x2 = true) := fun cs W hr =>
      (r_Untag (fun h2 x2 e2 => e2 = es ∧ sameT k1 h2 y1 x2 = true) cs ht x i tag W hr fun cs W hr => (hrs' cs W hr).mono fun e w' ⟨h2, x2, hp, hs⟩ => ⟨h2, x2, es, hp, rfl, hs⟩).mono fun e w' ⟨h2, x2, e2, hp, he, hs⟩ => by subst he; exact ⟨h2, x2, hp, hs⟩
    have HGP : Hid (∀ cs W, RdVals W cs 12 (encR ht x) → Calls Try.prog 29 #[.agg cs, .int .i64 i, .int .i64 tag] W fun e w' => e = .returned (.bool (taggedP ht x i tag)) ∧ Below W.heap.size W w') := fun cs W hr => p_Tagged cs ht x i tag W hr i2 i3
    have HGR : Hid (∀ cs W, RdVals W cs 12 (encR ht x) → Calls Try.prog 35 #[.agg cs, .int .i64 i, .int .i64 tag] W fun e w' => e = .returned (.bool (taggedP ht x i tag)) ∧ Below W.heap.size W w') := fun cs W hr => by
      rw [tagged_ref]; exact r_Tagged cs ht x i tag W hr
    clear hse hrs hse' hrs'
    generalize taggedP ht x i tag = gp at *
    have hgg : (gp == gp) = true := by simp
    have hee : (er != er) = false := by simp
    have hss : (es == es) = true := by simp
    go_enter Try.func8, Try.ntmps8
    go_wp2_with (first
      | (go_at_call 17; refine (l_awake _).mono ?_; rintro e w' ⟨rfl, hb⟩; (first | (obtain ⟨X, rfl⟩ := plus_again hb) | (obtain ⟨X, rfl⟩ := plus_of_below hb)); clear hb)
      | (go_at_call 18; refine (r_Few _ ht x _ ?_).mono ?_; exact HR.out.keep (below_keeps (by (repeat' (first | (with_reducible exact Below.refl _ _) | (with_reducible assumption) | (with_reducible refine below_plus ?_ ?_ _) | (with_reducible refine Below.alloc ?_ ?_ _) | (with_reducible refine Below.drew ?_) | (with_reducible refine below_drewN ?_ _) | (with_reducible refine Below.setCell ?_ ?_ _) | (first | omega | (simp only [World.size_alloc, size_plus, World.size_drew, World.size_setCell] <;> omega) | (simp <;> omega)) | omega | (simp; omega))))); rintro e w' ⟨rfl, hb⟩; (first | (obtain ⟨X, rfl⟩ := plus_again hb) | (obtain ⟨X, rfl⟩ := plus_of_below hb)); clear hb; rw [hf])
      | (go_at_call 31; refine (HPT.out _ _ ?_).mono ?_; exact HR.out.keep (below_keeps (by (repeat' (first | (with_reducible exact Below.refl _ _) | (with_reducible assumption) | (with_reducible refine below_plus ?_ ?_ _) | (with_reducible refine Below.alloc ?_ ?_ _) | (with_reducible refine Below.drew ?_) | (with_reducible refine below_drewN ?_ _) | (with_reducible refine Below.setCell ?_ ?_ _) | (first | omega | (simp only [World.size_alloc, size_plus, World.size_drew, World.size_setCell] <;> omega) | (simp <;> omega)) | omega | (simp; omega))))); rintro e W1 ⟨s1, rfl, ho1, hb1⟩; (obtain ⟨A1, cap1, rfl, -⟩ := ho1.slice); have HO1 := Lib.hid ho1; (have HBW1 : Hid (Below w.heap.size w W1) := below_trans (by (repeat' (first | (with_reducible exact Below.refl _ _) | (with_reducible assumption) | (with_reducible refine below_plus ?_ ?_ _) | (with_reducible refine Below.alloc ?_ ?_ _) | (with_reducible refine Below.drew ?_) | (with_reducible refine below_drewN ?_ _) | (with_reducible refine Below.setCell ?_ ?_ _) | (first | omega | (simp only [World.size_alloc, size_plus, World.size_drew, World.size_setCell] <;> omega) | (simp <;> omega)) | omega | (simp; omega)))) (hb1.mono (by (first | omega | (simp only [World.size_alloc, size_plus, World.size_drew, World.size_setCell] <;> omega) | (simp <;> omega))))); (have HX1 := Lib.hid ((hb1.block w.heap.size (by (first | omega | (simp only [World.size_alloc, size_plus, World.size_drew, World.size_setCell] <;> omega) | (simp <;> omega)))).trans (by (repeat' (first | (refine heap_alloc_here _ _ _ ?_; (first | omega | (simp only [World.size_alloc, size_plus, World.size_drew, World.size_setCell] <;> omega) | (simp <;> omega))) | (refine (heap_alloc_old _ _ _ ?_).trans ?_; (first | omega | (simp only [World.size_alloc, size_plus, World.size_drew, World.size_setCell] <;> omega) | (simp <;> omega))) | (refine (heap_plus _ _ _ ?_).trans ?_; (first | omega | (simp only [World.size_alloc, size_plus, World.size_drew, World.size_setCell] <;> omega) | (simp <;> omega))) | rfl))) : W1.heap[w.heap.size]? = some (.cells (cellsR ht x (.slice A x.n cap)) 28 (0, 0)))); have dW := row12 HX1.out; have hlW := lt_of_heap HX1.out; clear ho1 hb1)
      | ((with_reducible refine wpList_storeR_new (.tmp 7) (.tmp 24) ?_ ?_ W1.heap.size ?_ h1 x1 A1 x1.n cap1 ?_ rfl rfl ?_); (with_reducible rfl); rfl; rfl; rfl)
      | (go_at_call 32; refine (HRT.out _ _ ?_).mono ?_; exact HR.out.keep (below_keeps (HBW1.out.alloc HBW1.out.size _)); rintro e W2 ⟨h2, x2, ⟨s2, rfl, ho2, hb2⟩, hsm⟩; (obtain ⟨A2, cap2, rfl, -⟩ := ho2.slice); have HSM := Lib.hid hsm; (have HX2 := Lib.hid ((hb2.block w.heap.size (by (first | omega | (simp only [World.size_alloc, size_plus, World.size_drew, World.size_setCell] <;> omega) | (simp <;> omega)))).trans ((Below.heap_alloc _ _ _ hlW).trans HX1.out))); (have H72 := Lib.hid ((hb2.block W1.heap.size (by (first | omega | (simp only [World.size_alloc, size_plus, World.size_drew, World.size_setCell] <;> omega) | (simp <;> omega)))).trans (heap_alloc_new W1 _))); have dW2 := row12 HX2.out; have d72 := row12 H72.out; have hlW2 := lt_of_heap HX2.out; have hl72 := lt_of_heap H72.out; (have hBW2 : Below w.heap.size w W2 := (HBW1.out.alloc HBW1.out.size _).trans (hb2.mono (by have := HBW1.out.size; simp; omega))); (have HRD1 := Lib.hid (rd_of_own HO1.out ((below_alloc W1 _).trans (hb2.mono (by simp))) h1)); have HRD2 := Lib.hid (rdR_shut (ht := h2) ho2.rd); clear ho2 hb2 hsm)
      | ((with_reducible refine wpList_storeR_new (.tmp 9) (.tmp 31) ?_ ?_ W2.heap.size ?_ h2 x2 A2 x2.n cap2 ?_ rfl rfl ?_); (with_reducible rfl); rfl; rfl; rfl)
      | (go_at_call 21; refine (r_Same _ _ h1 h2 x1 x2 _ (HRD1.out.keep (below_keeps (by (repeat' (first | (with_reducible exact Below.refl _ _) | (with_reducible assumption) | (with_reducible refine below_plus ?_ ?_ _) | (with_reducible refine Below.alloc ?_ ?_ _) | (with_reducible refine Below.drew ?_) | (with_reducible refine below_drewN ?_ _) | (with_reducible refine Below.setCell ?_ ?_ _) | (first | omega | (simp only [World.size_alloc, size_plus, World.size_drew, World.size_setCell] <;> omega) | (simp <;> omega)) | omega | (simp; omega)))))) (HRD2.out.keep (below_keeps (by (repeat' (first | (with_reducible exact Below.refl _ _) | (with_reducible assumption) | (with_reducible refine below_plus ?_ ?_ _) | (with_reducible refine Below.alloc ?_ ?_ _) | (with_reducible refine Below.drew ?_) | (with_reducible refine below_drewN ?_ _) | (with_reducible refine Below.setCell ?_ ?_ _) | (first | omega | (simp only [World.size_alloc, size_plus, World.size_drew, World.size_setCell] <;> omega) | (simp <;> omega)) | omega | (simp; omega))))))).mono ?_; rintro e w' ⟨rfl, hb⟩; (first | (obtain ⟨X, rfl⟩ := plus_again hb) | (obtain ⟨X, rfl⟩ := plus_of_below hb)); clear hb; rw [HSM.out])
      | (go_at_call 33; refine (HPU.out _ _ ?_).mono ?_; exact HR.out.keep (below_keeps (by (repeat' (first | (with_reducible exact Below.refl _ _) | (with_reducible assumption) | (with_reducible refine below_plus ?_ ?_ _) | (with_reducible refine Below.alloc ?_ ?_ _) | (with_reducible refine Below.drew ?_) | (with_reducible refine below_drewN ?_ _) | (with_reducible refine Below.setCell ?_ ?_ _) | (first | omega | (simp only [World.size_alloc, size_plus, World.size_drew, World.size_setCell] <;> omega) | (simp <;> omega)) | omega | (simp; omega))))); rintro e W3 ⟨s3, rfl, ho3, hb3⟩; (obtain ⟨A3, cap3, rfl, -⟩ := ho3.slice); (have HX3 := Lib.hid ((hb3.block w.heap.size (by (first | omega | (simp only [World.size_alloc, size_plus, World.size_drew, World.size_setCell] <;> omega) | (simp <;> omega)))).trans ((heap_plus _ _ _ (by (first | omega | (simp only [World.size_alloc, size_plus, World.size_drew, World.size_setCell] <;> omega) | (simp <;> omega)))).trans ((Below.heap_alloc _ _ _ hlW2).trans HX2.out)))); (have H73 := Lib.hid ((hb3.block W1.heap.size (by (first | omega | (simp only [World.size_alloc, size_plus, World.size_drew, World.size_setCell] <;> omega) | (simp <;> omega)))).trans ((heap_plus _ _ _ (by (first | omega | (simp only [World.size_alloc, size_plus, World.size_drew, World.size_setCell] <;> omega) | (simp <;> omega)))).trans ((Below.heap_alloc _ _ _ hl72).trans H72.out)))); (have H93 := Lib.hid ((hb3.block W2.heap.size (by (first | omega | (simp only [World.size_alloc, size_plus, World.size_drew, World.size_setCell] <;> omega) | (simp <;> omega)))).trans ((heap_plus _ _ _ (by (first | omega | (simp only [World.size_alloc, size_plus, World.size_drew, World.size_setCell] <;> omega) | (simp <;> omega)))).trans (heap_alloc_new W2 _)))); (have hBW3 : Below w.heap.size w W3 := below_trans (by (repeat' (first | (with_reducible exact Below.refl _ _) | (with_reducible assumption) | (with_reducible refine below_plus ?_ ?_ _) | (with_reducible refine Below.alloc ?_ ?_ _) | (with_reducible refine Below.drew ?_) | (with_reducible refine below_drewN ?_ _) | (with_reducible refine Below.setCell ?_ ?_ _) | (first | omega | (simp only [World.size_alloc, size_plus, World.size_drew, World.size_setCell] <;> omega) | (simp <;> omega)) | omega | (simp; omega)))) (hb3.mono (by (first | omega | (simp only [World.size_alloc, size_plus, World.size_drew, World.size_setCell] <;> omega) | (simp <;> omega))))); (have HO3 := Lib.hid (ho3.mono (S' := fun b => W2.heap.size + 1 ≤ b) (fun b hb => by simp at hb; omega))); clear ho3 hb3)
      | ((with_reducible refine wpList_storeR (.tmp 7) (.tmp 47) ?_ ?_ W1.heap.size ?_ k1 y1 A3 y1.n cap3 ?_ (cellsR h1 x1 (.slice A1 x1.n cap1)) 28 ?_ rfl ?_); (with_reducible rfl); rfl; rfl; rfl; exact H73.out; generalize hV3 : World.setRow W3 _ _ = V3; (have HX4 : Hid (V3.heap[w.heap.size]? = some (.cells (cellsR ht x (.slice A x.n cap)) 28 (0, 0))) := by rw [← hV3]; exact (setRow_other _ _ _ _ (by omega)).trans HX3.out); (have H74 : Hid (V3.heap[W1.heap.size]? = some (.cells (cellsR k1 y1 (.slice A3 y1.n cap3)) 28 (0, 0))) := by rw [← hV3]; exact setRow_heap _ _ _ _ _ _ H73.out); (have H94 : Hid (V3.heap[W2.heap.size]? = some (.cells (cellsR h2 x2 (.slice A2 x2.n cap2)) 28 (0, 0))) := by rw [← hV3]; exact (setRow_other _ _ _ _ (by omega)).trans H93.out); (have HO4 : Hid (OwnK V3 y1 (.slice A3 y1.n cap3) (fun b => W2.heap.size + 1 ≤ b)) := by rw [← hV3]; exact OwnK.frame y1 HO3.out fun b hb _ => setRow_other _ _ _ _ (by omega)); (have hBV3 : Below w.heap.size w V3 := by rw [← hV3]; exact below_setRow hBW3 (by omega) _); have d34 := row12 HX4.out; have hl34 := lt_of_heap HX4.out; clear hV3)
      | (go_at_call 34; refine (HRU.out _ _ ?_).mono ?_; exact HR.out.keep (below_keeps hBV3); rintro e W4 ⟨h4, x4, ⟨s4, rfl, ho4, hb4⟩, hsm4⟩; (obtain ⟨A4, cap4, rfl, -⟩ := ho4.slice); have HSM4 := Lib.hid hsm4; (have HX5 := Lib.hid ((hb4.block _ (lt_of_heap HX4.out)).trans HX4.out)); (have H75 := Lib.hid ((hb4.block _ (lt_of_heap H74.out)).trans H74.out)); (have H95 := Lib.hid ((hb4.block _ (lt_of_heap H94.out)).trans H94.out)); (have HO5 := Lib.hid (OwnK.frame y1 HO4.out fun b _ hl => hb4.block b hl)); (have hBW4 : Below w.heap.size w W4 := hBV3.trans (hb4.mono hBV3.size)); (have HO6 := Lib.hid (ho4.mono (S' := fun b => W2.heap.size + 1 ≤ b) (fun b hb => Nat.le_trans (lt_of_heap H94.out) hb))); clear ho4 hb4 hsm4)
      | ((with_reducible refine wpList_storeR (.tmp 9) (.tmp 54) ?_ ?_ W2.heap.size ?_ h4 x4 A4 x4.n cap4 ?_ (cellsR h2 x2 (.slice A2 x2.n cap2)) 28 ?_ rfl ?_); (with_reducible rfl); rfl; rfl; rfl; exact H95.out; generalize hV4 : World.setRow W4 _ _ = V4; (have HX6 : Hid (V4.heap[w.heap.size]? = some (.cells (cellsR ht x (.slice A x.n cap)) 28 (0, 0))) := by rw [← hV4]; exact (setRow_other _ _ _ _ (by omega)).trans HX5.out); (have H76 : Hid (V4.heap[W1.heap.size]? = some (.cells (cellsR k1 y1 (.slice A3 y1.n cap3)) 28 (0, 0))) := by rw [← hV4]; exact (setRow_other _ _ _ _ (by omega)).trans H75.out); (have H96 : Hid (V4.heap[W2.heap.size]? = some (.cells (cellsR h4 x4 (.slice A4 x4.n cap4)) 28 (0, 0))) := by rw [← hV4]; exact setRow_heap _ _ _ _ _ _ H95.out); (have HRD3 : Hid (RdVals V4 (cellsR k1 y1 (.slice A3 y1.n cap3)) 12 (encR k1 y1)) := by rw [← hV4]; exact rdR_shut (OwnK.frame y1 HO5.out fun b hb _ => setRow_other _ _ _ _ (by omega)).rd); (have HRD4 : Hid (RdVals V4 (cellsR h4 x4 (.slice A4 x4.n cap4)) 12 (encR h4 x4)) := by rw [← hV4]; exact rdR_shut (OwnK.frame x4 HO6.out fun b hb _ => setRow_other _ _ _ _ (by omega)).rd); (have hBV4 : Below w.heap.size w V4 := by rw [← hV4]; exact below_setRow hBW4 (by omega) _); have d36 := row12 HX6.out; have d76 := row12 H76.out; have d96 := row12 H96.out; have hl36 := lt_of_heap HX6.out; have hl76 := lt_of_heap H76.out; have hl96 := lt_of_heap H96.out; have HR6 := Lib.hid (HR.out.keep (below_keeps hBV4)); clear hV4))
    have HSAME : Hid (∀ W, Below V4.heap.size V4 W → Calls Try.prog 21 #[.agg (cellsR k1 y1 (.slice A3 y1.n cap3)), .agg (cellsR h4 x4 (.slice A4 x4.n cap4))] W fun e w' => e = .returned (.bool true) ∧ Below W.heap.size W w') := fun W hW => by
      have q := r_Same _ _ k1 h4 y1 x4 W (HRD3.out.keep (below_keeps hW)) (HRD4.out.keep (below_keeps hW))
      rw [HSM4.out] at q; exact q
    (refine wp_region_quiet_plus (by kernel_rfl) (by kernel_rfl) ?_; (repeat (go_big_quiet_step ((first
      | (go_at_call 21; exact Calls.quiet_plus (HSAME.out _ (by (repeat' (first | (with_reducible exact Below.refl _ _) | (with_reducible assumption) | (with_reducible refine below_plus ?_ ?_ _) | (with_reducible refine Below.alloc ?_ ?_ _) | (with_reducible refine Below.drew ?_) | (with_reducible refine below_drewN ?_ _) | (with_reducible refine Below.setCell ?_ ?_ _) | (first | omega | (simp only [World.size_alloc, size_plus, World.size_drew, World.size_setCell] <;> omega) | (simp <;> omega)) | omega | (simp; omega))))))
      | (go_at_call 29; exact Calls.quiet_plus (HGP.out _ _ (HR6.out.keep (below_keeps (by (repeat' (first | (with_reducible exact Below.refl _ _) | (with_reducible assumption) | (with_reducible refine below_plus ?_ ?_ _) | (with_reducible refine Below.alloc ?_ ?_ _) | (with_reducible refine Below.drew ?_) | (with_reducible refine below_drewN ?_ _) | (with_reducible refine Below.setCell ?_ ?_ _) | (first | omega | (simp only [World.size_alloc, size_plus, World.size_drew, World.size_setCell] <;> omega) | (simp <;> omega)) | omega | (simp; omega))))))))
      | (go_at_call 35; exact Calls.quiet_plus (HGR.out _ _ (HR6.out.keep (below_keeps (by (repeat' (first | (with_reducible exact Below.refl _ _) | (with_reducible assumption) | (with_reducible refine below_plus ?_ ?_ _) | (with_reducible refine Below.alloc ?_ ?_ _) | (with_reducible refine Below.drew ?_) | (with_reducible refine below_drewN ?_ _) | (with_reducible refine Below.setCell ?_ ?_ _) | (first | omega | (simp only [World.size_alloc, size_plus, World.size_drew, World.size_setCell] <;> omega) | (simp <;> omega)) | omega | (simp; omega)))))))))))); refine wpQuiet_nil ?_; intro _)
    go_wp2_with fail
    go_ret
    exact ⟨rfl, below_plus hBV4 hBV4.size _⟩
end Go.Proofs.Ytcicfijpfhbcaaa

namespace Go.Proofs.Ytcicfijpfhbcaaa
set_option linter.unusedSimpArgs false
set_option linter.unusedVariables false
open Go.RowKit Go.WideShapes Go.ChangeShapes Go.ChangeAt

set_option maxRecDepth 100000 in
theorem radixTags_lifted (os : Os) (started : os.Started) (H : Type) (enc : TypeId × Value → H) :
    ReturnsInHanded {} Try.checked os 8 .any (Rows.radixTagsSpec.pre6 enc Try.prog Try.f8 Rows.radixTagsRow.domain false) (Rows.radixTagsSpec.post enc Try.prog Try.f8 false true false false) := by
  refine returnsInHanded_of_change (C := Try.checked) own_ started (by kernel_rfl) Try.func8
    (ChangeSpec.witness6 (enc := enc) (C := Try.checked) false ⟨#[], #[.agg (cellsR 0 zeroN (.slice none 0 0)), .int .i64 0, .int .i64 0], []⟩ 8 (by kernel_rfl) (by kernel_rfl) (by kernel_rfl) (by kernel_rfl)) ?_
  intro W base args ds gs before hval0 hW hcnd _
  have hW' := hW
  obtain ⟨p, q, hA0, hV, rfl, hfz, hnd⟩ := hW
  have hA : DataW.TrodAll enc Try.prog W 0 (fun _ => true) true Try.f8.params.toList args.toList ds p := hA0
  rw [Try.params8] at hA
  obtain ⟨v0, v1, v2, d0, d1, d2, p0, p1, p2, rfl, rfl, rfl, h0, h1, h2⟩ := trodAll_three hA
  obtain ⟨rfl, rfl⟩ := trodVars_none hV
  obtain ⟨a1, rfl, rfl, rfl, hwf⟩ := open_int Try.underlying3 (hval0 1 3 v1 rfl rfl) h1
  obtain ⟨a2, rfl, rfl, rfl, hwf2⟩ := open_int Try.underlying3 (hval0 2 3 v2 rfl rfl) h2
  obtain ⟨g0, g1⟩ := wf_i64 hwf
  obtain ⟨k0, k1⟩ := wf_i64 hwf2
  obtain ⟨cs, ht, x, rfl, hr⟩ := open_R h0
  have hlt : ∀ y ∈ (p0 ++ [] ++ []) ++ [], y.block < W.heap.size := fun y hy => hW'.lt y hy
  refine (l_Tags cs ht x a1 a2 W hr g0 g1).mono fun e W' ⟨he, hb⟩ => ?_
  subst he
  refine ⟨_, rfl, post_of_below (pa := p0 ++ ([] ++ [])) (pv := []) hW' (fun _ _ _ => trodAll_mk1 (shut_bool Try.underlying4 _)) (fun sp hsp => trodAll_mk3 (WideElems.Trod_stays laidOut_ readR rowR h0 (fun y hy => hb.same (hlt y (by simpa using hy))) (fun y hy => hsp y (by simpa using hy))) (shut_int Try.underlying3 hwf) (shut_int Try.underlying3 hwf2))
    (fun _ _ => rfl) (by simp) hb (ok_one (by kernel_rfl) rfl (okWide_bool_mk Try.underlying4 _))⟩

set_option maxRecDepth 100000 in
theorem radixTags_holds : Rows.RadixTagsSaid :=
  OpenClaim.holds_of_wide 8 Try.f8 rfl rfl rfl rfl rfl rfl rfl ⟨rfl, rfl, rfl, rfl, rfl⟩ rfl rfl rfl rfl rfl (by kernel_rfl) Try.func8 (by kernel_rfl)
    (of_decide_eq_true (by kernel_rfl)) (by unfold Func.isWrapper; rw [if_neg (by decide +kernel)]; exact ⟨rfl, rfl⟩)
    (fun os started H enc _ => radixTags_lifted os started H enc)
end Go.Proofs.Ytcicfijpfhbcaaa
