/-
  The law RadixSets.
-/
import Derived.Test.YtcicfijpfhbcaaaLt
import Derived.Test.YtcicfijpfhbcaaaCk
namespace Go.Proofs.Ytcicfijpfhbcaaa
set_option linter.unusedSimpArgs false
set_option linter.unusedVariables false
set_option linter.unusedSectionVars false
open Go.RowKit

theorem row12 {w : World} {g : Nat} {ht : Int} {y : RN} {s : Value} {t : TypeId} {fr : Nat × Nat} (h : w.heap[g]? = some (.cells (cellsR ht y s) t fr)) :
    (w.cell? ⟨g, 0, none⟩ = some (.int .i64 ht) ∧ w.cell? ⟨g, 1, none⟩ = some (.int .i64 (y.v 0)) ∧ w.cell? ⟨g, 2, none⟩ = some (.int .i64 (y.v 1)) ∧ w.cell? ⟨g, 3, none⟩ = some (.int .i64 (y.v 2)) ∧ w.cell? ⟨g, 4, none⟩ = some (.int .i64 (y.v 3)) ∧ w.cell? ⟨g, 5, none⟩ = some (.int .i64 (y.v 4))) ∧
    w.cell? ⟨g, 6, none⟩ = some (.int .i64 (y.v 5)) ∧ w.cell? ⟨g, 7, none⟩ = some (.int .i64 (y.v 6)) ∧ w.cell? ⟨g, 8, none⟩ = some (.int .i64 (y.v 7)) ∧ w.cell? ⟨g, 9, none⟩ = some (.int .i64 y.t0) ∧ w.cell? ⟨g, 10, none⟩ = some (.int .i64 y.t1) ∧ w.cell? ⟨g, 11, none⟩ = some s := by
  have hc : ∀ j, w.cell? ⟨g, j, none⟩ = (cellsR ht y s)[j]? := fun j => cell_of_row _ _ _ _ _ _ h
  exact ⟨⟨hc 0, hc 1, hc 2, hc 3, hc 4, hc 5⟩, hc 6, hc 7, hc 8, hc 9, hc 10, hc 11⟩

set_option maxRecDepth 100000 in
set_option maxHeartbeats 1000000 in
theorem l_Sets (cs : Array Value) (ht : Int) (x : RN) (i v : Int) (w : World) (h : RdVals w cs 12 (encR ht x)) (i2 : -9223372036854775808 ≤ i) (i3 : i ≤ 9223372036854775807) :
    Calls Try.prog 4 #[.agg cs, .int .i64 i, .int .i64 v] w fun e w' => e = .returned (.bool true) ∧ Below w.heap.size w w' := by
  obtain ⟨A, cap, rfl, hk⟩ := rdR_open h
  have HR := Lib.hid h
  clear h hk
  cases hf : fewB x
  · go_enter Try.func4, Try.ntmps4
    go_wp2_with (first
      | (go_at_call 17; refine (l_awake _).mono ?_; rintro e w' ⟨rfl, hb⟩; (first | (obtain ⟨X, rfl⟩ := plus_again hb) | (obtain ⟨X, rfl⟩ := plus_of_below hb)); clear hb)
      | (go_at_call 18; refine (r_Few _ ht x _ ?_).mono ?_; exact HR.out.keep (below_keeps (by (repeat' (first | (with_reducible exact Below.refl _ _) | (with_reducible assumption) | (with_reducible refine below_plus ?_ ?_ _) | (with_reducible refine Below.alloc ?_ ?_ _) | (with_reducible refine Below.drew ?_) | (with_reducible refine below_drewN ?_ _) | (with_reducible refine Below.setCell ?_ ?_ _) | (first | omega | (simp only [World.size_alloc, size_plus, World.size_drew, World.size_setCell] <;> omega) | (simp <;> omega)) | omega | (simp; omega))))); rintro e w' ⟨rfl, hb⟩; (first | (obtain ⟨X, rfl⟩ := plus_again hb) | (obtain ⟨X, rfl⟩ := plus_of_below hb)); clear hb; rw [hf]))
    go_ret
    exact ⟨rfl, by (repeat' (first | (with_reducible exact Below.refl _ _) | (with_reducible assumption) | (with_reducible refine below_plus ?_ ?_ _) | (with_reducible refine Below.alloc ?_ ?_ _) | (with_reducible refine Below.drew ?_) | (with_reducible refine below_drewN ?_ _) | (with_reducible refine Below.setCell ?_ ?_ _) | (first | omega | (simp only [World.size_alloc, size_plus, World.size_drew, World.size_setCell] <;> omega) | (simp <;> omega)) | omega | (simp; omega)))⟩
  · obtain ⟨h1, x1, er, hse, hrs, hgv⟩ := sets_facts ht x i v
    have HPS : Hid (∀ cs W, RdVals W cs 12 (encR ht x) → Calls Try.prog 24 #[.agg cs, .int .i64 i, .int .i64 v] W (TreePost (h1, x1, er) W)) := fun cs W hr => by
      have := p_Set cs ht x i v W hr
      rw [hse] at this; exact this
    have HRS := Lib.hid hrs
    have HGP : Hid (∀ cs W, RdVals W cs 12 (encR ht x) → Calls Try.prog 26 #[.agg cs, .int .i64 i] W fun e w' => e = .returned (.int .i64 (getP ht x i)) ∧ Below W.heap.size W w') := fun cs W hr => p_Get cs ht x i W hr i2 i3
    have HGR : Hid (∀ cs W, RdVals W cs 12 (encR ht x) → Calls Try.prog 27 #[.agg cs, .int .i64 i] W fun e w' => e = .returned (.int .i64 (getP ht x i)) ∧ Below W.heap.size W w') := fun cs W hr => by
      rw [get_ref]; exact r_Get cs ht x i W hr
    have HGV : Hid (er = 0 → ∀ cs W, RdVals W cs 12 (encR h1 x1) → Calls Try.prog 26 #[.agg cs, .int .i64 i] W fun e w' => e = .returned (.int .i64 v) ∧ Below W.heap.size W w') := fun he cs W hr => by
      have := p_Get cs h1 x1 i W hr i2 i3
      rw [hgv he] at this; exact this
    clear hse hrs hgv
    generalize getP ht x i = gp at *
    have hgg : (gp != gp) = false := by simp
    have hee : (er != er) = false := by simp
    go_enter Try.func4, Try.ntmps4
    go_wp2_with (first
      | (go_at_call 17; refine (l_awake _).mono ?_; rintro e w' ⟨rfl, hb⟩; (first | (obtain ⟨X, rfl⟩ := plus_again hb) | (obtain ⟨X, rfl⟩ := plus_of_below hb)); clear hb)
      | (go_at_call 18; refine (r_Few _ ht x _ ?_).mono ?_; exact HR.out.keep (below_keeps (by (repeat' (first | (with_reducible exact Below.refl _ _) | (with_reducible assumption) | (with_reducible refine below_plus ?_ ?_ _) | (with_reducible refine Below.alloc ?_ ?_ _) | (with_reducible refine Below.drew ?_) | (with_reducible refine below_drewN ?_ _) | (with_reducible refine Below.setCell ?_ ?_ _) | (first | omega | (simp only [World.size_alloc, size_plus, World.size_drew, World.size_setCell] <;> omega) | (simp <;> omega)) | omega | (simp; omega))))); rintro e w' ⟨rfl, hb⟩; (first | (obtain ⟨X, rfl⟩ := plus_again hb) | (obtain ⟨X, rfl⟩ := plus_of_below hb)); clear hb; rw [hf])
      | (go_at_call 24; refine (HPS.out _ _ ?_).mono ?_; exact HR.out.keep (below_keeps (by (repeat' (first | (with_reducible exact Below.refl _ _) | (with_reducible assumption) | (with_reducible refine below_plus ?_ ?_ _) | (with_reducible refine Below.alloc ?_ ?_ _) | (with_reducible refine Below.drew ?_) | (with_reducible refine below_drewN ?_ _) | (with_reducible refine Below.setCell ?_ ?_ _) | (first | omega | (simp only [World.size_alloc, size_plus, World.size_drew, World.size_setCell] <;> omega) | (simp <;> omega)) | omega | (simp; omega))))); rintro e W1 ⟨s1, rfl, ho1, hb1⟩; (obtain ⟨A1, cap1, rfl, -⟩ := ho1.slice); have HO1 := Lib.hid ho1; (have HBW1 : Hid (Below w.heap.size w W1) := below_trans (by (repeat' (first | (with_reducible exact Below.refl _ _) | (with_reducible assumption) | (with_reducible refine below_plus ?_ ?_ _) | (with_reducible refine Below.alloc ?_ ?_ _) | (with_reducible refine Below.drew ?_) | (with_reducible refine below_drewN ?_ _) | (with_reducible refine Below.setCell ?_ ?_ _) | (first | omega | (simp only [World.size_alloc, size_plus, World.size_drew, World.size_setCell] <;> omega) | (simp <;> omega)) | omega | (simp; omega)))) (hb1.mono (by (first | omega | (simp only [World.size_alloc, size_plus, World.size_drew, World.size_setCell] <;> omega) | (simp <;> omega))))); (have HX1 := Lib.hid ((hb1.block w.heap.size (by (first | omega | (simp only [World.size_alloc, size_plus, World.size_drew, World.size_setCell] <;> omega) | (simp <;> omega)))).trans (by (repeat' (first | (refine heap_alloc_here _ _ _ ?_; (first | omega | (simp only [World.size_alloc, size_plus, World.size_drew, World.size_setCell] <;> omega) | (simp <;> omega))) | (refine (heap_alloc_old _ _ _ ?_).trans ?_; (first | omega | (simp only [World.size_alloc, size_plus, World.size_drew, World.size_setCell] <;> omega) | (simp <;> omega))) | (refine (heap_plus _ _ _ ?_).trans ?_; (first | omega | (simp only [World.size_alloc, size_plus, World.size_drew, World.size_setCell] <;> omega) | (simp <;> omega))) | rfl))) : W1.heap[w.heap.size]? = some (.cells (cellsR ht x (.slice A x.n cap)) 28 (0, 0)))); have dW := row12 HX1.out; have hlW := lt_of_heap HX1.out; clear ho1 hb1)
      | ((with_reducible refine wpList_storeR_new (.tmp 7) (.tmp 24) ?_ ?_ W1.heap.size ?_ h1 x1 A1 x1.n cap1 ?_ rfl rfl ?_); (with_reducible rfl); rfl; rfl; rfl)
      | (go_at_call 25; refine (HRS.out _ _ ?_).mono ?_; exact HR.out.keep (below_keeps (HBW1.out.alloc HBW1.out.size _)); rintro e W2 ⟨h2, x2, ⟨s2, rfl, ho2, hb2⟩, hsm⟩; (obtain ⟨A2, cap2, rfl, -⟩ := ho2.slice); have HO2 := Lib.hid ho2; have HB2 := Lib.hid hb2; have HSM := Lib.hid hsm; clear ho2 hb2 hsm)
      | ((with_reducible refine wpList_storeR_new (.tmp 9) (.tmp 31) ?_ ?_ W2.heap.size ?_ h2 x2 A2 x2.n cap2 ?_ rfl rfl ?_); (with_reducible rfl); rfl; rfl; rfl))
    go_upto_region 5 with fail
    have hz2 : W1.heap.size + 1 ≤ W2.heap.size := by have := HB2.out.size; simpa using this
    have hw1 := lt_of_heap HX1.out
    have hB2 : Below w.heap.size w W2 := (HBW1.out.alloc HBW1.out.size _).trans (HB2.out.mono (by have := HBW1.out.size; simp; omega))
    have hx3 : W2.heap[w.heap.size]? = some (.cells (cellsR ht x (.slice A x.n cap)) 28 (0, 0)) := (HB2.out.block w.heap.size (by simp; omega)).trans ((Below.heap_alloc _ _ _ hw1).trans HX1.out)
    have hx7 : W2.heap[W1.heap.size]? = some (.cells (cellsR h1 x1 (.slice A1 x1.n cap1)) 28 (0, 0)) := (HB2.out.block W1.heap.size (by simp)).trans (heap_alloc_new _ _)
    have hr1 : RdVals W2 (cellsR h1 x1 (.slice A1 x1.n cap1)) 12 (encR h1 x1) := rd_of_own HO1.out ((below_alloc W1 _).trans (HB2.out.mono (by simp))) h1
    have hr2 : RdVals W2 (cellsR h2 x2 (.slice A2 x2.n cap2)) 12 (encR h2 x2) := rdR_shut HO2.out.rd
    have hr3 : RdVals W2 (cellsR ht x (.slice A x.n cap)) 12 (encR ht x) := HR.out.keep (below_keeps hB2)
    have HSAME : Hid (∀ W, Below W2.heap.size W2 W → Calls Try.prog 21 #[.agg (cellsR h1 x1 (.slice A1 x1.n cap1)), .agg (cellsR h2 x2 (.slice A2 x2.n cap2))] W fun e w' => e = .returned (.bool true) ∧ Below W.heap.size W w') := fun W hW => by
      have := r_Same _ _ h1 h2 x1 x2 W (hr1.keep (below_keeps hW)) (hr2.keep (below_keeps hW))
      rw [HSM.out] at this; exact this
    generalize hV : World.alloc W2 _ = V
    have hbV : Below W2.heap.size W2 V := by rw [← hV]; exact below_alloc _ _
    have hx9 : V.heap[W2.heap.size]? = some (.cells (cellsR h2 x2 (.slice A2 x2.n cap2)) 28 (0, 0)) := by rw [← hV]; exact heap_alloc_new _ _
    have hl3 := lt_of_heap hx3
    have hl7 := lt_of_heap hx7
    have d3 := row12 ((hbV.block _ hl3).trans hx3)
    have d7 := row12 ((hbV.block _ hl7).trans hx7)
    have d9 := row12 hx9
    have hl3' : w.heap.size < V.heap.size := by have := hbV.size; omega
    have hl7' : W1.heap.size < V.heap.size := by have := hbV.size; omega
    have hl9' : W2.heap.size < V.heap.size := lt_of_heap hx9
    have HBV : Hid (Below w.heap.size w V) := hB2.trans (hbV.mono hB2.size)
    have HV := Lib.hid hbV
    have HR1 := Lib.hid (hr1.keep (below_keeps hbV))
    have HR3 := Lib.hid (hr3.keep (below_keeps hbV))
    clear hV hbV hx9 hx3 hx7 hr1 hr2 hr3 hB2 hl3 hl7 HB2
    (refine wp_region_quiet_plus (by kernel_rfl) (by kernel_rfl) ?_; (repeat (go_big_quiet_step ((first
      | (go_at_call 21; exact Calls.quiet_plus (HSAME.out _ (HV.out.trans ((by (repeat' (first | (with_reducible exact Below.refl _ _) | (with_reducible assumption) | (with_reducible refine below_plus ?_ ?_ _) | (with_reducible refine Below.alloc ?_ ?_ _) | (with_reducible refine Below.drew ?_) | (with_reducible refine below_drewN ?_ _) | (with_reducible refine Below.setCell ?_ ?_ _) | (first | omega | (simp only [World.size_alloc, size_plus, World.size_drew, World.size_setCell] <;> omega) | (simp <;> omega)) | omega | (simp; omega))) : Below V.heap.size V _).mono HV.out.size))))
      | (go_at_call 26; exact Calls.quiet_plus (HGP.out _ _ (HR3.out.keep (below_keeps (by (repeat' (first | (with_reducible exact Below.refl _ _) | (with_reducible assumption) | (with_reducible refine below_plus ?_ ?_ _) | (with_reducible refine Below.alloc ?_ ?_ _) | (with_reducible refine Below.drew ?_) | (with_reducible refine below_drewN ?_ _) | (with_reducible refine Below.setCell ?_ ?_ _) | (first | omega | (simp only [World.size_alloc, size_plus, World.size_drew, World.size_setCell] <;> omega) | (simp <;> omega)) | omega | (simp; omega))))))))
      | (go_at_call 27; exact Calls.quiet_plus (HGR.out _ _ (HR3.out.keep (below_keeps (by (repeat' (first | (with_reducible exact Below.refl _ _) | (with_reducible assumption) | (with_reducible refine below_plus ?_ ?_ _) | (with_reducible refine Below.alloc ?_ ?_ _) | (with_reducible refine Below.drew ?_) | (with_reducible refine below_drewN ?_ _) | (with_reducible refine Below.setCell ?_ ?_ _) | (first | omega | (simp only [World.size_alloc, size_plus, World.size_drew, World.size_setCell] <;> omega) | (simp <;> omega)) | omega | (simp; omega)))))))))))); refine wpQuiet_nil ?_; intro _)
    by_cases her : er = 0
    · have HG := Lib.hid (HGV.out her)
      have heb : (er != 0) = false := by simp [her]
      have hvv : (v == v) = true := by simp
      clear her
      go_wp2_with (first
        | (go_at_call 26; refine (HG.out _ _ ?_).mono ?_; exact HR1.out.keep (below_keeps (by (repeat' (first | (with_reducible exact Below.refl _ _) | (with_reducible assumption) | (with_reducible refine below_plus ?_ ?_ _) | (with_reducible refine Below.alloc ?_ ?_ _) | (with_reducible refine Below.drew ?_) | (with_reducible refine below_drewN ?_ _) | (with_reducible refine Below.setCell ?_ ?_ _) | (first | omega | (simp only [World.size_alloc, size_plus, World.size_drew, World.size_setCell] <;> omega) | (simp <;> omega)) | omega | (simp; omega))))); rintro e w' ⟨rfl, hb⟩; (first | (obtain ⟨X, rfl⟩ := plus_again hb) | (obtain ⟨X, rfl⟩ := plus_of_below hb)); clear hb))
      go_ret
      exact ⟨rfl, below_plus HBV.out HBV.out.size _⟩
    · have heb : (er != 0) = true := by simp [her]
      clear her
      go_wp2_with fail
      go_ret
      exact ⟨rfl, below_plus HBV.out HBV.out.size _⟩
end Go.Proofs.Ytcicfijpfhbcaaa
