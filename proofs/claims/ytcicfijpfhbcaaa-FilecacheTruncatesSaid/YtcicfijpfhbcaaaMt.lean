/-
  The law FilecacheTruncates.
-/
import Derived.Test.YtcicfijpfhbcaaaGu
import Derived.Test.YtcicfijpfhbcaaaFx
namespace Go.Proofs.Ytcicfijpfhbcaaa
set_option linter.unusedSimpArgs false
set_option linter.unusedVariables false
set_option linter.unusedSectionVars false
open Go.RowKit

theorem truncL_len (ht : Int) (x : RN) (size : Int) : (truncP ht x size).2.1.length ≤ 1073741824 := by
  unfold truncP
  split
  · simp
  · split
    · simp
    · have := trL_len ht x size (eachL ht x (-1))
      have := len_each ht x
      show (trL ht x size (eachL ht x (-1))).length ≤ 1073741824
      omega

set_option maxRecDepth 100000 in
set_option maxHeartbeats 1000000 in
theorem m_Truncates (cs : Array Value) (ht : Int) (x : RN) (size : Int) (w : World) (hr : RdVals w cs 12 (encR ht x)) (hv : vOk ht x) :
    Calls Try.prog 12 #[.agg cs, .int .i64 size] w fun e w' => e = .returned (.bool true) ∧ Below w.heap.size w w' := by
  obtain ⟨A, cap, rfl, hk⟩ := rdR_open hr
  have HR := Lib.hid hr
  clear hr hk
  cases hf : fewB x
  · go_enter Try.func12, Try.ntmps12
    go_wp2_with (first
      | (go_at_call 40; refine (m_awake _).mono ?_; rintro e w' ⟨rfl, hb⟩; (first | (obtain ⟨X, rfl⟩ := plus_again hb) | (obtain ⟨X, rfl⟩ := plus_of_below hb)); clear hb)
      | (go_at_call 18; refine (r_Few _ ht x _ ?_).mono ?_; exact HR.out.keep (below_keeps (by (repeat' (first | (with_reducible exact Below.refl _ _) | (with_reducible assumption) | (with_reducible refine below_plus ?_ ?_ _) | (with_reducible refine Below.alloc ?_ ?_ _) | (with_reducible refine Below.drew ?_) | (with_reducible refine below_drewN ?_ _) | (with_reducible refine Below.setCell ?_ ?_ _) | (first | omega | (simp only [World.size_alloc, size_plus, World.size_drew, World.size_setCell] <;> omega) | (simp <;> omega)) | omega | (simp; omega))))); rintro e w' ⟨rfl, hb⟩; (first | (obtain ⟨X, rfl⟩ := plus_again hb) | (obtain ⟨X, rfl⟩ := plus_of_below hb)); clear hb; rw [hf]))
    go_ret
    exact ⟨rfl, by (repeat' (first | (with_reducible exact Below.refl _ _) | (with_reducible assumption) | (with_reducible refine below_plus ?_ ?_ _) | (with_reducible refine Below.alloc ?_ ?_ _) | (with_reducible refine Below.drew ?_) | (with_reducible refine below_drewN ?_ _) | (with_reducible refine Below.setCell ?_ ?_ _) | (first | omega | (simp only [World.size_alloc, size_plus, World.size_drew, World.size_setCell] <;> omega) | (simp <;> omega)) | omega | (simp; omega)))⟩
  · have HT1 : Hid (∀ cs W, RdVals W cs 12 (encR ht x) → Calls Try.prog 52 #[.agg cs, .int .i64 size] W (TruncPost (truncP ht x size) W)) := fun cs W h => c_Truncate cs ht x size W h hv
    have HT2 : Hid (∀ cs W, RdVals W cs 12 (encR ht x) → Calls Try.prog 53 #[.agg cs, .int .i64 size] W (RTrunc (truncP ht x size) W)) := fun cs W h => d_Truncate cs ht x size W h hv
    have hlen := truncL_len ht x size
    generalize truncP ht x size = p at *
    obtain ⟨⟨h0, x0⟩, L, er⟩ := p
    have hlen' : L.length ≤ 1073741824 := hlen
    have HEQ : Hid (∀ va vb W, RdI W L va → RdI W L vb → Calls Try.prog 49 #[va, vb] W fun e w' => e = .returned (.bool true) ∧ Below W.heap.size W w') := fun va vb W h1 h2 => by
      have := q_Equal L L va vb W h1 h2
      rwa [decide_eq_true rfl] at this
    have hee : (er == er) = true := by simp
    clear hv hlen
    go_enter Try.func12, Try.ntmps12
    go_wp2_with (first
      | (go_at_call 18; refine (r_Few _ ht x _ ?_).mono ?_; exact HR.out.keep (below_keeps (by (repeat' (first | (with_reducible exact Below.refl _ _) | (with_reducible assumption) | (with_reducible refine below_plus ?_ ?_ _) | (with_reducible refine Below.alloc ?_ ?_ _) | (with_reducible refine Below.drew ?_) | (with_reducible refine below_drewN ?_ _) | (with_reducible refine Below.setCell ?_ ?_ _) | (first | omega | (simp only [World.size_alloc, size_plus, World.size_drew, World.size_setCell] <;> omega) | (simp <;> omega)) | omega | (simp; omega))))); rintro e w' ⟨rfl, hb⟩; (first | (obtain ⟨X, rfl⟩ := plus_again hb) | (obtain ⟨X, rfl⟩ := plus_of_below hb)); clear hb; rw [hf])
      | (go_at_call 52; (with_reducible refine (HT1.out _ _ ?_).mono ?_); exact HR.out.keep (below_keeps (by (repeat' (first | (with_reducible exact Below.refl _ _) | (with_reducible assumption) | (with_reducible refine below_plus ?_ ?_ _) | (with_reducible refine Below.alloc ?_ ?_ _) | (with_reducible refine Below.drew ?_) | (with_reducible refine below_drewN ?_ _) | (with_reducible refine Below.setCell ?_ ?_ _) | (first | omega | (simp only [World.size_alloc, size_plus, World.size_drew, World.size_setCell] <;> omega) | (simp <;> omega)) | omega | (simp; omega))))); rintro e9 W1 ⟨s1, v1, rfl, ho1, hi1, hb1⟩; (obtain ⟨A1, cap1, rfl, -⟩ := ho1.slice); (obtain ⟨A5, cap5, rfl, -, -⟩ := hi1.slice); (have HB1 : Hid (Below w.heap.size w W1) := (by (repeat' (first | (with_reducible exact Below.refl _ _) | (with_reducible assumption) | (with_reducible refine below_plus ?_ ?_ _) | (with_reducible refine Below.alloc ?_ ?_ _) | (with_reducible refine Below.drew ?_) | (with_reducible refine below_drewN ?_ _) | (with_reducible refine Below.setCell ?_ ?_ _) | (first | omega | (simp only [World.size_alloc, size_plus, World.size_drew, World.size_setCell] <;> omega) | (simp <;> omega)) | omega | (simp; omega))) : Below w.heap.size w _).trans (hb1.mono (by (first | omega | (simp only [World.size_alloc, size_plus, World.size_drew, World.size_setCell] <;> omega) | (simp <;> omega))))); (have HrW1 : Hid (W1.heap[w.heap.size]? = some (.cells (cellsR ht x (.slice A x.n cap)) 28 (0, 0))) := (hb1.block w.heap.size (by (first | omega | (simp only [World.size_alloc, size_plus, World.size_drew, World.size_setCell] <;> omega) | (simp <;> omega)))).trans (by (repeat' (first | (refine heap_alloc_here _ _ _ ?_; (first | omega | (simp only [World.size_alloc, size_plus, World.size_drew, World.size_setCell] <;> omega) | (simp <;> omega))) | (refine (heap_alloc_old _ _ _ ?_).trans ?_; (first | omega | (simp only [World.size_alloc, size_plus, World.size_drew, World.size_setCell] <;> omega) | (simp <;> omega))) | (refine (heap_plus _ _ _ ?_).trans ?_; (first | omega | (simp only [World.size_alloc, size_plus, World.size_drew, World.size_setCell] <;> omega) | (simp <;> omega))) | rfl)))); have HO1 := Lib.hid ho1; have HI1 := Lib.hid (hi1.rdI hlen'); clear ho1 hb1 hi1)
      | ((with_reducible refine wpList_storeR_new (.tmp 5) (.tmp 19) ?_ ?_ W1.heap.size ?_ h0 x0 A1 x0.n cap1 ?_ rfl rfl ?_); (with_reducible rfl); rfl; rfl; rfl; generalize hV1 : World.alloc W1 _ = V1; (have hs1 : Below W1.heap.size W1 V1 := by rw [← hV1]; exact below_alloc _ _); (have HWV1 : Hid (Below w.heap.size w V1) := HB1.out.trans (hs1.mono HB1.out.size)); (have HrV1 : Hid (V1.heap[w.heap.size]? = some (.cells (cellsR ht x (.slice A x.n cap)) 28 (0, 0))) := (hs1.block _ (lt_of_heap HrW1.out)).trans HrW1.out); (have Hb1V1 : Hid (V1.heap[W1.heap.size]? = some (.cells (cellsR h0 x0 (.slice A1 x0.n cap1)) 28 (0, 0))) := by rw [← hV1]; exact heap_alloc_new _ _); (have HRb1V1 : Hid (RdVals V1 (cellsR h0 x0 (.slice A1 x0.n cap1)) 12 (encR h0 x0)) := (rdR_shut HO1.out.rd).keep (below_keeps hs1)); (have HI1V := Lib.hid (HI1.out.below hs1)); have drV1 := row12 HrV1.out; have lrV1 := lt_of_heap HrV1.out; clear hV1 hs1)
      | (go_at_call 53; (with_reducible refine (HT2.out _ _ ?_).mono ?_); exact HR.out.keep (below_keeps HWV1.out); rintro e9 W2 ⟨g0, y0, A2, cap2, v2, rfl, ho2, hi2, hb2, hsm2⟩; (obtain ⟨A6, cap6, rfl, -, -⟩ := hi2.slice); have HP2 := Lib.hid hb2; (have HB2 : Hid (Below w.heap.size w W2) := HWV1.out.trans (hb2.mono HWV1.out.size)); have HO2 := Lib.hid ho2; have HSM0 := Lib.hid hsm2; have HI2 := Lib.hid (hi2.rdI hlen'); clear ho2 hb2 hsm2 hi2)
      | ((with_reducible refine wpList_storeR_new (.tmp 8) (.tmp 26) ?_ ?_ W2.heap.size ?_ g0 y0 A2 y0.n cap2 ?_ rfl rfl ?_); (with_reducible rfl); rfl; rfl; rfl; generalize hV2 : World.alloc W2 _ = V2; (have hs2 : Below W2.heap.size W2 V2 := by rw [← hV2]; exact below_alloc _ _); (have HWV2 : Hid (Below w.heap.size w V2) := HB2.out.trans (hs2.mono HB2.out.size)); (have hB2 : Below V1.heap.size V1 V2 := HP2.out.trans (hs2.mono HP2.out.size)); (have Hb1V2 : Hid (V2.heap[W1.heap.size]? = some (.cells (cellsR h0 x0 (.slice A1 x0.n cap1)) 28 (0, 0))) := (hB2.block _ (lt_of_heap Hb1V1.out)).trans Hb1V1.out); (have HRb1V2 : Hid (RdVals V2 (cellsR h0 x0 (.slice A1 x0.n cap1)) 12 (encR h0 x0)) := HRb1V1.out.keep (below_keeps hB2)); (have Hb2V2 : Hid (V2.heap[W2.heap.size]? = some (.cells (cellsR g0 y0 (.slice A2 y0.n cap2)) 28 (0, 0))) := by rw [← hV2]; exact heap_alloc_new _ _); (have HRb2V2 : Hid (RdVals V2 (cellsR g0 y0 (.slice A2 y0.n cap2)) 12 (encR g0 y0)) := HO2.out.keep (below_keeps hs2)); have HI1W := Lib.hid (HI1V.out.below hB2); have HI2W := Lib.hid (HI2.out.below hs2); have db1 := row12 Hb1V2.out; have lb1 := lt_of_heap Hb1V2.out; have db2 := row12 Hb2V2.out; have lb2 := lt_of_heap Hb2V2.out; clear drV1 lrV1; clear hV2 hs2 hB2)
      | (go_at_call 21; refine (r_Same _ _ h0 g0 x0 y0 _ (HRb1V2.out.keep (below_keeps (by (repeat' (first | (with_reducible exact Below.refl _ _) | (with_reducible assumption) | (with_reducible refine below_plus ?_ ?_ _) | (with_reducible refine Below.alloc ?_ ?_ _) | (with_reducible refine Below.drew ?_) | (with_reducible refine below_drewN ?_ _) | (with_reducible refine Below.setCell ?_ ?_ _) | (first | omega | (simp only [World.size_alloc, size_plus, World.size_drew, World.size_setCell] <;> omega) | (simp <;> omega)) | omega | (simp; omega)))))) (HRb2V2.out.keep (below_keeps (by (repeat' (first | (with_reducible exact Below.refl _ _) | (with_reducible assumption) | (with_reducible refine below_plus ?_ ?_ _) | (with_reducible refine Below.alloc ?_ ?_ _) | (with_reducible refine Below.drew ?_) | (with_reducible refine below_drewN ?_ _) | (with_reducible refine Below.setCell ?_ ?_ _) | (first | omega | (simp only [World.size_alloc, size_plus, World.size_drew, World.size_setCell] <;> omega) | (simp <;> omega)) | omega | (simp; omega))))))).mono ?_; rintro e9 W3 ⟨rfl, hb3⟩; rw [show sameT h0 g0 x0 y0 = true from HSM0.out]; have HB3 := Lib.hid hb3; have HI1X := Lib.hid (HI1W.out.below hb3); have HI2X := Lib.hid (HI2W.out.below hb3); clear hb3)
      | (go_at_call 49; (with_reducible refine (HEQ.out _ _ _ HI1X.out HI2X.out).mono ?_); rintro e w' ⟨rfl, hb⟩; (first | (obtain ⟨X, rfl⟩ := plus_again hb) | (obtain ⟨X, rfl⟩ := plus_of_below hb)); clear hb)
      | (go_at_call 40; refine (m_awake _).mono ?_; rintro e w' ⟨rfl, hb⟩; (first | (obtain ⟨X, rfl⟩ := plus_again hb) | (obtain ⟨X, rfl⟩ := plus_of_below hb)); clear hb))
    go_ret
    exact ⟨rfl, below_plus (HWV2.out.trans (HB3.out.mono HWV2.out.size)) (HWV2.out.trans (HB3.out.mono HWV2.out.size)).size _⟩
end Go.Proofs.Ytcicfijpfhbcaaa
