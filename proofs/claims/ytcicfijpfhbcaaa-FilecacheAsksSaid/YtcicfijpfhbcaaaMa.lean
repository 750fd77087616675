/-
  The law FilecacheAsks.
-/
import Derived.Test.YtcicfijpfhbcaaaGf
import Derived.Test.YtcicfijpfhbcaaaFx
namespace Go.Proofs.Ytcicfijpfhbcaaa
set_option linter.unusedSimpArgs false
set_option linter.unusedVariables false
set_option linter.unusedSectionVars false
open Go.RowKit

theorem framesP_len (ht : Int) (x : RN) : (framesP ht x).length ≤ 1073741824 := by
  unfold framesP
  split
  · simp
  · have := frames_len ht x (eachL ht x (-1))
    have := len_each ht x
    omega

set_option maxRecDepth 100000 in
set_option maxHeartbeats 1000000 in
theorem m_Asks (cs : Array Value) (ht : Int) (x : RN) (i : Int) (w : World) (hr : RdVals w cs 12 (encR ht x)) (hv : vOk ht x) (i2 : -9223372036854775808 ≤ i) (i3 : i ≤ 9223372036854775807) :
    Calls Try.prog 11 #[.agg cs, .int .i64 i] w fun e w' => e = .returned (.bool true) ∧ Below w.heap.size w w' := by
  obtain ⟨A, cap, rfl, hk⟩ := rdR_open hr
  have HR := Lib.hid hr
  clear hr hk
  cases hf : fewB x
  · go_enter Try.func11, Try.ntmps11
    go_wp2_with (first
      | (go_at_call 40; refine (m_awake _).mono ?_; rintro e w' ⟨rfl, hb⟩; (first | (obtain ⟨X, rfl⟩ := plus_again hb) | (obtain ⟨X, rfl⟩ := plus_of_below hb)); clear hb)
      | (go_at_call 18; refine (r_Few _ ht x _ ?_).mono ?_; exact HR.out.keep (below_keeps (by (repeat' (first | (with_reducible exact Below.refl _ _) | (with_reducible assumption) | (with_reducible refine below_plus ?_ ?_ _) | (with_reducible refine Below.alloc ?_ ?_ _) | (with_reducible refine Below.drew ?_) | (with_reducible refine below_drewN ?_ _) | (with_reducible refine Below.setCell ?_ ?_ _) | (first | omega | (simp only [World.size_alloc, size_plus, World.size_drew, World.size_setCell] <;> omega) | (simp <;> omega)) | omega | (simp; omega))))); rintro e w' ⟨rfl, hb⟩; (first | (obtain ⟨X, rfl⟩ := plus_again hb) | (obtain ⟨X, rfl⟩ := plus_of_below hb)); clear hb; rw [hf]))
    go_ret
    exact ⟨rfl, by (repeat' (first | (with_reducible exact Below.refl _ _) | (with_reducible assumption) | (with_reducible refine below_plus ?_ ?_ _) | (with_reducible refine Below.alloc ?_ ?_ _) | (with_reducible refine Below.drew ?_) | (with_reducible refine below_drewN ?_ _) | (with_reducible refine Below.setCell ?_ ?_ _) | (first | omega | (simp only [World.size_alloc, size_plus, World.size_drew, World.size_setCell] <;> omega) | (simp <;> omega)) | omega | (simp; omega)))⟩
  · have HCkc : Hid (∀ cs W, RdVals W cs 12 (encR ht x) → Calls Try.prog 41 #[.agg cs] W fun e w' => e = .returned (.int .i64 (fcP ht x)) ∧ Below W.heap.size W w') := fun cs W h => c_Check cs ht x W h hv
    have HCkd : Hid (∀ cs W, RdVals W cs 12 (encR ht x) → Calls Try.prog 42 #[.agg cs] W fun e w' => e = .returned (.int .i64 (fcP ht x)) ∧ Below W.heap.size W w') := fun cs W h => d_Check cs ht x W h
    have HFrc : Hid (∀ cs W, RdVals W cs 12 (encR ht x) → Calls Try.prog 43 #[.agg cs, .int .i64 i] W fun e w' => e = .returned (.int .i64 (frameP ht x i)) ∧ Below W.heap.size W w') := fun cs W h => c_Frame cs ht x i W h hv i2 i3
    have HFrd : Hid (∀ cs W, RdVals W cs 12 (encR ht x) → Calls Try.prog 44 #[.agg cs, .int .i64 i] W fun e w' => e = .returned (.int .i64 (frameP ht x i)) ∧ Below W.heap.size W w') := fun cs W h => d_Frame cs ht x i W h hv
    have HShc : Hid (∀ cs W, RdVals W cs 12 (encR ht x) → Calls Try.prog 45 #[.agg cs, .int .i64 i] W fun e w' => e = .returned (.int .i64 (shadowP ht x i)) ∧ Below W.heap.size W w') := fun cs W h => c_Shadow cs ht x i W h hv i2 i3
    have HShd : Hid (∀ cs W, RdVals W cs 12 (encR ht x) → Calls Try.prog 46 #[.agg cs, .int .i64 i] W fun e w' => e = .returned (.int .i64 (shadowP ht x i)) ∧ Below W.heap.size W w') := fun cs W h => d_Shadow cs ht x i W h hv
    have HNdc : Hid (∀ cs W, RdVals W cs 12 (encR ht x) → Calls Try.prog 47 #[.agg cs, .int .i64 i] W fun e w' => e = .returned (.int .i64 (dirtyP ht x i)) ∧ Below W.heap.size W w') := fun cs W h => c_NextDirty cs ht x i W h hv
    have HNdd : Hid (∀ cs W, RdVals W cs 12 (encR ht x) → Calls Try.prog 48 #[.agg cs, .int .i64 i] W fun e w' => e = .returned (.int .i64 (dirtyP ht x i)) ∧ Below W.heap.size W w') := fun cs W h => d_NextDirty cs ht x i W h
    have HFsc : Hid (∀ cs W, RdVals W cs 12 (encR ht x) → Calls Try.prog 50 #[.agg cs] W fun e w' => ∃ v, e = .returned v ∧ OwnI w' W.heap.size (framesP ht x) v ∧ Below W.heap.size W w') := fun cs W h => c_Frames cs ht x W h hv
    have HFsd : Hid (∀ cs W, RdVals W cs 12 (encR ht x) → Calls Try.prog 51 #[.agg cs] W fun e w' => ∃ v, e = .returned v ∧ OwnI w' W.heap.size (framesP ht x) v ∧ Below W.heap.size W w') := fun cs W h => d_Frames cs ht x W h hv
    have hlen := framesP_len ht x
    generalize framesP ht x = L at *
    have HEQ : Hid (∀ va vb W, RdI W L va → RdI W L vb → Calls Try.prog 49 #[va, vb] W fun e w' => e = .returned (.bool true) ∧ Below W.heap.size W w') := fun va vb W h1 h2 => by
      have := q_Equal L L va vb W h1 h2
      rwa [decide_eq_true rfl] at this
    clear hv
    generalize fcP ht x = v0 at *
    have hq0 : (v0 == v0) = true := by simp
    generalize frameP ht x i = v1 at *
    have hq1 : (v1 == v1) = true := by simp
    generalize shadowP ht x i = v2 at *
    have hq2 : (v2 == v2) = true := by simp
    generalize dirtyP ht x i = v3 at *
    have hq3 : (v3 == v3) = true := by simp
    go_enter Try.func11, Try.ntmps11
    go_upto_region 3 with (go_at_call 18; refine (r_Few _ ht x _ ?_).mono ?_; exact HR.out.keep (below_keeps (by (repeat' (first | (with_reducible exact Below.refl _ _) | (with_reducible assumption) | (with_reducible refine below_plus ?_ ?_ _) | (with_reducible refine Below.alloc ?_ ?_ _) | (with_reducible refine Below.drew ?_) | (with_reducible refine below_drewN ?_ _) | (with_reducible refine Below.setCell ?_ ?_ _) | (first | omega | (simp only [World.size_alloc, size_plus, World.size_drew, World.size_setCell] <;> omega) | (simp <;> omega)) | omega | (simp; omega))))); rintro e w' ⟨rfl, hb⟩; (first | (obtain ⟨X, rfl⟩ := plus_again hb) | (obtain ⟨X, rfl⟩ := plus_of_below hb)); clear hb; rw [hf])
    generalize hW0 : World.plus _ _ = W0
    have hbx : W0.heap[w.heap.size]? = some (.cells (cellsR ht x (.slice A x.n cap)) 28 (0, 0)) := by rw [← hW0]; (repeat' (first | (refine heap_alloc_here _ _ _ ?_; (first | omega | (simp only [World.size_alloc, size_plus, World.size_drew, World.size_setCell] <;> omega) | (simp <;> omega))) | (refine (heap_alloc_old _ _ _ ?_).trans ?_; (first | omega | (simp only [World.size_alloc, size_plus, World.size_drew, World.size_setCell] <;> omega) | (simp <;> omega))) | (refine (heap_plus _ _ _ ?_).trans ?_; (first | omega | (simp only [World.size_alloc, size_plus, World.size_drew, World.size_setCell] <;> omega) | (simp <;> omega))) | rfl))
    have HB : Hid (Below w.heap.size w W0) := by rw [← hW0]; unfold Hid; (repeat' (first | (with_reducible exact Below.refl _ _) | (with_reducible assumption) | (with_reducible refine below_plus ?_ ?_ _) | (with_reducible refine Below.alloc ?_ ?_ _) | (with_reducible refine Below.drew ?_) | (with_reducible refine below_drewN ?_ _) | (with_reducible refine Below.setCell ?_ ?_ _) | (first | omega | (simp only [World.size_alloc, size_plus, World.size_drew, World.size_setCell] <;> omega) | (simp <;> omega)) | omega | (simp; omega)))
    clear hW0
    have keep : ∀ W, Below W0.heap.size W0 W → ∀ j u, (cellsR ht x (.slice A x.n cap)).toList[j]? = some u → W.cell? ⟨w.heap.size, j, none⟩ = some u := fun W hW j u hj => by
      rw [cell_of_row _ _ _ _ _ _ ((hW.block _ (lt_of_heap hbx)).trans hbx)]; simpa using hj
    have hS := keep W0.drew ((Below.refl _ _).drew)
    have HS := Lib.hid ((Below.refl W0.heap.size W0).drew)
    have HB := Lib.hid (HB.out.drew)
    refine wp_region_G (fun W => ∀ j u, (cellsR ht x (.slice A x.n cap)).toList[j]? = some u → W.cell? ⟨w.heap.size, j, none⟩ = some u) [] (by kernel_rfl) ?_
    refine wpAnyG_take (i := 0) (v := (.agg (cellsR ht x (.slice A x.n cap)))) rfl (by kernel_rfl) (by kernel_rfl) (by kernel_rfl) (by kernel_rfl) (by kernel_rfl) (fun _ _ _ h => h) (Or.inl ⟨by rfl, fun W hW => run_loadR (.tmp 2) rfl w.heap.size rfl _ _ _ hW⟩) hS ?_
    try simp only [Act.put, List.setIfInBounds_toArray, List.set_cons_zero, List.set_cons_succ]
    refine wpAnyG_take (i := 2) (v := (.agg (cellsR ht x (.slice A x.n cap)))) rfl (by kernel_rfl) (by kernel_rfl) (by kernel_rfl) (by kernel_rfl) (by kernel_rfl) (fun _ _ _ h => h) (Or.inl ⟨by rfl, fun W hW => run_loadR (.tmp 2) rfl w.heap.size rfl _ _ _ hW⟩) hS ?_
    try simp only [Act.put, List.setIfInBounds_toArray, List.set_cons_zero, List.set_cons_succ]
    refine wpAnyG_one (i := 1) (by kernel_rfl) rfl (fun K' hK => ?_)
    have HKK := Lib.hid hK
    clear hK
    go_simp
    refine (HCkc.out _ _ (HR.out.keep (below_keeps HB.out))).mono ?_
    rintro e W1 ⟨rfl, hb1⟩
    have hS := keep W1 (HS.out.trans (hb1.mono HS.out.size))
    have HS := Lib.hid (HS.out.trans (hb1.mono HS.out.size))
    have HB := Lib.hid (HB.out.trans (hb1.mono HB.out.size))
    clear hb1
    refine HKK.out _ _ (fun _ _ => hS) ?_
    clear HKK K'
    try simp only [Act.put, List.setIfInBounds_toArray, List.set_cons_zero, List.set_cons_succ]
    refine wpAnyG_one (i := 3) (by kernel_rfl) rfl (fun K' hK => ?_)
    have HKK := Lib.hid hK
    clear hK
    go_simp
    refine (HCkd.out _ _ (HR.out.keep (below_keeps HB.out))).mono ?_
    rintro e W2 ⟨rfl, hb1⟩
    have hS := keep W2 (HS.out.trans (hb1.mono HS.out.size))
    have HS := Lib.hid (HS.out.trans (hb1.mono HS.out.size))
    have HB := Lib.hid (HB.out.trans (hb1.mono HB.out.size))
    clear hb1
    refine HKK.out _ _ (fun _ _ => hS) ?_
    clear HKK K'
    try simp only [Act.put, List.setIfInBounds_toArray, List.set_cons_zero, List.set_cons_succ]
    refine wpAnyG_one (i := 4) (by kernel_rfl) rfl (fun K' hK => ?_)
    have HKK := Lib.hid hK
    clear hK
    go_simp
    refine HKK.out _ _ (fun _ _ => hS) ?_
    clear HKK K'
    try simp only [Act.put, List.setIfInBounds_toArray, List.set_cons_zero, List.set_cons_succ]
    refine wpAnyG_one (i := 5) (by kernel_rfl) rfl (fun K' hK => ?_)
    have HKK := Lib.hid hK
    clear hK
    go_simp
    refine HKK.out _ _ (fun _ _ => hS) ?_
    clear HKK K'
    try simp only [Act.put, List.setIfInBounds_toArray, List.set_cons_zero, List.set_cons_succ]
    refine wpAnyG_take (i := 6) (v := (.agg (cellsR ht x (.slice A x.n cap)))) rfl (by kernel_rfl) (by kernel_rfl) (by kernel_rfl) (by kernel_rfl) (by kernel_rfl) (fun _ _ _ h => h) (Or.inl ⟨by rfl, fun W hW => run_loadR (.tmp 2) rfl w.heap.size rfl _ _ _ hW⟩) hS ?_
    try simp only [Act.put, List.setIfInBounds_toArray, List.set_cons_zero, List.set_cons_succ]
    refine wpAnyG_take (i := 7) (v := (.int .i64 i)) rfl (by kernel_rfl) (by kernel_rfl) (by kernel_rfl) (by kernel_rfl) (by kernel_rfl) (fun _ _ _ h => h) (Or.inl ⟨by rfl, fun W hW => rfl⟩) hS ?_
    try simp only [Act.put, List.setIfInBounds_toArray, List.set_cons_zero, List.set_cons_succ]
    refine wpAnyG_take (i := 9) (v := (.agg (cellsR ht x (.slice A x.n cap)))) rfl (by kernel_rfl) (by kernel_rfl) (by kernel_rfl) (by kernel_rfl) (by kernel_rfl) (fun _ _ _ h => h) (Or.inl ⟨by rfl, fun W hW => run_loadR (.tmp 2) rfl w.heap.size rfl _ _ _ hW⟩) hS ?_
    try simp only [Act.put, List.setIfInBounds_toArray, List.set_cons_zero, List.set_cons_succ]
    refine wpAnyG_take (i := 10) (v := (.int .i64 i)) rfl (by kernel_rfl) (by kernel_rfl) (by kernel_rfl) (by kernel_rfl) (by kernel_rfl) (fun _ _ _ h => h) (Or.inl ⟨by rfl, fun W hW => rfl⟩) hS ?_
    try simp only [Act.put, List.setIfInBounds_toArray, List.set_cons_zero, List.set_cons_succ]
    refine wpAnyG_one (i := 8) (by kernel_rfl) rfl (fun K' hK => ?_)
    rw [if_pos (by rfl)]
    have HKK := Lib.hid hK
    clear hK
    go_simp
    refine (HFrc.out _ _ (HR.out.keep (below_keeps HB.out))).mono ?_
    rintro e W3 ⟨rfl, hb1⟩
    have hS := keep W3 (HS.out.trans (hb1.mono HS.out.size))
    have HS := Lib.hid (HS.out.trans (hb1.mono HS.out.size))
    have HB := Lib.hid (HB.out.trans (hb1.mono HB.out.size))
    clear hb1
    refine HKK.out _ _ (fun _ _ => hS) ?_
    clear HKK K'
    try simp only [Act.put, List.setIfInBounds_toArray, List.set_cons_zero, List.set_cons_succ]
    refine wpAnyG_one (i := 11) (by kernel_rfl) rfl (fun K' hK => ?_)
    rw [if_pos (by rfl)]
    have HKK := Lib.hid hK
    clear hK
    go_simp
    refine (HFrd.out _ _ (HR.out.keep (below_keeps HB.out))).mono ?_
    rintro e W4 ⟨rfl, hb1⟩
    have hS := keep W4 (HS.out.trans (hb1.mono HS.out.size))
    have HS := Lib.hid (HS.out.trans (hb1.mono HS.out.size))
    have HB := Lib.hid (HB.out.trans (hb1.mono HB.out.size))
    clear hb1
    refine HKK.out _ _ (fun _ _ => hS) ?_
    clear HKK K'
    try simp only [Act.put, List.setIfInBounds_toArray, List.set_cons_zero, List.set_cons_succ]
    refine wpAnyG_one (i := 12) (by kernel_rfl) rfl (fun K' hK => ?_)
    rw [if_pos (by rfl)]
    have HKK := Lib.hid hK
    clear hK
    go_simp
    refine HKK.out _ _ (fun _ _ => hS) ?_
    clear HKK K'
    try simp only [Act.put, List.setIfInBounds_toArray, List.set_cons_zero, List.set_cons_succ]
    refine wpAnyG_one (i := 13) (by kernel_rfl) rfl (fun K' hK => ?_)
    have HKK := Lib.hid hK
    clear hK
    go_simp
    refine HKK.out _ _ (fun _ _ => hS) ?_
    clear HKK K'
    try simp only [Act.put, List.setIfInBounds_toArray, List.set_cons_zero, List.set_cons_succ]
    refine wpAnyG_one (i := 14) (by kernel_rfl) rfl (fun K' hK => ?_)
    have HKK := Lib.hid hK
    clear hK
    go_simp
    refine HKK.out _ _ (fun _ _ => hS) ?_
    clear HKK K'
    try simp only [Act.put, List.setIfInBounds_toArray, List.set_cons_zero, List.set_cons_succ]
    refine wpAnyG_take (i := 15) (v := (.agg (cellsR ht x (.slice A x.n cap)))) rfl (by kernel_rfl) (by kernel_rfl) (by kernel_rfl) (by kernel_rfl) (by kernel_rfl) (fun _ _ _ h => h) (Or.inl ⟨by rfl, fun W hW => run_loadR (.tmp 2) rfl w.heap.size rfl _ _ _ hW⟩) hS ?_
    try simp only [Act.put, List.setIfInBounds_toArray, List.set_cons_zero, List.set_cons_succ]
    refine wpAnyG_take (i := 16) (v := (.int .i64 i)) rfl (by kernel_rfl) (by kernel_rfl) (by kernel_rfl) (by kernel_rfl) (by kernel_rfl) (fun _ _ _ h => h) (Or.inl ⟨by rfl, fun W hW => rfl⟩) hS ?_
    try simp only [Act.put, List.setIfInBounds_toArray, List.set_cons_zero, List.set_cons_succ]
    refine wpAnyG_take (i := 18) (v := (.agg (cellsR ht x (.slice A x.n cap)))) rfl (by kernel_rfl) (by kernel_rfl) (by kernel_rfl) (by kernel_rfl) (by kernel_rfl) (fun _ _ _ h => h) (Or.inl ⟨by rfl, fun W hW => run_loadR (.tmp 2) rfl w.heap.size rfl _ _ _ hW⟩) hS ?_
    try simp only [Act.put, List.setIfInBounds_toArray, List.set_cons_zero, List.set_cons_succ]
    refine wpAnyG_take (i := 19) (v := (.int .i64 i)) rfl (by kernel_rfl) (by kernel_rfl) (by kernel_rfl) (by kernel_rfl) (by kernel_rfl) (fun _ _ _ h => h) (Or.inl ⟨by rfl, fun W hW => rfl⟩) hS ?_
    try simp only [Act.put, List.setIfInBounds_toArray, List.set_cons_zero, List.set_cons_succ]
    refine wpAnyG_one (i := 17) (by kernel_rfl) rfl (fun K' hK => ?_)
    rw [if_pos (by rfl)]
    have HKK := Lib.hid hK
    clear hK
    go_simp
    refine (HShc.out _ _ (HR.out.keep (below_keeps HB.out))).mono ?_
    rintro e W5 ⟨rfl, hb1⟩
    have hS := keep W5 (HS.out.trans (hb1.mono HS.out.size))
    have HS := Lib.hid (HS.out.trans (hb1.mono HS.out.size))
    have HB := Lib.hid (HB.out.trans (hb1.mono HB.out.size))
    clear hb1
    refine HKK.out _ _ (fun _ _ => hS) ?_
    clear HKK K'
    try simp only [Act.put, List.setIfInBounds_toArray, List.set_cons_zero, List.set_cons_succ]
    refine wpAnyG_one (i := 20) (by kernel_rfl) rfl (fun K' hK => ?_)
    rw [if_pos (by rfl)]
    have HKK := Lib.hid hK
    clear hK
    go_simp
    refine (HShd.out _ _ (HR.out.keep (below_keeps HB.out))).mono ?_
    rintro e W6 ⟨rfl, hb1⟩
    have hS := keep W6 (HS.out.trans (hb1.mono HS.out.size))
    have HS := Lib.hid (HS.out.trans (hb1.mono HS.out.size))
    have HB := Lib.hid (HB.out.trans (hb1.mono HB.out.size))
    clear hb1
    refine HKK.out _ _ (fun _ _ => hS) ?_
    clear HKK K'
    try simp only [Act.put, List.setIfInBounds_toArray, List.set_cons_zero, List.set_cons_succ]
    refine wpAnyG_one (i := 21) (by kernel_rfl) rfl (fun K' hK => ?_)
    rw [if_pos (by rfl)]
    have HKK := Lib.hid hK
    clear hK
    go_simp
    refine HKK.out _ _ (fun _ _ => hS) ?_
    clear HKK K'
    try simp only [Act.put, List.setIfInBounds_toArray, List.set_cons_zero, List.set_cons_succ]
    refine wpAnyG_one (i := 22) (by kernel_rfl) rfl (fun K' hK => ?_)
    have HKK := Lib.hid hK
    clear hK
    go_simp
    refine HKK.out _ _ (fun _ _ => hS) ?_
    clear HKK K'
    try simp only [Act.put, List.setIfInBounds_toArray, List.set_cons_zero, List.set_cons_succ]
    refine wpAnyG_one (i := 23) (by kernel_rfl) rfl (fun K' hK => ?_)
    have HKK := Lib.hid hK
    clear hK
    go_simp
    refine HKK.out _ _ (fun _ _ => hS) ?_
    clear HKK K'
    try simp only [Act.put, List.setIfInBounds_toArray, List.set_cons_zero, List.set_cons_succ]
    refine wpAnyG_take (i := 24) (v := (.agg (cellsR ht x (.slice A x.n cap)))) rfl (by kernel_rfl) (by kernel_rfl) (by kernel_rfl) (by kernel_rfl) (by kernel_rfl) (fun _ _ _ h => h) (Or.inl ⟨by rfl, fun W hW => run_loadR (.tmp 2) rfl w.heap.size rfl _ _ _ hW⟩) hS ?_
    try simp only [Act.put, List.setIfInBounds_toArray, List.set_cons_zero, List.set_cons_succ]
    refine wpAnyG_take (i := 25) (v := (.int .i64 i)) rfl (by kernel_rfl) (by kernel_rfl) (by kernel_rfl) (by kernel_rfl) (by kernel_rfl) (fun _ _ _ h => h) (Or.inl ⟨by rfl, fun W hW => rfl⟩) hS ?_
    try simp only [Act.put, List.setIfInBounds_toArray, List.set_cons_zero, List.set_cons_succ]
    refine wpAnyG_take (i := 27) (v := (.agg (cellsR ht x (.slice A x.n cap)))) rfl (by kernel_rfl) (by kernel_rfl) (by kernel_rfl) (by kernel_rfl) (by kernel_rfl) (fun _ _ _ h => h) (Or.inl ⟨by rfl, fun W hW => run_loadR (.tmp 2) rfl w.heap.size rfl _ _ _ hW⟩) hS ?_
    try simp only [Act.put, List.setIfInBounds_toArray, List.set_cons_zero, List.set_cons_succ]
    refine wpAnyG_take (i := 28) (v := (.int .i64 i)) rfl (by kernel_rfl) (by kernel_rfl) (by kernel_rfl) (by kernel_rfl) (by kernel_rfl) (fun _ _ _ h => h) (Or.inl ⟨by rfl, fun W hW => rfl⟩) hS ?_
    try simp only [Act.put, List.setIfInBounds_toArray, List.set_cons_zero, List.set_cons_succ]
    refine wpAnyG_one (i := 26) (by kernel_rfl) rfl (fun K' hK => ?_)
    rw [if_pos (by rfl)]
    have HKK := Lib.hid hK
    clear hK
    go_simp
    refine (HNdc.out _ _ (HR.out.keep (below_keeps HB.out))).mono ?_
    rintro e W7 ⟨rfl, hb1⟩
    have hS := keep W7 (HS.out.trans (hb1.mono HS.out.size))
    have HS := Lib.hid (HS.out.trans (hb1.mono HS.out.size))
    have HB := Lib.hid (HB.out.trans (hb1.mono HB.out.size))
    clear hb1
    refine HKK.out _ _ (fun _ _ => hS) ?_
    clear HKK K'
    try simp only [Act.put, List.setIfInBounds_toArray, List.set_cons_zero, List.set_cons_succ]
    refine wpAnyG_one (i := 29) (by kernel_rfl) rfl (fun K' hK => ?_)
    rw [if_pos (by rfl)]
    have HKK := Lib.hid hK
    clear hK
    go_simp
    refine (HNdd.out _ _ (HR.out.keep (below_keeps HB.out))).mono ?_
    rintro e W8 ⟨rfl, hb1⟩
    have hS := keep W8 (HS.out.trans (hb1.mono HS.out.size))
    have HS := Lib.hid (HS.out.trans (hb1.mono HS.out.size))
    have HB := Lib.hid (HB.out.trans (hb1.mono HB.out.size))
    clear hb1
    refine HKK.out _ _ (fun _ _ => hS) ?_
    clear HKK K'
    try simp only [Act.put, List.setIfInBounds_toArray, List.set_cons_zero, List.set_cons_succ]
    refine wpAnyG_one (i := 30) (by kernel_rfl) rfl (fun K' hK => ?_)
    rw [if_pos (by rfl)]
    have HKK := Lib.hid hK
    clear hK
    go_simp
    refine HKK.out _ _ (fun _ _ => hS) ?_
    clear HKK K'
    try simp only [Act.put, List.setIfInBounds_toArray, List.set_cons_zero, List.set_cons_succ]
    refine wpAnyG_one (i := 31) (by kernel_rfl) rfl (fun K' hK => ?_)
    have HKK := Lib.hid hK
    clear hK
    go_simp
    refine HKK.out _ _ (fun _ _ => hS) ?_
    clear HKK K'
    try simp only [Act.put, List.setIfInBounds_toArray, List.set_cons_zero, List.set_cons_succ]
    refine wpAnyG_one (i := 32) (by kernel_rfl) rfl (fun K' hK => ?_)
    have HKK := Lib.hid hK
    clear hK
    go_simp
    refine HKK.out _ _ (fun _ _ => hS) ?_
    clear HKK K'
    try simp only [Act.put, List.setIfInBounds_toArray, List.set_cons_zero, List.set_cons_succ]
    refine wpAnyG_take (i := 33) (v := (.agg (cellsR ht x (.slice A x.n cap)))) rfl (by kernel_rfl) (by kernel_rfl) (by kernel_rfl) (by kernel_rfl) (by kernel_rfl) (fun _ _ _ h => h) (Or.inl ⟨by rfl, fun W hW => run_loadR (.tmp 2) rfl w.heap.size rfl _ _ _ hW⟩) hS ?_
    try simp only [Act.put, List.setIfInBounds_toArray, List.set_cons_zero, List.set_cons_succ]
    refine wpAnyG_take (i := 35) (v := (.agg (cellsR ht x (.slice A x.n cap)))) rfl (by kernel_rfl) (by kernel_rfl) (by kernel_rfl) (by kernel_rfl) (by kernel_rfl) (fun _ _ _ h => h) (Or.inl ⟨by rfl, fun W hW => run_loadR (.tmp 2) rfl w.heap.size rfl _ _ _ hW⟩) hS ?_
    try simp only [Act.put, List.setIfInBounds_toArray, List.set_cons_zero, List.set_cons_succ]
    refine wpAnyG_one (i := 34) (by kernel_rfl) rfl (fun K' hK => ?_)
    rw [if_pos (by rfl)]
    have HKK := Lib.hid hK
    clear hK
    go_simp
    refine (HFsc.out _ _ (HR.out.keep (below_keeps HB.out))).mono ?_
    rintro e W9 ⟨v5, rfl, ho1, hb1⟩
    have hS := keep W9 (HS.out.trans (hb1.mono HS.out.size))
    have HS := Lib.hid (HS.out.trans (hb1.mono HS.out.size))
    have HB := Lib.hid (HB.out.trans (hb1.mono HB.out.size))
    clear hb1
    have HO1 := Lib.hid (ho1.rdI hlen)
    clear ho1
    refine HKK.out _ _ (fun _ _ => hS) ?_
    clear HKK K'
    try simp only [Act.put, List.setIfInBounds_toArray, List.set_cons_zero, List.set_cons_succ]
    refine wpAnyG_one (i := 36) (by kernel_rfl) rfl (fun K' hK => ?_)
    rw [if_pos (by rfl)]
    have HKK := Lib.hid hK
    clear hK
    go_simp
    refine (HFsd.out _ _ (HR.out.keep (below_keeps HB.out))).mono ?_
    rintro e W10 ⟨v6, rfl, ho1, hb1⟩
    have HO1' := Lib.hid (HO1.out.below hb1)
    have hS := keep W10 (HS.out.trans (hb1.mono HS.out.size))
    have HS := Lib.hid (HS.out.trans (hb1.mono HS.out.size))
    have HB := Lib.hid (HB.out.trans (hb1.mono HB.out.size))
    clear hb1
    have HO2 := Lib.hid (ho1.rdI hlen)
    clear ho1
    refine HKK.out _ _ (fun _ _ => hS) ?_
    clear HKK K'
    try simp only [Act.put, List.setIfInBounds_toArray, List.set_cons_zero, List.set_cons_succ]
    refine wpAnyG_one (i := 37) (by kernel_rfl) rfl (fun K' hK => ?_)
    rw [if_pos (by rfl)]
    have HKK := Lib.hid hK
    clear hK
    go_simp
    refine (HEQ.out _ _ _ HO1'.out HO2.out).mono ?_
    rintro e W11 ⟨rfl, hb1⟩
    have hS := keep W11 (HS.out.trans (hb1.mono HS.out.size))
    have HS := Lib.hid (HS.out.trans (hb1.mono HS.out.size))
    have HB := Lib.hid (HB.out.trans (hb1.mono HB.out.size))
    clear hb1
    refine HKK.out _ _ (fun _ _ => hS) ?_
    clear HKK K'
    try simp only [Act.put, List.setIfInBounds_toArray, List.set_cons_zero, List.set_cons_succ]
    refine wpAnyG_one (i := 38) (by kernel_rfl) rfl (fun K' hK => ?_)
    have HKK := Lib.hid hK
    clear hK
    go_simp
    refine HKK.out _ _ (fun _ _ => hS) ?_
    clear HKK K'
    try simp only [Act.put, List.setIfInBounds_toArray, List.set_cons_zero, List.set_cons_succ]
    refine wpAnyG_one (i := 39) (by kernel_rfl) rfl (fun K' hK => ?_)
    have HKK := Lib.hid hK
    clear hK
    go_simp
    refine HKK.out _ _ (fun _ _ => hS) ?_
    clear HKK K'
    try simp only [Act.put, List.setIfInBounds_toArray, List.set_cons_zero, List.set_cons_succ]
    refine wpAnyG_one (i := 40) (by kernel_rfl) rfl (fun K' hK => ?_)
    rw [if_pos (by rfl)]
    have HKK := Lib.hid hK
    clear hK
    go_simp
    refine (m_awake _).mono ?_
    rintro e W12 ⟨rfl, hb1⟩
    have hS := keep W12 (HS.out.trans (hb1.mono HS.out.size))
    have HS := Lib.hid (HS.out.trans (hb1.mono HS.out.size))
    have HB := Lib.hid (HB.out.trans (hb1.mono HB.out.size))
    clear hb1
    refine HKK.out _ _ (fun _ _ => hS) ?_
    clear HKK K'
    try simp only [Act.put, List.setIfInBounds_toArray, List.set_cons_zero, List.set_cons_succ]
    refine wpAnyG_one (i := 41) (by kernel_rfl) rfl (fun K' hK => ?_)
    have HKK := Lib.hid hK
    clear hK
    go_simp
    refine HKK.out _ _ (fun _ _ => hS) ?_
    clear HKK K'
    try simp only [Act.put, List.setIfInBounds_toArray, List.set_cons_zero, List.set_cons_succ]
    refine wpAnyG_one (i := 42) (by kernel_rfl) rfl (fun K' hK => ?_)
    have HKK := Lib.hid hK
    clear hK
    go_simp
    refine HKK.out _ _ (fun _ _ => hS) ?_
    clear HKK K'
    try simp only [Act.put, List.setIfInBounds_toArray, List.set_cons_zero, List.set_cons_succ]
    refine wpAnyG_done (by kernel_rfl) ?_ _
    clear hS keep
    go_wp2_with fail
    go_ret
    exact ⟨rfl, HB.out⟩
end Go.Proofs.Ytcicfijpfhbcaaa
