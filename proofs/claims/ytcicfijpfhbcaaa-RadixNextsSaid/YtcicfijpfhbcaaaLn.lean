/-
  The law RadixNexts.
-/
import Derived.Test.YtcicfijpfhbcaaaLj
import Derived.Test.YtcicfijpfhbcaaaPn
import Derived.Test.YtcicfijpfhbcaaaEs
namespace Go.Proofs.Ytcicfijpfhbcaaa
set_option linter.unusedSimpArgs false
set_option linter.unusedVariables false
set_option linter.unusedSectionVars false
open Go.RowKit

set_option maxRecDepth 100000 in
set_option maxHeartbeats 1000000 in
theorem l_Nexts (cs : Array Value) (ht : Int) (x : RN) (frm tag : Int) (w : World) (h : RdVals w cs 12 (encR ht x)) :
    Calls Try.prog 9 #[.agg cs, .int .i64 frm, .int .i64 tag] w fun e w' => e = .returned (.bool true) ∧ Below w.heap.size w w' := by
  obtain ⟨A, cap, rfl, hk⟩ := rdR_open h
  have HR := Lib.hid h
  clear h hk
  cases hf : fewB x
  · go_enter Try.func9, Try.ntmps9
    go_wp2_with (first
      | (go_at_call 17; refine (l_awake _).mono ?_; rintro e w' ⟨rfl, hb⟩; (first | (obtain ⟨X, rfl⟩ := plus_again hb) | (obtain ⟨X, rfl⟩ := plus_of_below hb)); clear hb)
      | (go_at_call 18; refine (r_Few _ ht x _ ?_).mono ?_; exact HR.out.keep (below_keeps (by (repeat' (first | (with_reducible exact Below.refl _ _) | (with_reducible assumption) | (with_reducible refine below_plus ?_ ?_ _) | (with_reducible refine Below.alloc ?_ ?_ _) | (with_reducible refine Below.drew ?_) | (with_reducible refine below_drewN ?_ _) | (with_reducible refine Below.setCell ?_ ?_ _) | (first | omega | (simp only [World.size_alloc, size_plus, World.size_drew, World.size_setCell] <;> omega) | (simp <;> omega)) | omega | (simp; omega))))); rintro e w' ⟨rfl, hb⟩; (first | (obtain ⟨X, rfl⟩ := plus_again hb) | (obtain ⟨X, rfl⟩ := plus_of_below hb)); clear hb; rw [hf]))
    go_ret
    exact ⟨rfl, by (repeat' (first | (with_reducible exact Below.refl _ _) | (with_reducible assumption) | (with_reducible refine below_plus ?_ ?_ _) | (with_reducible refine Below.alloc ?_ ?_ _) | (with_reducible refine Below.drew ?_) | (with_reducible refine below_drewN ?_ _) | (with_reducible refine Below.setCell ?_ ?_ _) | (first | omega | (simp only [World.size_alloc, size_plus, World.size_drew, World.size_setCell] <;> omega) | (simp <;> omega)) | omega | (simp; omega)))⟩
  · have HNR : Hid (∀ cs W, RdVals W cs 12 (encR ht x) → Calls Try.prog 36 #[.agg cs, .int .i64 frm, .int .i64 tag] W fun e w' => e = .returned (.int .i64 (nextP ht x frm tag)) ∧ Below W.heap.size W w') := fun cs W hr => by
      rw [next_ref]; exact r_Next cs ht x frm tag W hr
    have HNP : Hid (∀ cs W, RdVals W cs 12 (encR ht x) → Calls Try.prog 28 #[.agg cs, .int .i64 frm, .int .i64 tag] W fun e w' => e = .returned (.int .i64 (nextP ht x frm tag)) ∧ Below W.heap.size W w') := fun cs W hr => p_Next cs ht x frm tag W hr
    have HCR : Hid (∀ cs W, RdVals W cs 12 (encR ht x) → Calls Try.prog 37 #[.agg cs, .int .i64 tag] W fun e w' => e = .returned (.int .i64 (countP ht x tag)) ∧ Below W.heap.size W w') := fun cs W hr => by
      rw [count_ref]; exact r_Count cs ht x tag W hr
    have HCP : Hid (∀ cs W, RdVals W cs 12 (encR ht x) → Calls Try.prog 30 #[.agg cs, .int .i64 tag] W fun e w' => e = .returned (.int .i64 (countP ht x tag)) ∧ Below W.heap.size W w') := fun cs W hr => p_Count cs ht x tag W hr
    have HLP : Hid (∀ cs W, RdVals W cs 12 (encR ht x) → Calls Try.prog 38 #[.agg cs] W fun e w' => ∃ v, e = .returned v ∧ OwnI w' W.heap.size (eachL ht x (-1)) v ∧ Below W.heap.size W w') := fun cs W hr => p_List cs ht x W hr
    have HLR : Hid (∀ cs W, RdVals W cs 12 (encR ht x) → Calls Try.prog 39 #[.agg cs] W fun e w' => ∃ v, e = .returned v ∧ OwnI w' W.heap.size (eachL ht x (-1)) v ∧ Below W.heap.size W w') := fun cs W hr => by
      rw [each_list]; exact r_List cs ht x W hr
    have hlen : ((eachL ht x (-1)).length : Int) ≤ 1073741824 := by have := eachL_len ht x (-1); omega
    generalize eachL ht x (-1) = L at *
    generalize nextP ht x frm tag = np at *
    generalize countP ht x tag = cp at *
    have hnn : (np != np) = false := by simp
    have hcc : (cp != cp) = false := by simp
    go_enter Try.func9, Try.ntmps9
    go_wp2_with (first
      | (go_at_call 17; refine (l_awake _).mono ?_; rintro e w' ⟨rfl, hb⟩; (first | (obtain ⟨X, rfl⟩ := plus_again hb) | (obtain ⟨X, rfl⟩ := plus_of_below hb)); clear hb)
      | (go_at_call 18; refine (r_Few _ ht x _ ?_).mono ?_; exact HR.out.keep (below_keeps (by (repeat' (first | (with_reducible exact Below.refl _ _) | (with_reducible assumption) | (with_reducible refine below_plus ?_ ?_ _) | (with_reducible refine Below.alloc ?_ ?_ _) | (with_reducible refine Below.drew ?_) | (with_reducible refine below_drewN ?_ _) | (with_reducible refine Below.setCell ?_ ?_ _) | (first | omega | (simp only [World.size_alloc, size_plus, World.size_drew, World.size_setCell] <;> omega) | (simp <;> omega)) | omega | (simp; omega))))); rintro e w' ⟨rfl, hb⟩; (first | (obtain ⟨X, rfl⟩ := plus_again hb) | (obtain ⟨X, rfl⟩ := plus_of_below hb)); clear hb; rw [hf]))
    (refine wp_region_quiet_plus (by kernel_rfl) (by kernel_rfl) ?_; (repeat (go_big_quiet_step ((first
      | (go_at_call 28; exact Calls.quiet_plus (HNP.out _ _ (HR.out.keep (below_keeps (by (repeat' (first | (with_reducible exact Below.refl _ _) | (with_reducible assumption) | (with_reducible refine below_plus ?_ ?_ _) | (with_reducible refine Below.alloc ?_ ?_ _) | (with_reducible refine Below.drew ?_) | (with_reducible refine below_drewN ?_ _) | (with_reducible refine Below.setCell ?_ ?_ _) | (first | omega | (simp only [World.size_alloc, size_plus, World.size_drew, World.size_setCell] <;> omega) | (simp <;> omega)) | omega | (simp; omega))))))))
      | (go_at_call 36; exact Calls.quiet_plus (HNR.out _ _ (HR.out.keep (below_keeps (by (repeat' (first | (with_reducible exact Below.refl _ _) | (with_reducible assumption) | (with_reducible refine below_plus ?_ ?_ _) | (with_reducible refine Below.alloc ?_ ?_ _) | (with_reducible refine Below.drew ?_) | (with_reducible refine below_drewN ?_ _) | (with_reducible refine Below.setCell ?_ ?_ _) | (first | omega | (simp only [World.size_alloc, size_plus, World.size_drew, World.size_setCell] <;> omega) | (simp <;> omega)) | omega | (simp; omega))))))))
      | (go_at_call 30; exact Calls.quiet_plus (HCP.out _ _ (HR.out.keep (below_keeps (by (repeat' (first | (with_reducible exact Below.refl _ _) | (with_reducible assumption) | (with_reducible refine below_plus ?_ ?_ _) | (with_reducible refine Below.alloc ?_ ?_ _) | (with_reducible refine Below.drew ?_) | (with_reducible refine below_drewN ?_ _) | (with_reducible refine Below.setCell ?_ ?_ _) | (first | omega | (simp only [World.size_alloc, size_plus, World.size_drew, World.size_setCell] <;> omega) | (simp <;> omega)) | omega | (simp; omega))))))))
      | (go_at_call 37; exact Calls.quiet_plus (HCR.out _ _ (HR.out.keep (below_keeps (by (repeat' (first | (with_reducible exact Below.refl _ _) | (with_reducible assumption) | (with_reducible refine below_plus ?_ ?_ _) | (with_reducible refine Below.alloc ?_ ?_ _) | (with_reducible refine Below.drew ?_) | (with_reducible refine below_drewN ?_ _) | (with_reducible refine Below.setCell ?_ ?_ _) | (first | omega | (simp only [World.size_alloc, size_plus, World.size_drew, World.size_setCell] <;> omega) | (simp <;> omega)) | omega | (simp; omega)))))))))))); refine wpQuiet_nil ?_; intro _)
    go_upto_region 5 with fail
    generalize hW0 : World.plus _ _ = W0
    have hbx : W0.heap[w.heap.size]? = some (.cells (cellsR ht x (.slice A x.n cap)) 28 (0, 0)) := by rw [← hW0]; (repeat' (first | (refine heap_alloc_here _ _ _ ?_; (first | omega | (simp only [World.size_alloc, size_plus, World.size_drew, World.size_setCell] <;> omega) | (simp <;> omega))) | (refine (heap_alloc_old _ _ _ ?_).trans ?_; (first | omega | (simp only [World.size_alloc, size_plus, World.size_drew, World.size_setCell] <;> omega) | (simp <;> omega))) | (refine (heap_plus _ _ _ ?_).trans ?_; (first | omega | (simp only [World.size_alloc, size_plus, World.size_drew, World.size_setCell] <;> omega) | (simp <;> omega))) | rfl))
    have HB : Hid (Below w.heap.size w W0) := by rw [← hW0]; unfold Hid; (repeat' (first | (with_reducible exact Below.refl _ _) | (with_reducible assumption) | (with_reducible refine below_plus ?_ ?_ _) | (with_reducible refine Below.alloc ?_ ?_ _) | (with_reducible refine Below.drew ?_) | (with_reducible refine below_drewN ?_ _) | (with_reducible refine Below.setCell ?_ ?_ _) | (first | omega | (simp only [World.size_alloc, size_plus, World.size_drew, World.size_setCell] <;> omega) | (simp <;> omega)) | omega | (simp; omega)))
    clear hW0
    have keep : ∀ W, Below W0.heap.size W0 W → ∀ j u, (cellsR ht x (.slice A x.n cap)).toList[j]? = some u → W.cell? ⟨w.heap.size, j, none⟩ = some u := fun W hW j u hj => by
      rw [cell_of_row _ _ _ _ _ _ ((hW.block _ (lt_of_heap hbx)).trans hbx)]; simpa using hj
    have hS := keep W0.drew ((Below.refl _ _).drew)
    have HS := Lib.hid ((Below.refl W0.heap.size W0).drew)
    have HB := Lib.hid (HB.out.drew)
    refine wp_region_G (fun W => ∀ j u, (cellsR ht x (.slice A x.n cap)).toList[j]? = some u → W.cell? ⟨w.heap.size, j, none⟩ = some u) [] (by kernel_rfl) ?_
    refine wpAnyG_take (i := 0) (v := .agg (cellsR ht x (.slice A x.n cap))) rfl (by kernel_rfl) (by kernel_rfl) (by kernel_rfl) (by kernel_rfl) (by kernel_rfl) (fun _ _ _ h => h) (Or.inl ⟨by rfl, fun W hW => run_loadR (.tmp 3) rfl w.heap.size rfl _ _ _ hW⟩) hS ?_
    try simp only [Act.put, List.setIfInBounds_toArray, List.set_cons_zero, List.set_cons_succ]
    refine wpAnyG_take (i := 2) (v := .agg (cellsR ht x (.slice A x.n cap))) rfl (by kernel_rfl) (by kernel_rfl) (by kernel_rfl) (by kernel_rfl) (by kernel_rfl) (fun _ _ _ h => h) (Or.inl ⟨by rfl, fun W hW => run_loadR (.tmp 3) rfl w.heap.size rfl _ _ _ hW⟩) hS ?_
    try simp only [Act.put, List.setIfInBounds_toArray, List.set_cons_zero, List.set_cons_succ]
    refine wpAnyG_one (i := 1) (by kernel_rfl) rfl (fun K' hK => ?_)
    have HKK := Lib.hid hK
    clear hK
    go_simp
    refine (HLP.out _ _ (HR.out.keep (below_keeps HB.out))).mono ?_
    rintro e W1 ⟨v1, rfl, ho1, hb1⟩
    obtain ⟨A1, cap1, rfl, hc1, hm1⟩ := ho1.slice
    have hS := keep W1 (HS.out.trans (hb1.mono HS.out.size))
    have HS := Lib.hid (HS.out.trans (hb1.mono HS.out.size))
    have HB := Lib.hid (HB.out.trans (hb1.mono HB.out.size))
    have HO1 := Lib.hid ho1
    have HSZ1 := Lib.hid hb1
    clear ho1 hb1
    refine HKK.out _ _ (fun _ _ => hS) ?_
    clear HKK K'
    try simp only [Act.put, List.setIfInBounds_toArray, List.set_cons_zero, List.set_cons_succ]
    refine wpAnyG_one (i := 3) (by kernel_rfl) rfl (fun K' hK => ?_)
    have HKK := Lib.hid hK
    clear hK
    go_simp
    refine (HLR.out _ _ (HR.out.keep (below_keeps HB.out))).mono ?_
    rintro e W1 ⟨v1, rfl, ho1, hb1⟩
    obtain ⟨A2, cap2, rfl, hc2, hm2⟩ := ho1.slice
    have hS := keep W1 (HS.out.trans (hb1.mono HS.out.size))
    have HS := Lib.hid (HS.out.trans (hb1.mono HS.out.size))
    have HB := Lib.hid (HB.out.trans (hb1.mono HB.out.size))
    have HO2 := Lib.hid ho1
    have HSZ2 := Lib.hid hb1
    clear ho1 hb1
    refine HKK.out _ _ (fun _ _ => hS) ?_
    clear HKK K'
    try simp only [Act.put, List.setIfInBounds_toArray, List.set_cons_zero, List.set_cons_succ]
    refine wpAnyG_one (i := 4) (by kernel_rfl) rfl (fun K' hK => ?_)
    have HKK := Lib.hid hK
    clear hK
    go_simp
    refine HKK.out _ _ (fun _ _ => hS) ?_
    clear HKK K'
    try simp only [Act.put, List.setIfInBounds_toArray, List.set_cons_zero, List.set_cons_succ]
    refine wpAnyG_one (i := 5) (by kernel_rfl) rfl (fun K' hK => ?_)
    have HKK := Lib.hid hK
    clear hK
    go_simp
    refine HKK.out _ _ (fun _ _ => hS) ?_
    clear HKK K'
    try simp only [Act.put, List.setIfInBounds_toArray, List.set_cons_zero, List.set_cons_succ]
    refine wpAnyG_done (by kernel_rfl) ?_ _
    clear hS keep
    have HO1' := Lib.hid (HO1.out.below HSZ2.out)
    go_wp2_with fail
    go_loopw [47] (fun i wr => ∃ n : Nat, n ≤ L.length ∧ i = .int .i64 n ∧ Below W1.heap.size W1 wr) (fun i _ => L.length - (intOf i).toNat)
    case atStart => exact ⟨0, by omega, rfl, Below.refl _ _⟩
    case round =>
      obtain ⟨n, hn, rfl, hbl⟩ := hrel
      rcases Nat.lt_or_ge n L.length with hlt | hge
      · have hg : L[n]? = some L[n] := List.getElem?_eq_getElem hlt
        obtain ⟨g1, cap', hs1, -, hg1, c1⟩ := (HO1'.out.below hbl).at hg
        obtain ⟨g2, cap'', hs2, -, hg2, c2⟩ := (HO2.out.below hbl).at hg
        injection hs1 with e1 e2 e3
        injection hs2 with e4 e5 e6
        subst e1 e3 e4 e6
        have HBL := Lib.hid hbl
        clear e2 e5 hbl hg
        generalize L[n] = z at *
        have hzz : (z != z) = false := by simp
        go_wp2_with fail
        (refine wp_region_quiet_plus (by kernel_rfl) (by kernel_rfl) ?_; (repeat (go_big_quiet_step (fail))); refine wpQuiet_nil ?_; intro _)
        go_wp2_with fail
        exact ⟨⟨n + 1, by omega, by go_num, below_plus HBL.out HBL.out.size _⟩, by simp [intOf]; omega⟩
      · obtain rfl : n = L.length := by omega
        have HBL := Lib.hid (HB.out.trans (hbl.mono HB.out.size))
        clear hbl
        go_wp2_with fail
        go_ret
        exact ⟨rfl, HBL.out⟩
end Go.Proofs.Ytcicfijpfhbcaaa
