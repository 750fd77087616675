/-
  radix.Set.
-/
import Derived.Test.YtcicfijpfhbcaaaSt
import Derived.Deep.DeepCutAuto
namespace Go.Proofs.Ytcicfijpfhbcaaa
set_option linter.unusedSimpArgs false
set_option linter.unusedVariables false
set_option linter.unusedSectionVars false
open Go.RowKit

set_option maxRecDepth 100000 in
set_option maxHeartbeats 1000000 in
theorem p_Set_no (cs : Array Value) (ht : Int) (x : RN) (i v : Int) (w : World) (h : RdVals w cs 12 (encR ht x))
    (hno : checkP ht x ≠ 0 ∨ i < 0 ∨ 1073741824 ≤ i) :
    Calls Try.prog 24 #[.agg cs, .int .i64 i, .int .i64 v] w (TreePost (setP ht x i v) w) := by
  obtain ⟨A, cap, rfl, hk⟩ := rdR_open h
  have HR := Lib.hid h
  clear h hk
  by_cases hc : checkP ht x = 0
  · have hno' : i < 0 ∨ 1073741824 ≤ i := by omega
    have hp : setP ht x i v = (0, zeroN, 2) := by unfold setP; rw [if_neg (by simp [hc]), if_pos hno']
    rw [hp]
    clear hp hno
    rcases hno' with hno | hno
    all_goals
      go_enter Try.func24, Try.ntmps24
      go_wp2_with (go_at_call 19; refine (p_Check _ ht x _ ?_).mono ?_; exact HR.out.keep (below_keeps (by (repeat' (first | (with_reducible exact Below.refl _ _) | (with_reducible assumption) | (with_reducible refine below_plus ?_ ?_ _) | (with_reducible refine Below.alloc ?_ ?_ _) | (with_reducible refine Below.drew ?_) | (with_reducible refine below_drewN ?_ _) | (with_reducible refine Below.setCell ?_ ?_ _) | (first | omega | (simp only [World.size_alloc, size_plus, World.size_drew, World.size_setCell] <;> omega) | (simp <;> omega)) | omega | (simp; omega))))); rintro e w' ⟨rfl, hb⟩; (first | (obtain ⟨X, rfl⟩ := plus_again hb) | (obtain ⟨X, rfl⟩ := plus_of_below hb)); clear hb; rw [hc])
      refine bodyPost_ret (v := _) (results_tree Try.results24 _ _ (w.heap.size + 1 + 1) 0 zeroN (.slice none 0 0) _ rfl ?_ rfl) rfl ⟨_, rfl, OwnK.none_ rfl, by (repeat' (first | (with_reducible exact Below.refl _ _) | (with_reducible assumption) | (with_reducible refine below_plus ?_ ?_ _) | (with_reducible refine Below.alloc ?_ ?_ _) | (with_reducible refine Below.drew ?_) | (with_reducible refine below_drewN ?_ _) | (with_reducible refine Below.setCell ?_ ?_ _) | (first | omega | (simp only [World.size_alloc, size_plus, World.size_drew, World.size_setCell] <;> omega) | (simp <;> omega)) | omega | (simp; omega)))⟩
      (repeat' (first | (refine heap_alloc_here _ _ _ ?_; (first | omega | (simp only [World.size_alloc, size_plus, World.size_drew, World.size_setCell] <;> omega) | (simp <;> omega))) | (refine (heap_alloc_old _ _ _ ?_).trans ?_; (first | omega | (simp only [World.size_alloc, size_plus, World.size_drew, World.size_setCell] <;> omega) | (simp <;> omega))) | (refine (heap_plus _ _ _ ?_).trans ?_; (first | omega | (simp only [World.size_alloc, size_plus, World.size_drew, World.size_setCell] <;> omega) | (simp <;> omega))) | rfl))
  · have hp : setP ht x i v = (0, zeroN, checkP ht x) := by unfold setP; rw [if_pos hc]
    rw [hp]
    have hcb : (checkP ht x != 0) = true := by simp [hc]
    clear hp hno hc
    go_enter Try.func24, Try.ntmps24
    go_wp2_with (go_at_call 19; refine (p_Check _ ht x _ ?_).mono ?_; exact HR.out.keep (below_keeps (by (repeat' (first | (with_reducible exact Below.refl _ _) | (with_reducible assumption) | (with_reducible refine below_plus ?_ ?_ _) | (with_reducible refine Below.alloc ?_ ?_ _) | (with_reducible refine Below.drew ?_) | (with_reducible refine below_drewN ?_ _) | (with_reducible refine Below.setCell ?_ ?_ _) | (first | omega | (simp only [World.size_alloc, size_plus, World.size_drew, World.size_setCell] <;> omega) | (simp <;> omega)) | omega | (simp; omega))))); rintro e w' ⟨rfl, hb⟩; (first | (obtain ⟨X, rfl⟩ := plus_again hb) | (obtain ⟨X, rfl⟩ := plus_of_below hb)); clear hb)
    refine bodyPost_ret (v := _) (results_tree Try.results24 _ _ (w.heap.size + 1 + 1) 0 zeroN (.slice none 0 0) _ rfl ?_ rfl) rfl ⟨_, rfl, OwnK.none_ rfl, by (repeat' (first | (with_reducible exact Below.refl _ _) | (with_reducible assumption) | (with_reducible refine below_plus ?_ ?_ _) | (with_reducible refine Below.alloc ?_ ?_ _) | (with_reducible refine Below.drew ?_) | (with_reducible refine below_drewN ?_ _) | (with_reducible refine Below.setCell ?_ ?_ _) | (first | omega | (simp only [World.size_alloc, size_plus, World.size_drew, World.size_setCell] <;> omega) | (simp <;> omega)) | omega | (simp; omega)))⟩
    (repeat' (first | (refine heap_alloc_here _ _ _ ?_; (first | omega | (simp only [World.size_alloc, size_plus, World.size_drew, World.size_setCell] <;> omega) | (simp <;> omega))) | (refine (heap_alloc_old _ _ _ ?_).trans ?_; (first | omega | (simp only [World.size_alloc, size_plus, World.size_drew, World.size_setCell] <;> omega) | (simp <;> omega))) | (refine (heap_plus _ _ _ ?_).trans ?_; (first | omega | (simp only [World.size_alloc, size_plus, World.size_drew, World.size_setCell] <;> omega) | (simp <;> omega))) | rfl))

set_option maxRecDepth 100000 in
set_option maxHeartbeats 1000000 in
theorem p_Set_yes (cs : Array Value) (h : Nat) (x : RN) (i v : Int) (w : World) (hr : RdVals w cs 12 (encR h x)) (hc : checkP h x = 0) (i0 : 0 ≤ i) (i1 : i < 1073741824) (hs : slimB x) (h10 : h ≤ 10)
    (hO : octB ((raised h x i).1 - 1) (raised h x i).2) (hT : emptyB (setT h x i v) = false → tallB (raised h x i).1 (setT h x i v)) :
    Calls Try.prog 24 #[.agg cs, .int .i64 i, .int .i64 v] w (TreePost (setP h x i v) w) := by
  obtain ⟨A, cap, rfl, hk⟩ := rdR_open hr
  have HR := Lib.hid hr
  clear hr hk
  go_enter Try.func24, Try.ntmps24
  go_wp2_with (go_at_call 19; refine (p_Check _ h x _ ?_).mono ?_; exact HR.out.keep (below_keeps (by (repeat' (first | (with_reducible exact Below.refl _ _) | (with_reducible assumption) | (with_reducible refine below_plus ?_ ?_ _) | (with_reducible refine Below.alloc ?_ ?_ _) | (with_reducible refine Below.drew ?_) | (with_reducible refine below_drewN ?_ _) | (with_reducible refine Below.setCell ?_ ?_ _) | (first | omega | (simp only [World.size_alloc, size_plus, World.size_drew, World.size_setCell] <;> omega) | (simp <;> omega)) | omega | (simp; omega))))); rintro e w' ⟨rfl, hb⟩; (first | (obtain ⟨X, rfl⟩ := plus_again hb) | (obtain ⟨X, rfl⟩ := plus_of_below hb)); clear hb; rw [hc])
  generalize hW0 : World.plus (World.alloc (World.alloc (World.alloc w _) _) _) X = W0
  have hF := Boxes.start hW0
  clear hW0
  go_cut [9] (fun s9 wx => ∃ g9 A9 cap9 S9, s9 = .pointer (some ⟨g9, 0, none⟩) ∧ TreeIn wx g9 h x (.slice A9 x.n cap9) S9 ∧ W0.heap.size ≤ g9 ∧ (∀ b, S9 b → W0.heap.size ≤ b) ∧ Below W0.heap.size W0 wx)
  case first =>
    have hc3 : ∀ W : World, Below W0.heap.size W0 W → ∀ j u, (cellsR h x (.slice A x.n cap)).toList[j]? = some u → W.cell? ⟨w.heap.size, j, none⟩ = some u := fun W hW j u hu => by
      have hlt : w.heap.size < W0.heap.size := by have := hF.size; omega
      rw [cell_of_row W _ _ _ _ _ ((hW.block _ hlt).trans hF.b3)]; simpa using hu
    have hRN : Hid (RdVals w (cellsN x (.slice A x.n cap)) 11 (encN x)) := rdN_shut (by
      obtain ⟨A', cap', e, hk⟩ := rdR_open HR.out
      simp only [cellsR, Array.mk.injEq, List.cons.injEq, Value.slice.injEq, true_and, and_true] at e
      rw [e.1, e.2]; exact hk)
    have HF := Lib.hid hF
    have HC3 := Lib.hid hc3
    clear hF hc3
    refine wp_region_F (fun W => ∀ j u, (cellsR h x (.slice A x.n cap)).toList[j]? = some u → W.cell? ⟨w.heap.size, j, none⟩ = some u) 7 (by kernel_rfl) ?_
    have hS := HC3.out W0.drew ((Below.refl _ _).drew)
    refine wpAnyF_take (i := 0) (v := .pointer (some ⟨w.heap.size, 0, none⟩)) rfl (by kernel_rfl) (by kernel_rfl) (by omega) (by kernel_rfl) (by kernel_rfl) (fun _ _ _ h => h) (Or.inl ⟨by rfl, ?_⟩) hS ?_
    · intro W hW
      have hc := hW 0 _ rfl
      clear hW hS
      go_simp
    simp only [Act.put, List.setIfInBounds_toArray, List.set_cons_zero, List.set_cons_succ]
    refine wpAnyF_take (i := 1) (v := .int .i64 h) rfl (by kernel_rfl) (by kernel_rfl) (by omega) (by kernel_rfl) (by kernel_rfl) (fun _ _ _ h => h) (Or.inl ⟨by rfl, ?_⟩) hS ?_
    · intro W hW
      have hc := hW 0 _ rfl
      clear hW hS
      go_simp
    simp only [Act.put, List.setIfInBounds_toArray, List.set_cons_zero, List.set_cons_succ]
    refine wpAnyF_take (i := 2) (v := .pointer (some ⟨w.heap.size, 1, none⟩)) rfl (by kernel_rfl) (by kernel_rfl) (by omega) (by kernel_rfl) (by kernel_rfl) (fun _ _ _ h => h) (Or.inl ⟨by rfl, ?_⟩) hS ?_
    · intro W hW
      have hc := hW 0 _ rfl
      clear hW hS
      go_simp
    simp only [Act.put, List.setIfInBounds_toArray, List.set_cons_zero, List.set_cons_succ]
    refine wpAnyF_take (i := 3) (v := .agg (cellsN x (.slice A x.n cap))) rfl (by kernel_rfl) (by kernel_rfl) (by omega) (by kernel_rfl) (by kernel_rfl) (fun _ _ _ h => h) (Or.inl ⟨by rfl, fun W hW => run_loadN (.tmp 27) rfl w.heap.size 1 rfl _ _ (fun j u hj => hW (1 + j) u (by
      have h1 : j < 11 := by
        rcases Nat.lt_or_ge j 11 with h2 | h2
        · exact h2
        · rw [List.getElem?_eq_none (by rw [Array.length_toList]; exact h2)] at hj; cases hj
      rw [Array.getElem?_toList, cellsR_row _ _ _ _ h1, ← Array.getElem?_toList]; exact hj))⟩) hS ?_
    try simp only [Act.put, List.setIfInBounds_toArray, List.set_cons_zero, List.set_cons_succ]
    clear hS
    refine wpAnyF_two (i := 4) (j := 6) (by kernel_rfl) rfl rfl (fun K' hK => ?_) (fun K' hK => ?_)
    · have HKK := Lib.hid hK
      clear hK
      go_simp
      refine (p_clone x hs _ _ (hRN.out.keep (below_keeps (HF.out.below.drew)))).mono ?_
      rintro e W1 ⟨s1, rfl, hown, hb⟩
      have hb1 : Below W0.heap.size W0 W1 := ((Below.refl W0.heap.size W0).drew).trans hb
      obtain ⟨A1, cap1, rfl, -⟩ := hown.slice
      have HB1 := Lib.hid hb1
      have HOWN := Lib.hid hown
      clear hb hb1 hown
      refine HKK.out _ _ (fun _ => HC3.out _ HB1.out) ?_
      clear HKK K'
      try simp only [Act.put, List.setIfInBounds_toArray, List.set_cons_zero, List.set_cons_succ]
      refine wpAnyF_take (i := 5) (v := .agg (cellsR h x (.slice A1 x.n cap1))) rfl (by kernel_rfl) (by kernel_rfl) (by omega) (by kernel_rfl) (by kernel_rfl) (fun _ _ _ h => h) (Or.inl ⟨by rfl, ?_⟩) (HC3.out _ HB1.out) ?_
      · intro W hW
        clear hW
        go_simp
        kernel_rfl
      try simp only [Act.put, List.setIfInBounds_toArray, List.set_cons_zero, List.set_cons_succ]
      refine wpAnyF_one (i := 6) (by kernel_rfl) rfl (fun K' hK => ?_)
      have HKK := Lib.hid hK
      clear hK
      go_simp
      refine HKK.out _ _ (fun _ => HC3.out _ (HB1.out.alloc HB1.out.size _)) ?_
      clear HKK K'
      refine wpAnyF_one (i := 7) (by kernel_rfl) rfl (fun K' hK => ?_)
      rw [if_pos (by kernel_rfl)]
      have HT := Lib.hid (tree_laid (W0 := W0) h W1.heap.size (heap_alloc_here W1 (.cells (cellsR 0 zeroN (.slice none 0 0)) 28) _ rfl) (HOWN.out.frame _ fun b hb hl => Below.heap_alloc _ _ _ hl) (fun hh => absurd hh.2 (by omega)) HB1.out.size (HB1.out.alloc HB1.out.size _))
      have HG := HB1.out.size
      have HSS : ∀ b, (fun b => W0.drew.heap.size ≤ b ∧ b < W1.heap.size) b → W0.heap.size ≤ b := fun b hb => hb.1
      refine wp_store_row 28 (.tmp 9) (.tmp 30) rfl W1.heap.size (cellsR h x (.slice A1 x.n cap1)) rfl rfl 28 _ (heap_alloc_here W1 _ _ rfl) sizeR (by rfl) (by simp [cellsR]; exact ⟨rfl, rfl, rfl, rfl, rfl, rfl, rfl, rfl, rfl, rfl, rfl, rfl⟩) ?_
      refine hK _ _ (fun h => absurd rfl h) (wpAnyF_done (by kernel_rfl) ?_ _)
      clear hK K'
      go_wp2_with fail
      go_meet
      exact ⟨_, _, _, _, rfl, HT.out.1, HG, HSS, HT.out.2⟩
    · have HKK := Lib.hid hK
      clear hK
      go_simp
      have hbA : Below W0.heap.size W0 (W0.drew.alloc (.cells (cellsR 0 zeroN (.slice none 0 0)) 28)) := ((Below.refl W0.heap.size W0).drew).alloc (Nat.le_refl _) _
      have HBA := Lib.hid hbA
      clear hbA
      refine HKK.out _ _ (fun _ => HC3.out _ HBA.out) ?_
      clear HKK K'
      refine wpAnyF_one (i := 4) (by kernel_rfl) rfl (fun K' hK => ?_)
      have HKK := Lib.hid hK
      clear hK
      go_simp
      refine (p_clone x hs _ _ (hRN.out.keep (below_keeps (HF.out.below.trans (HBA.out.mono HF.out.below.size))))).mono ?_
      rintro e W1 ⟨s1, rfl, hown, hb⟩
      have hb2 : Below (W0.heap.size + 1) (W0.drew.alloc (.cells (cellsR 0 zeroN (.slice none 0 0)) 28)) W1 := by simpa using hb
      have hb1 : Below W0.heap.size W0 W1 := HBA.out.trans (hb2.mono (by omega))
      have hG0 : W1.heap[W0.heap.size]? = some (.cells (cellsR 0 zeroN (.slice none 0 0)) 28 (0, 0)) := (hb2.block _ (by omega)).trans (heap_alloc_here _ _ _ rfl)
      obtain ⟨A1, cap1, rfl, -⟩ := hown.slice
      have hown' : OwnK W1 x (.slice A1 x.n cap1) (fun b => W0.heap.size + 1 ≤ b ∧ b < W1.heap.size) := hown.mono fun b hb => by simpa using hb
      have HB1 := Lib.hid hb1
      have HG0 := Lib.hid hG0
      have HT := Lib.hid (tree_laid (W0 := W0) h W0.heap.size hG0 hown' (fun hh => absurd hh.1 (by omega)) (Nat.le_refl _) hb1)
      have HG : W0.heap.size ≤ W0.heap.size := Nat.le_refl _
      have HSS : ∀ b, (fun b => W0.heap.size + 1 ≤ b ∧ b < W1.heap.size) b → W0.heap.size ≤ b := fun b hb => by have := hb.1; omega
      clear hb hb1 hb2 hown hown' hG0
      refine HKK.out _ _ (fun _ => HC3.out _ HB1.out) ?_
      clear HKK K'
      try simp only [Act.put, List.setIfInBounds_toArray, List.set_cons_zero, List.set_cons_succ]
      refine wpAnyF_take (i := 5) (v := .agg (cellsR h x (.slice A1 x.n cap1))) rfl (by kernel_rfl) (by kernel_rfl) (by omega) (by kernel_rfl) (by kernel_rfl) (fun _ _ _ h => h) (Or.inl ⟨by rfl, ?_⟩) (HC3.out _ HB1.out) ?_
      · intro W hW
        clear hW
        go_simp
        kernel_rfl
      try simp only [Act.put, List.setIfInBounds_toArray, List.set_cons_zero, List.set_cons_succ]
      refine wpAnyF_one (i := 7) (by kernel_rfl) rfl (fun K' hK => ?_)
      rw [if_pos (by kernel_rfl)]
      refine wp_store_row 28 (.tmp 9) (.tmp 30) rfl W0.heap.size (cellsR h x (.slice A1 x.n cap1)) rfl rfl 28 _ HG0.out sizeR (by rfl) (by simp [cellsR]; exact ⟨rfl, rfl, rfl, rfl, rfl, rfl, rfl, rfl, rfl, rfl, rfl, rfl⟩) ?_
      refine hK _ _ (fun h => absurd rfl h) (wpAnyF_done (by kernel_rfl) ?_ _)
      clear hK K'
      go_wp2_with fail
      go_meet
      exact ⟨_, _, _, _, rfl, HT.out.1, HG, HSS, HT.out.2⟩
  case rest =>
    obtain ⟨g9, A9, cap9, S9, rfl, hT, hg9, hS9, hb⟩ := hcut
    have hB := hF.on hb
    have hsz := hF.size
    have hST : SetSt w (w.heap.size + 3) g9 h x (.slice A9 x.n cap9) S9 wc := ⟨hB.below, by omega, fun b hb => by have := hB.size; omega, hT, by omega, fun b hb => by have := hS9 b hb; omega⟩
    have c5 : wc.cell? ⟨w.heap.size + 1, 0, none⟩ = some (.int .i64 v) := by rw [cell_of_row _ _ _ _ _ _ hB.b5]; rfl
    have hc3 : ∀ j u, (cellsR h x (.slice A x.n cap)).toList[j]? = some u → wc.cell? ⟨w.heap.size, j, none⟩ = some u := fun j u hu => by
      rw [cell_of_row _ _ _ _ _ _ hB.b3]; simpa using hu
    have HC3 := Lib.hid hc3
    have HB := Lib.hid hB
    have HST := Lib.hid hST
    have i2 : -9223372036854775808 ≤ i := by omega
    have i3 : i ≤ 9223372036854775807 := by omega
    clear hF hb hB hST hT hS9 hc3
    by_cases hno : v = 0 ∧ getP h x i = 0
    · have hp : setP h x i v = ((h : Int), x, 0) := by unfold setP; rw [if_neg (by simp [hc]), if_neg (by omega), if_pos hno]
      obtain ⟨rfl, hgt⟩ := hno
      go_wp2_with (first
        | ((with_reducible refine wpList_loadR (.tmp 3) ?_ ?_ w.heap.size ?_ h x (.slice A x.n cap) ?_ ?_); (with_reducible rfl); rfl; rfl; exact HC3.out)
        | (go_at_call 26; refine (p_Get _ h x i _ (HR.out.keep (below_keeps HB.out.below)) i2 i3).mono ?_; rintro e W ⟨rfl, hb⟩; rw [hgt]
           have HB2 := Lib.hid (HB.out.on hb)
           have HST2 := Lib.hid (HST.out.next hb)
           clear hb)
        | ((with_reducible refine wpList_loadR (.tmp 9) ?_ ?_ g9 ?_ h x (.slice A9 x.n cap9) HST2.out.tree.cells ?_); (with_reducible rfl); rfl; rfl)
        | ((with_reducible refine wpList_storeR (.tmp 6) (.tmp 39) ?_ ?_ (w.heap.size + 1 + 1) ?_ h x A9 x.n cap9 ?_ _ 28 HB2.out.b6 rfl ?_); (with_reducible rfl); rfl; rfl; rfl))
      have hrd : OwnK (W.setRow (w.heap.size + 1 + 1) (cellsR h x (.slice A9 x.n cap9))) _ _ (fun b => w.heap.size ≤ b) :=
        (HST2.out.tree.own.frame (w' := W.setRow (w.heap.size + 1 + 1) (cellsR h x (.slice A9 x.n cap9))) _ fun b hb _ => setRow_other _ _ _ _ (by have := HST2.out.S_ b hb; omega)).mono fun b hb => by have := HST2.out.S_ b hb; omega
      refine bodyPost_ret (v := _) (results_tree Try.results24 _ _ (w.heap.size + 1 + 1) h x (.slice A9 x.n cap9) _ rfl (setRow_heap _ _ _ _ _ _ HB2.out.b6) rfl) rfl (by rw [hp]; exact ⟨_, rfl, hrd, below_setRow HB2.out.below (by omega) _⟩)
    · have hp : setP h x i v = (((setN h x i v).1 : Int), (setN h x i v).2, 0) := by unfold setP; rw [if_neg (by simp [hc]), if_neg (by omega), if_neg hno]; rfl
      go_upto_region 7 with fail
      go_cut [38] (fun s38 wx => s38 = .bool false ∧ Boxes w wx (cellsR h x (.slice A x.n cap)) #[.int .i64 v] (cellsR 0 zeroN (.slice none 0 0)) 28 3 28 ∧ SetSt w (w.heap.size + 3) g9 h x (.slice A9 x.n cap9) S9 wx)
      case first =>
        by_cases hv : v = 0
        · have hg : (getP h x i == 0) = false := by simp; exact fun e => hno ⟨hv, e⟩
          subst hv
          go_wp2_with (first
            | ((with_reducible refine wpList_loadR (.tmp 3) ?_ ?_ w.heap.size ?_ h x (.slice A x.n cap) ?_ ?_); (with_reducible rfl); rfl; rfl; exact HC3.out)
            | (go_at_call 26; refine (p_Get _ h x i _ (HR.out.keep (below_keeps HB.out.below)) i2 i3).mono ?_; rintro e W ⟨rfl, hb⟩
               have HB2 := Lib.hid (HB.out.on hb)
               have HST2 := Lib.hid (HST.out.next hb)
               clear hb))
          go_meet
          exact ⟨rfl, HB2.out, HST2.out⟩
        · have hv0 : (v == 0) = false := by simp [hv]
          go_wp2_with fail
          go_meet
          exact ⟨rfl, HB.out, HST.out⟩
      case rest =>
        obtain ⟨rfl, hB, hST⟩ := hcut
        have c9 := hST.tree.h
        have HB1 := Lib.hid hB
        have HST1 := Lib.hid hST
        clear hB hST HB HST HC3 c5
        obtain ⟨bl, hb0⟩ : ∃ bl, ((h : Int) == 0) = bl := ⟨_, rfl⟩
        go_wp2_with fail
        go_loopw [] (fun wr => ∃ (h' : Nat) (x' : RN) (A' : Option Addr) (cap' : Nat) (S' : Nat → Prop), h' ≤ 10 ∧ raiseL (h == 0) i (10 - h') h' x' = raised h x i ∧
            Boxes w wr (cellsR h x (.slice A x.n cap)) #[.int .i64 v] (cellsR 0 zeroN (.slice none 0 0)) 28 3 28 ∧ SetSt w (w.heap.size + 3) g9 h' x' (.slice A' x'.n cap') S' wr)
          (fun wr => 10 - (intOf ((wr.cell? ⟨g9, 0, none⟩).getD undef)).toNat)
        case atStart => exact ⟨h, x, A9, cap9, S9, h10, rfl, HB1.out, HST1.out⟩
        case round =>
          obtain ⟨h', x', A', cap', S', k10, hra, hB, hST⟩ := hrel
          have d0 := hST.tree.h
          have e0 := hST.tree.frozen 0
          have hgw := hST.tree.lt
          have HB := Lib.hid hB
          have HST := Lib.hid hST
          have HRA := Lib.hid hra
          clear hB hST HB1 HST1 c9 hra
          by_cases hcond : h' = 0 ∨ 0 < i / 2 ^ (3 * h')
          · have hlt : h' < 10 := by
              rcases Nat.lt_or_ge h' 10 with h1 | h1
              · exact h1
              · obtain rfl : h' = 10 := by omega
                exfalso
                rcases hcond with h2 | h2
                · omega
                · omega
            have hcB : ((h' : Int) == 0) = true ∨ ((h' : Int) == 0) = false ∧ 0 < i / 2 ^ (3 * h') := by
              by_cases h0 : h' = 0
              · exact .inl (by simp [h0])
              · exact .inr ⟨by simp; omega, by omega⟩
            have HB0 := Lib.hid hb0
            clear hb0
            cases bl
            rotate_left
            · have hbl : h = 0 := by have := HB0.out; simpa using this
              rcases hcB with hcB | ⟨hcB, hcC⟩
              all_goals
                go_wp2_with fail
                refine ⟨⟨h' + 1, x', A', cap', S', by omega, ?_, HB.out.mod HST.out ((Mod.setCell wr g9 0 _).mono fun _ _ e => .inl e), ?_⟩, ?_⟩
                · rw [← HRA.out, raiseL_go hlt hcond, if_pos (by simp [hbl])]
                · have := HST.out.setH ((h' + 1 : Nat) : Int)
                  rwa [show ((h' + 1 : Nat) : Int) = (h' : Int) + 1 by omega] at this ⊢
                · have := (HST.out.setH ((h' : Int) + 1)).tree.h
                  rw [this, d0]
                  simp [intOf]; omega
            · have hbl : h ≠ 0 := by have := HB0.out; simpa using this
              have HC9 := Lib.hid HST.out.tree.node.cells
              rcases hcB with hcB | ⟨hcB, hcC⟩
              all_goals
                go_wp2_with (first
                  | ((with_reducible refine wpList_loadN (.tmp 60) ?_ ?_ (g9) (1) ?_ (x') (.slice A' x'.n cap') ?_ ?_); (with_reducible rfl); rfl; rfl; (intro j v hj; exact below_keeps (by (repeat' (first | (with_reducible exact Below.refl _ _) | (with_reducible assumption) | (with_reducible refine below_plus ?_ ?_ _) | (with_reducible refine Below.alloc ?_ ?_ _) | (with_reducible refine Below.drew ?_) | (with_reducible refine below_drewN ?_ _) | (with_reducible refine Below.setCell ?_ ?_ _) | (first | omega | (simp only [World.size_alloc, size_plus, World.size_drew, World.size_setCell] <;> omega) | (simp <;> omega)) | omega | (simp; omega)))) _ _ (HC9.out j v hj)))
                  | ((with_reducible refine wpList_storeN_mid (.tmp 62) (.tmp 61) ?_ ?_ wr.heap.size 0 ?_ x' A' x'.n cap' ?_ zero88 26 ((Below.heap_alloc _ _ _ (by simp)).trans (heap_alloc_here _ _ _ rfl)) (by rw [zero88_size]; omega) ?_); (with_reducible rfl); rfl; rfl; rfl
                     generalize hW13 : World.setRow _ _ _ = W13
                     have HU := Lib.hid (UpW.start hW13 rfl)
                     clear hW13)
                  | (go_at_call 73; refine (p_refresh8 (upX x') 0 (wr.heap.size + 1) 0 wr.heap.size 8 26 _ W13 (by omega) rfl HU.out.row (by omega) (HU.out.k (j := 8) (by omega)) (HU.out.k (j := 9) (by omega))).mono ?_; rintro e W14 ⟨rfl, cs14, hp14⟩
                     have HP14 := Lib.hid hp14
                     have HC14 := Lib.hid (UpW.cells hp14)
                     have HUP := Lib.hid (HST.out.up HU.out hp14)
                     clear hp14)
                  | ((with_reducible refine wpList_loadN (.tmp 11) ?_ ?_ ((wr.heap.size + 1)) (0) ?_ (upN x') ((.slice (some ⟨wr.heap.size, 0, none⟩) 8 8)) ?_ ?_); (with_reducible rfl); rfl; rfl; (intro j v hj; exact below_keeps (by (repeat' (first | (with_reducible exact Below.refl _ _) | (with_reducible assumption) | (with_reducible refine below_plus ?_ ?_ _) | (with_reducible refine Below.alloc ?_ ?_ _) | (with_reducible refine Below.drew ?_) | (with_reducible refine below_drewN ?_ _) | (with_reducible refine Below.setCell ?_ ?_ _) | (first | omega | (simp only [World.size_alloc, size_plus, World.size_drew, World.size_setCell] <;> omega) | (simp <;> omega)) | omega | (simp; omega)))) _ _ (HC14.out j v hj)))
                  | ((with_reducible refine wpList_storeN_mid (.tmp 65) (.tmp 64) ?_ ?_ g9 1 ?_ (upN x') (some ⟨wr.heap.size, 0, none⟩) 8 8 ?_ _ 28 HUP.out.1 (Nat.le_refl _) ?_); (with_reducible rfl); rfl; rfl; rfl
                     have HM15 := Lib.hid HUP.out.2.1
                     have HS15 := Lib.hid HUP.out.2.2
                     clear HUP
                     generalize World.setRow W14 _ _ = W15 at HM15 HS15 ⊢
                     have d5 := HS15.out.tree.h
                     have e5 := HS15.out.tree.frozen 0))
                have hfin : SetSt w (w.heap.size + 3) g9 ((h' + 1 : Nat) : Int) (upN x') (.slice (some ⟨wr.heap.size, 0, none⟩) (upN x').n 8) (fun b => b = wr.heap.size ∨ S' b ∧ b < wr.heap.size) (W15.setCell ⟨g9, 0, none⟩ (.int .i64 ((h' : Int) + 1))) := by
                  rw [show ((h' + 1 : Nat) : Int) = (h' : Int) + 1 by omega]; exact HS15.out.setH _
                refine ⟨⟨h' + 1, upN x', some ⟨wr.heap.size, 0, none⟩, 8, _, by omega, ?_, (HB.out.mod HST.out HM15.out).mod HS15.out ((Mod.setCell W15 g9 0 _).mono fun _ _ e => .inl e), hfin⟩, ?_⟩
                · rw [← HRA.out, raiseL_go hlt hcond, if_neg (by simp [hbl])]
                · rw [hfin.tree.h, d0]
                  simp [intOf]; omega
          · obtain ⟨m, rfl⟩ : ∃ m, h' = m + 1 := ⟨h' - 1, by omega⟩
            have hn1 : i / 2 ^ (3 * (m + 1)) ≤ 0 := by omega
            have hn2 : i / 2 ^ (3 * ((m : Int) + 1)).toNat ≤ 0 := by
              have e : (3 * ((m : Int) + 1)).toNat = 3 * (m + 1) := by omega
              rw [e]; omega
            have hn0 : ((m : Int) + 1 == 0) = false := by simp; omega
            obtain ⟨k3, y3, hk3⟩ : ∃ k3 y3, shrinkP (m + 1) (updN (setLeaf v) i m x') = (k3, y3) := ⟨_, _, rfl⟩
            have hra : raised h x i = (m + 1, x') := by rw [← HRA.out, raiseL_stop hcond]
            have hsT : setT h x i v = updN (setLeaf v) i m x' := by unfold setT; rw [hra]; rfl
            have hsN : setN h x i v = shrinkP (m + 1) (updN (setLeaf v) i m x') := by unfold setN; rw [hsT, hra]
            rw [hk3] at hsN
            rw [hsT, hra] at hT
            rw [hra] at hO
            have HTT := Lib.hid hT
            have HUP : Hid (UpPre m (fun b => b = w.heap.size + 1) (fun W => W.cell? ⟨w.heap.size + 1, 0, none⟩ = some (.int .i64 v)) wr g9 1 28 (cellsR ((m + 1 : Nat) : Int) x' (.slice A' x'.n cap')) x' (.slice A' x'.n cap') S') := by
              refine ⟨hO, by rw [cell_of_row _ _ _ _ _ _ HB.out.b5]; rfl, ?_, HST.out.tree.node⟩
              rintro b rfl
              refine ⟨HST.out.keep _ (by omega), ?_, fun hb => ?_⟩
              · have := HST.out.g_; omega
              · have := HST.out.S_ _ hb; omega
            have HP := Lib.hid hp
            clear hT hO hra hsT
            clear hb0
            cases bl
            all_goals
              go_wp2_with (first
                | (go_at_call 74; refine (p_update 75 _ _ _ _ (p_Set1 v (w.heap.size + 1)) i i0 i1 m (by omega) x' g9 1 _ _ _ S' wr HUP.out).mono ?_; rintro e W2 ⟨rfl, cs2, s2, S2, hT2⟩
                   have HST2 := Lib.hid (HST.out.turn hT2.mod hT2.tree hT2.sub)
                   have HB2 := Lib.hid (HB.out.mod HST.out hT2.mod)
                   clear hT2)
                | (go_at_call 76; refine (p_shrink (m + 1) (by omega) (by omega) _ g9 s2 S2 W2 HST2.out.tree HTT.out).mono ?_; rintro e W3 ⟨rfl, s3, S3, hT3, hM3, hS3⟩
                   rw [hk3] at hT3
                   have HST3 := Lib.hid (HST2.out.turn (hM3.mono fun _ _ e => .inl e) hT3 (fun b hb => .inl (hS3 b hb)))
                   have HB3 := Lib.hid (HB2.out.mod HST2.out (hM3.mono fun _ _ e => .inl e))
                   obtain ⟨A3, cap3, rfl, -, -⟩ := hT3.own.slice
                   clear hT3 hM3 hS3)
                | ((with_reducible refine wpList_loadR (.tmp 9) ?_ ?_ g9 ?_ k3 y3 (.slice A3 y3.n cap3) HST3.out.tree.cells ?_); (with_reducible rfl); rfl; rfl)
                | ((with_reducible refine wpList_storeR (.tmp 6) (.tmp 77) ?_ ?_ (w.heap.size + 1 + 1) ?_ k3 y3 A3 y3.n cap3 ?_ _ 28 HB3.out.b6 rfl ?_); (with_reducible rfl); rfl; rfl; rfl))
              have hrd : OwnK (W3.setRow (w.heap.size + 1 + 1) (cellsR k3 y3 (.slice A3 y3.n cap3))) _ _ (fun b => w.heap.size ≤ b) :=
                (HST3.out.tree.own.frame (w' := W3.setRow (w.heap.size + 1 + 1) (cellsR k3 y3 (.slice A3 y3.n cap3))) _ fun b hb _ => setRow_other _ _ _ _ (by have := HST3.out.S_ b hb; omega)).mono fun b hb => by have := HST3.out.S_ b hb; omega
              refine bodyPost_ret (v := _) (results_tree Try.results24 _ _ (w.heap.size + 1 + 1) k3 y3 (.slice A3 y3.n cap3) _ rfl (setRow_heap _ _ _ _ _ _ HB3.out.b6) rfl) rfl (by rw [HP.out, hsN]; exact ⟨_, rfl, hrd, below_setRow HB3.out.below (by omega) _⟩)
end Go.Proofs.Ytcicfijpfhbcaaa
