/-
  The reference's node: a leaf.
-/
import Derived.Test.YtcicfijpfhbcaaaGk
namespace Go.Proofs.Ytcicfijpfhbcaaa
set_option linter.unusedSimpArgs false
set_option linter.unusedVariables false
set_option linter.unusedSectionVars false
open Go.RowKit

/-- What holds of the entries that the reference makes a node of. -/
structure InE (l : List E3) (first p : Int) : Prop where
  lo : ∀ e ∈ l, first ≤ e.1
  hi : ∀ e ∈ l, e.1 < first + 8 * p
  tg : ∀ e ∈ l, four e.2.2
  len : l.length ≤ 1073741824

set_option maxRecDepth 100000 in
set_option maxHeartbeats 1000000 in
theorem r_node_nil (v : Value) (base : Nat) (lv first : Int) (w : World) (h : OwnE w base [] v) :
    Calls Try.prog 103 #[v, .int .i64 lv, .int .i64 first] w (ClonePost zeroN w) := by
  obtain ⟨A, cap, rfl, -, -⟩ := h.slice
  clear h
  go_enter Try.func103, Try.ntmps103
  go_wp2_with fail
  refine bodyPost_ret (v := .agg (cellsN zeroN (.slice none 0 0))) (results_cell_row Try.results103 _ _ w.heap.size _ _ _ _ rfl ((heap_alloc_old _ _ (by simp)).trans (heap_alloc_here _ _ _ rfl)) Try.underlying26 rfl sizeN) rfl ⟨_, rfl, OwnK.none_ rfl, by (repeat' (first | (with_reducible exact Below.refl _ _) | (with_reducible assumption) | (with_reducible refine below_plus ?_ ?_ _) | (with_reducible refine Below.alloc ?_ ?_ _) | (with_reducible refine Below.drew ?_) | (with_reducible refine below_drewN ?_ _) | (with_reducible refine Below.setCell ?_ ?_ _) | (first | omega | (simp only [World.size_alloc, size_plus, World.size_drew, World.size_setCell] <;> omega) | (simp <;> omega)) | omega | (simp; omega)))⟩

/-- The node of a leaf behind n digits. -/
def leafN (l : List E3) (first : Int) (n : Nat) : RN := .mk (fun j => if j < n then headV (partE l first 1 j) else 0) (orT (fun j => any0 (partE l first 1 j)) n) (orT (fun j => any1 (partE l first 1 j)) n) 0 (fun i => absurd i.2 (by omega))
structure LeafI (l : List E3) (first : Int) (w wr : World) (n : Nat) : Prop where
  below : Below w.heap.size w wr
  b6 : wr.heap[w.heap.size]? = some (.cells (cellsN zeroN (.slice none 0 0)) 26 (0, 0))
  b7 : wr.heap[w.heap.size + 1]? = some (.cells (cellsN (leafN l first n) (.slice none 0 0)) 26 (0, 0))

theorem part_take {l : List E3} {first p : Int} {n k : Nat} {e : E3} (h : l[k]? = some e) : partE (l.take (k + 1)) first p n = partE (l.take k) first p n ++ if (e.1 - first) / p = n then [e] else [] := by
  unfold partE
  rw [List.take_add_one, h, List.filter_append]
  congr 1
  show List.filter _ [e] = _
  by_cases hq : (e.1 - first) / p = n <;> simp [hq]

theorem cellsN_ext {x y : RN} {s : Value} (hv : ∀ j, j < 8 → x.v j = y.v j) (h0 : x.t0 = y.t0) (h1 : x.t1 = y.t1) : cellsN x s = cellsN y s := by
  unfold cellsN
  rw [hv 0 (by omega), hv 1 (by omega), hv 2 (by omega), hv 3 (by omega), hv 4 (by omega), hv 5 (by omega), hv 6 (by omega), hv 7 (by omega), h0, h1]
theorem setv_row (v : Nat → Int) (t0 t1 : Int) (n : Nat) (kid : Fin n → RN) (s : Value) (a : Int) : ∀ d, d < 8 → (cellsN (.mk v t0 t1 n kid) s).setIfInBounds d (.int .i64 a) = cellsN (.mk (fun j => if j = d then a else v j) t0 t1 n kid) s
  | 0, _ => rfl
  | 1, _ => rfl
  | 2, _ => rfl
  | 3, _ => rfl
  | 4, _ => rfl
  | 5, _ => rfl
  | 6, _ => rfl
  | 7, _ => rfl
  | d + 8, h => absurd h (by omega)
theorem leaf_set0 {l : List E3} {first : Int} {n : Nat} {s : Value} (h : headV (partE l first 1 n) = 0) :
    ((cellsN (leafN l first n) s).setIfInBounds 8 (.int .i64 (leafN l first (n + 1)).t0)).setIfInBounds 9 (.int .i64 (leafN l first (n + 1)).t1) = cellsN (leafN l first (n + 1)) s := by
  unfold leafN
  rw [set8_row, set9_row]
  refine cellsN_ext (fun j _ => ?_) rfl rfl
  show (if j < n then headV (partE l first 1 j) else 0) = if j < n + 1 then headV (partE l first 1 j) else 0
  by_cases h1 : j < n
  · rw [if_pos h1, if_pos (by omega)]
  · by_cases h2 : j = n
    · subst h2; rw [if_neg h1, if_pos (by omega), h]
    · rw [if_neg h1, if_neg (by omega)]
theorem leaf_set1 {l : List E3} {first : Int} {n : Nat} {s : Value} (hn : n < 8) :
    (((cellsN (leafN l first n) s).setIfInBounds 8 (.int .i64 (leafN l first (n + 1)).t0)).setIfInBounds 9 (.int .i64 (leafN l first (n + 1)).t1)).setIfInBounds n (.int .i64 (headV (partE l first 1 n))) = cellsN (leafN l first (n + 1)) s := by
  unfold leafN
  rw [set8_row, set9_row, setv_row _ _ _ _ _ _ _ n hn]
  refine cellsN_ext (fun j _ => ?_) rfl rfl
  show (if j = n then headV (partE l first 1 n) else if j < n then headV (partE l first 1 j) else 0) = if j < n + 1 then headV (partE l first 1 j) else 0
  by_cases h2 : j = n
  · subst h2; rw [if_pos rfl, if_pos (by omega)]
  · rw [if_neg h2]
    by_cases h1 : j < n
    · rw [if_pos h1, if_pos (by omega)]
    · rw [if_neg h1, if_neg (by omega)]
/-- The stores of one round of a leaf. -/
theorem LeafI.next {l : List E3} {first : Int} {w wz W : World} {n : Nat} (h : LeafI l first w wz n) (hs : W.heap.size = wz.heap.size) (ho : W.os = wz.os) (ht : W.tape = wz.tape) (hp : W.output = wz.output)
    (hb : W.heap[w.heap.size + 1]? = some (.cells (cellsN (leafN l first (n + 1)) (.slice none 0 0)) 26 (0, 0))) (hq : ∀ q, q ≠ w.heap.size + 1 → W.heap[q]? = wz.heap[q]?) : LeafI l first w W (n + 1) :=
  ⟨⟨ho.trans h.below.os, ht.trans h.below.tape, hp.trans h.below.output, by have := h.below.size; omega, fun k hk => (hq k (by omega)).trans (h.below.block k hk)⟩, (hq _ (by omega)).trans h.b6, hb⟩
theorem LeafI.keep {l : List E3} {first : Int} {w wr wz : World} {n : Nat} (h : LeafI l first w wr n) (hb : Below wr.heap.size wr wz) : LeafI l first w wz n :=
  ⟨h.below.trans (hb.mono h.below.size), (hb.block _ (lt_of_heap h.b6)).trans h.b6, (hb.block _ (lt_of_heap h.b7)).trans h.b7⟩

set_option maxRecDepth 100000 in
set_option maxHeartbeats 1000000 in
theorem r_node_leaf (v : Value) (l : List E3) (base : Nat) (first : Int) (w : World) (h : OwnE w base l v) (hin : InE l first 1) (hne : l ≠ []) (f0 : 0 ≤ first) (f1 : first + 8 ≤ 1073741824) :
    Calls Try.prog 103 #[v, .int .i64 1, .int .i64 first] w (ClonePost (nodeP 0 l first) w) := by
  obtain ⟨A, cap, rfl, hc1, hc2⟩ := h.slice
  have HL := Lib.hid h
  have HIN := Lib.hid hin
  have hlen := hin.len
  have hl0 : ¬ (l.length : Int) = 0 := by
    intro e
    exact hne (List.length_eq_zero_iff.1 (by omega))
  have HNE := Lib.hid hne
  clear h hin hne
  go_enter Try.func103, Try.ntmps103
  go_wp2_with (go_at_call 102; refine (r_span 0 (by omega) _).mono ?_; rintro e W' ⟨rfl, rfl⟩)
  go_loopw [9] (fun i wr => ∃ n : Nat, n ≤ 8 ∧ i = .int .i64 n ∧ LeafI l first w wr n) (fun i _ => 8 - (intOf i).toNat)
  case atStart => exact ⟨0, by omega, rfl, by (repeat' (first | (with_reducible exact Below.refl _ _) | (with_reducible assumption) | (with_reducible refine below_plus ?_ ?_ _) | (with_reducible refine Below.alloc ?_ ?_ _) | (with_reducible refine Below.drew ?_) | (with_reducible refine below_drewN ?_ _) | (with_reducible refine Below.setCell ?_ ?_ _) | (first | omega | (simp only [World.size_alloc, size_plus, World.size_drew, World.size_setCell] <;> omega) | (simp <;> omega)) | omega | (simp; omega))), (heap_alloc_old _ _ (by simp)).trans (heap_alloc_here _ _ _ rfl), heap_alloc_here _ _ _ (by simp)⟩
  case round =>
    obtain ⟨n, hn, rfl, hI⟩ := hrel
    rcases Nat.lt_or_ge n 8 with hlt | hge
    · have HI := Lib.hid hI
      have hn8 : decide ((n : Int) < 8) = true := by simp; omega
      clear hI
      go_wp2_with fail
      go_loopw [10, 11] (fun p k wz => ∃ m : Nat, m ≤ l.length ∧ k = .int .i64 m ∧ OwnE wz wr.heap.size (partE (l.take m) first 1 n) p ∧ Below wr.heap.size wr wz) (fun _ k _ => l.length - (intOf k).toNat)
      case atStart => exact ⟨0, by omega, rfl, OwnE.nil _ _, Below.refl _ _⟩
      case round =>
        obtain ⟨m, hm, rfl, hown, hbl⟩ := hrel
        rcases Nat.lt_or_ge m l.length with hlm | hgm
        · have hg : l[m]? = some l[m] := List.getElem?_eq_getElem hlm
          have hbw := HI.out.below.trans (hbl.mono HI.out.below.size)
          obtain ⟨g, cap', hs, -, hgw, c0, c1, c2⟩ := (HL.out.below hbw).at hg
          injection hs with e1 e2 e3
          subst e1 e3
          have hmem := List.getElem_mem hlm
          have q0 := HIN.out.lo _ hmem
          have q1 := HIN.out.hi _ hmem
          have hst := Lib.hid (part_take (first := first) (p := 1) (n := n) hg)
          have HOWN := Lib.hid hown
          have HBL := Lib.hid hbl
          have hsz := hbl.size
          have hll : (partE (l.take m) first 1 n).length ≤ 1073741824 := Nat.le_trans (List.length_filter_le _ _) (by rw [List.length_take]; omega)
          clear e2 hown hbl hbw hg hmem
          generalize l[m] = e at *
          by_cases hq : (e.1 - first) / 1 = n
          · rw [Hid, if_pos hq] at hst
            have hst := Lib.hid hst
            have hq' : (e.1 - first == (n : Int)) = true := by rw [Int.ediv_one] at hq; simp [hq]
            clear hq
            go_wp2_with ((with_reducible refine wpList_appendE' ?_ (.tmp 42) (.tmp 47) ?_ _ _ _ ?_ HOWN.out e _ ?_ hsz hll ?_); rfl; (with_reducible rfl); rfl; rfl; (intro v' w' hap); have HA := Lib.hid hap; clear hap)
            exact ⟨⟨m + 1, by omega, by go_num, by rw [hst.out]; exact HA.out.own, HBL.out.trans HA.out.below⟩, by simp [intOf]; omega⟩
          · rw [Hid, if_neg hq, List.append_nil] at hst
            have hst := Lib.hid hst
            have hq' : (e.1 - first == (n : Int)) = false := by rw [Int.ediv_one] at hq; simp [hq]
            clear hq
            go_wp2_with fail
            exact ⟨⟨m + 1, by omega, by go_num, by rw [hst.out]; exact HOWN.out, HBL.out⟩, by simp [intOf]; omega⟩
        · obtain rfl : m = l.length := by omega
          rw [List.take_length] at hown
          have hfour : ∀ e ∈ partE l first 1 n, four e.2.2 := fun e he => HIN.out.tg e (List.mem_filter.1 he).1
          have hme := msk_end hfour
          have hst0 := orT_step (fun j => any0 (partE l first 1 j)) hlt
          have hst1 := orT_step (fun j => any1 (partE l first 1 j)) hlt
          obtain ⟨A10, cap10, rfl, h10, h11⟩ := hown.slice
          have hpl : (partE l first 1 n).length ≤ 1073741824 := Nat.le_trans (List.length_filter_le _ _) (by omega)
          have HP := Lib.hid hown
          have HLI := Lib.hid (HI.out.keep hbl)
          clear hown hbl
          obtain ⟨T0, hT0⟩ : ∃ T, (leafN l first n).t0 = T := ⟨_, rfl⟩
          obtain ⟨T1, hT1⟩ : ∃ T, (leafN l first n).t1 = T := ⟨_, rfl⟩
          obtain ⟨U0, hU0⟩ : ∃ T, (leafN l first (n + 1)).t0 = T := ⟨_, rfl⟩
          obtain ⟨U1, hU1⟩ : ∃ T, (leafN l first (n + 1)).t1 = T := ⟨_, rfl⟩
          have HS0 : Hid (headV (partE l first 1 n) = 0 → ((cellsN (leafN l first n) (.slice none 0 0)).setIfInBounds 8 (.int .i64 U0)).setIfInBounds 9 (.int .i64 U1) = cellsN (leafN l first (n + 1)) (.slice none 0 0)) := by
            rw [← hU0, ← hU1]; exact fun h => leaf_set0 h
          have HS1 : Hid ((((cellsN (leafN l first n) (.slice none 0 0)).setIfInBounds 8 (.int .i64 U0)).setIfInBounds 9 (.int .i64 U1)).setIfInBounds n (.int .i64 (headV (partE l first 1 n))) = cellsN (leafN l first (n + 1)) (.slice none 0 0)) := by
            rw [← hU0, ← hU1]; exact leaf_set1 hlt
          have c8 : wr.cell? ⟨w.heap.size + 1, 8, none⟩ = some (.int .i64 T0) := by rw [cell_of_row _ _ _ _ _ _ HLI.out.b7, ← hT0]; rfl
          have c9 : wr.cell? ⟨w.heap.size + 1, 9, none⟩ = some (.int .i64 T1) := by rw [cell_of_row _ _ _ _ _ _ HLI.out.b7, ← hT1]; rfl
          have f8 := frozen_of_row wr _ 8 _ _ HLI.out.b7
          have f9 := frozen_of_row wr _ 9 _ _ HLI.out.b7
          have fn := frozen_of_row wr _ n _ _ HLI.out.b7
          have hgl := lt_of_heap HLI.out.b7
          have hst0' : bits .or .i64 T0 (wrap64 ((if any0 (partE l first 1 n) then 1 else 0) * 2 ^ n)) = U0 := by rw [← hT0, ← hU0]; exact hst0
          have hst1' : bits .or .i64 T1 (wrap64 ((if any1 (partE l first 1 n) then 1 else 0) * 2 ^ n)) = U1 := by rw [← hT1, ← hU1]; exact hst1
          have cvn : wr.cell? ⟨w.heap.size + 1, n, none⟩ = some (.int .i64 ((leafN l first n).v n)) := by rw [cell_of_row _ _ _ _ _ _ HLI.out.b7, cellsN_v _ _ _ hlt]
          generalize (leafN l first n).v n = vn at cvn
          clear hst0 hst1 hT0 hT1 hU0 hU1
          generalize partE l first 1 n = P at *
          have hplm : (P.length : Int) ≤ 1073741824 := by omega
          obtain ⟨B0, hB0⟩ : ∃ B : Int, (if any0 P then 1 else 0) = B := ⟨_, rfl⟩
          obtain ⟨B1, hB1⟩ : ∃ B : Int, (if any1 P then 1 else 0) = B := ⟨_, rfl⟩
          have hB0' : 0 ≤ B0 ∧ B0 ≤ 1 := by rw [← hB0]; split <;> omega
          have hB1' : 0 ≤ B1 ∧ B1 ≤ 1 := by rw [← hB1]; split <;> omega
          rw [hB0] at hme hst0'
          rw [hB1] at hme hst1'
          have HME := Lib.hid hme
          have HST0 := Lib.hid hst0'
          have HST1 := Lib.hid hst1'
          clear hme hst0' hst1' hB0 hB1 hfour
          go_wp2_with fail
          go_loop [12, 13] (fun msk k => ∃ j : Nat, j ≤ P.length ∧ k = .int .i64 j ∧ msk = .int .i64 (mskE P j)) (fun _ k => P.length - (intOf k).toNat)
          case atStart => exact ⟨0, by omega, rfl, rfl⟩
          case round =>
            obtain ⟨j, hj, rfl, rfl⟩ := hrel
            rcases Nat.lt_or_ge j P.length with hlj | hgj
            · have hg : P[j]? = some P[j] := List.getElem?_eq_getElem hlj
              obtain ⟨g, cap', hs, -, hgw, -, -, c2⟩ := HP.out.at hg
              injection hs with e1 e2 e3
              subst e1 e3
              have hst := Lib.hid (mskE_succ hg)
              clear e2 hg
              generalize P[j] = e at *
              generalize mskE P j = M at *
              go_wp2_with fail
              exact ⟨⟨j + 1, by omega, by go_num, by rw [hst.out]⟩, by simp [intOf]; omega⟩
            · obtain rfl : j = P.length := by omega
              obtain ⟨hm4, hm0, hm1⟩ := HME.out
              have hst0' := HST0.out
              have hst1' := HST1.out
              generalize mskE P P.length = M at *
              obtain ⟨m0, m3⟩ := hm4
              cases P with
              | nil =>
                go_wp2_with fail
                refine ⟨⟨n + 1, by omega, by go_num, HLI.out.next (by simp) rfl rfl rfl ?_ fun q hq => ?_⟩, by simp [intOf]; omega⟩
                · rw [← HS0.out rfl]; exact heap_setCell_same _ _ 9 _ _ _ (heap_setCell_same wr _ 8 _ _ _ HLI.out.b7)
                · rw [heap_setCell_other _ _ q _ hq, heap_setCell_other _ _ q _ hq]
              | cons e P =>
                obtain ⟨g, cap', hs, -, hgw, -, c1, -⟩ := HP.out.at (k := 0) (e := e) rfl
                injection hs with e1 e2 e3
                subst e1 e3
                clear e2
                rw [Nat.zero_mul] at c1
                have hP0 : ((0 : Int) < ((e :: P).length : Int)) := by simp
                have hb7l := lt_of_heap HI.out.b7
                have hgne : ¬ g = w.heap.size + 1 := fun e => by have := HP.out.base_ g rfl; omega
                go_wp2_with fail
                refine ⟨⟨n + 1, by omega, by go_num, HLI.out.next (by simp) rfl rfl rfl ?_ fun q hq => ?_⟩, by simp [intOf]; omega⟩
                · rw [← HS1.out]; exact heap_setCell_same _ _ n _ _ _ (heap_setCell_same _ _ 9 _ _ _ (heap_setCell_same wr _ 8 _ _ _ HLI.out.b7))
                · rw [heap_setCell_other _ _ q _ hq, heap_setCell_other _ _ q _ hq, heap_setCell_other _ _ q _ hq]
    · obtain rfl : n = 8 := by omega
      have he : cellsN (leafN l first 8) (.slice none 0 0) = cellsN (nodeP 0 l first) (.slice none 0 0) := by
        rw [nodeP_leaf HNE.out]
        refine cellsN_ext (fun j hj => ?_) (orT_8 _) (orT_8 _)
        show (if j < 8 then headV (partE l first 1 j) else 0) = headV (partE l first 1 j)
        rw [if_pos hj]
      have hN : (nodeP 0 l first).n = 0 := by rw [nodeP_leaf HNE.out]; rfl
      have hb7 := hI.b7
      rw [he] at hb7
      have HB7 := Lib.hid hb7
      have HI := Lib.hid hI
      have HN := Lib.hid hN
      clear he hb7 hI hN
      generalize nodeP 0 l first = N at *
      go_wp2_with (first
        | ((with_reducible refine wpList_loadN (.tmp 7) ?_ ?_ (w.heap.size + 1) 0 ?_ N (.slice none 0 0) ?_ ?_); (with_reducible rfl); rfl; rfl; (intro j v hj; rw [cell_of_row wr _ _ _ _ _ HB7.out, Nat.zero_add]; simpa using hj))
        | ((with_reducible refine wpList_storeN (.tmp 6) (.tmp 111) ?_ ?_ w.heap.size ?_ N none 0 0 ?_ ?_ ?_); (with_reducible rfl); rfl; rfl; rfl; exact ⟨_, _, HI.out.b6, rfl⟩))
      refine bodyPost_ret (v := .agg (cellsN N (.slice none 0 0))) (results_cell_row Try.results103 _ _ w.heap.size _ _ _ _ rfl (setRow_heap wr _ _ _ _ _ HI.out.b6) Try.underlying26 rfl sizeN) rfl ?_
      refine ⟨_, rfl, OwnK.none_ HN.out, ?_⟩
      exact ⟨HI.out.below.os, HI.out.below.tape, HI.out.below.output, by have := HI.out.below.size; simp; omega, fun q hq => (setRow_other wr _ q _ (by omega)).trans (HI.out.below.block q hq)⟩
end Go.Proofs.Ytcicfijpfhbcaaa
