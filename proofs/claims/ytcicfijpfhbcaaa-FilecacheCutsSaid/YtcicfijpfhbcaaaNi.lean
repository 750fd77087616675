/-
  The reference's node: a leaf.
-/
/-
  The reference's node: an inner node; the whole.
-/
import Derived.Test.YtcicfijpfhbcaaaGk
import Derived.Test.YtcicfijpfhbcaaaOr2
namespace Go.Proofs.Ytcicfijpfhbcaaa
set_option linter.unusedSimpArgs false
set_option linter.unusedVariables false
set_option linter.unusedSectionVars false
open Go.RowKit

/-- What holds of the entries that the reference makes a node of. -/
structure InE (l : List E3) (first p : Int) : Prop where
  lo : ∀ e ∈ l, first ≤ e.1
  hi : ∀ e ∈ l, e.1 < first + 8 * p
  tg : ∀ e ∈ l, four e.2.2
  len : l.length ≤ 1073741824

set_option maxRecDepth 100000 in
set_option maxHeartbeats 1000000 in
theorem r_node_nil (v : Value) (base : Nat) (lv first : Int) (w : World) (h : OwnE w base [] v) :
    Calls Try.prog 103 #[v, .int .i64 lv, .int .i64 first] w (ClonePost zeroN w) := by
  obtain ⟨A, cap, rfl, -, -⟩ := h.slice
  clear h
  go_enter Try.func103, Try.ntmps103
  go_wp2_with fail
  refine bodyPost_ret (v := .agg (cellsN zeroN (.slice none 0 0))) (results_cell_row Try.results103 _ _ w.heap.size _ _ _ _ rfl ((heap_alloc_old _ _ (by simp)).trans (heap_alloc_here _ _ _ rfl)) Try.underlying26 rfl sizeN) rfl ⟨_, rfl, OwnK.none_ rfl, by (repeat' (first | (with_reducible exact Below.refl _ _) | (with_reducible assumption) | (with_reducible refine below_plus ?_ ?_ _) | (with_reducible refine Below.alloc ?_ ?_ _) | (with_reducible refine Below.drew ?_) | (with_reducible refine below_drewN ?_ _) | (with_reducible refine Below.setCell ?_ ?_ _) | (first | omega | (simp only [World.size_alloc, size_plus, World.size_drew, World.size_setCell] <;> omega) | (simp <;> omega)) | omega | (simp; omega)))⟩

/-- The node of a leaf behind n digits. -/
def leafN (l : List E3) (first : Int) (n : Nat) : RN := .mk (fun j => if j < n then headV (partE l first 1 j) else 0) (orT (fun j => any0 (partE l first 1 j)) n) (orT (fun j => any1 (partE l first 1 j)) n) 0 (fun i => absurd i.2 (by omega))
structure LeafI (l : List E3) (first : Int) (w wr : World) (n : Nat) : Prop where
  below : Below w.heap.size w wr
  b6 : wr.heap[w.heap.size]? = some (.cells (cellsN zeroN (.slice none 0 0)) 26 (0, 0))
  b7 : wr.heap[w.heap.size + 1]? = some (.cells (cellsN (leafN l first n) (.slice none 0 0)) 26 (0, 0))

theorem part_take {l : List E3} {first p : Int} {n k : Nat} {e : E3} (h : l[k]? = some e) : partE (l.take (k + 1)) first p n = partE (l.take k) first p n ++ if (e.1 - first) / p = n then [e] else [] := by
  unfold partE
  rw [List.take_add_one, h, List.filter_append]
  congr 1
  show List.filter _ [e] = _
  by_cases hq : (e.1 - first) / p = n <;> simp [hq]

theorem cellsN_ext {x y : RN} {s : Value} (hv : ∀ j, j < 8 → x.v j = y.v j) (h0 : x.t0 = y.t0) (h1 : x.t1 = y.t1) : cellsN x s = cellsN y s := by
  unfold cellsN
  rw [hv 0 (by omega), hv 1 (by omega), hv 2 (by omega), hv 3 (by omega), hv 4 (by omega), hv 5 (by omega), hv 6 (by omega), hv 7 (by omega), h0, h1]
theorem setv_row (v : Nat → Int) (t0 t1 : Int) (n : Nat) (kid : Fin n → RN) (s : Value) (a : Int) : ∀ d, d < 8 → (cellsN (.mk v t0 t1 n kid) s).setIfInBounds d (.int .i64 a) = cellsN (.mk (fun j => if j = d then a else v j) t0 t1 n kid) s
  | 0, _ => rfl
  | 1, _ => rfl
  | 2, _ => rfl
  | 3, _ => rfl
  | 4, _ => rfl
  | 5, _ => rfl
  | 6, _ => rfl
  | 7, _ => rfl
  | d + 8, h => absurd h (by omega)
theorem leaf_set0 {l : List E3} {first : Int} {n : Nat} {s : Value} (h : headV (partE l first 1 n) = 0) :
    ((cellsN (leafN l first n) s).setIfInBounds 8 (.int .i64 (leafN l first (n + 1)).t0)).setIfInBounds 9 (.int .i64 (leafN l first (n + 1)).t1) = cellsN (leafN l first (n + 1)) s := by
  unfold leafN
  rw [set8_row, set9_row]
  refine cellsN_ext (fun j _ => ?_) rfl rfl
  show (if j < n then headV (partE l first 1 j) else 0) = if j < n + 1 then headV (partE l first 1 j) else 0
  by_cases h1 : j < n
  · rw [if_pos h1, if_pos (by omega)]
  · by_cases h2 : j = n
    · subst h2; rw [if_neg h1, if_pos (by omega), h]
    · rw [if_neg h1, if_neg (by omega)]
theorem leaf_set1 {l : List E3} {first : Int} {n : Nat} {s : Value} (hn : n < 8) :
    (((cellsN (leafN l first n) s).setIfInBounds 8 (.int .i64 (leafN l first (n + 1)).t0)).setIfInBounds 9 (.int .i64 (leafN l first (n + 1)).t1)).setIfInBounds n (.int .i64 (headV (partE l first 1 n))) = cellsN (leafN l first (n + 1)) s := by
  unfold leafN
  rw [set8_row, set9_row, setv_row _ _ _ _ _ _ _ n hn]
  refine cellsN_ext (fun j _ => ?_) rfl rfl
  show (if j = n then headV (partE l first 1 n) else if j < n then headV (partE l first 1 j) else 0) = if j < n + 1 then headV (partE l first 1 j) else 0
  by_cases h2 : j = n
  · subst h2; rw [if_pos rfl, if_pos (by omega)]
  · rw [if_neg h2]
    by_cases h1 : j < n
    · rw [if_pos h1, if_pos (by omega)]
    · rw [if_neg h1, if_neg (by omega)]
/-- The stores of one round of a leaf. -/
theorem LeafI.next {l : List E3} {first : Int} {w wz W : World} {n : Nat} (h : LeafI l first w wz n) (hs : W.heap.size = wz.heap.size) (ho : W.os = wz.os) (ht : W.tape = wz.tape) (hp : W.output = wz.output)
    (hb : W.heap[w.heap.size + 1]? = some (.cells (cellsN (leafN l first (n + 1)) (.slice none 0 0)) 26 (0, 0))) (hq : ∀ q, q ≠ w.heap.size + 1 → W.heap[q]? = wz.heap[q]?) : LeafI l first w W (n + 1) :=
  ⟨⟨ho.trans h.below.os, ht.trans h.below.tape, hp.trans h.below.output, by have := h.below.size; omega, fun k hk => (hq k (by omega)).trans (h.below.block k hk)⟩, (hq _ (by omega)).trans h.b6, hb⟩
theorem LeafI.keep {l : List E3} {first : Int} {w wr wz : World} {n : Nat} (h : LeafI l first w wr n) (hb : Below wr.heap.size wr wz) : LeafI l first w wz n :=
  ⟨h.below.trans (hb.mono h.below.size), (hb.block _ (lt_of_heap h.b6)).trans h.b6, (hb.block _ (lt_of_heap h.b7)).trans h.b7⟩

set_option maxRecDepth 100000 in
set_option maxHeartbeats 1000000 in
theorem r_node_leaf (v : Value) (l : List E3) (base : Nat) (first : Int) (w : World) (h : OwnE w base l v) (hin : InE l first 1) (hne : l ≠ []) (f0 : 0 ≤ first) (f1 : first + 8 ≤ 1073741824) :
    Calls Try.prog 103 #[v, .int .i64 1, .int .i64 first] w (ClonePost (nodeP 0 l first) w) := by
  obtain ⟨A, cap, rfl, hc1, hc2⟩ := h.slice
  have HL := Lib.hid h
  have HIN := Lib.hid hin
  have hlen := hin.len
  have hl0 : ¬ (l.length : Int) = 0 := by
    intro e
    exact hne (List.length_eq_zero_iff.1 (by omega))
  have HNE := Lib.hid hne
  clear h hin hne
  go_enter Try.func103, Try.ntmps103
  go_wp2_with (go_at_call 102; refine (r_span 0 (by omega) _).mono ?_; rintro e W' ⟨rfl, rfl⟩)
  go_loopw [9] (fun i wr => ∃ n : Nat, n ≤ 8 ∧ i = .int .i64 n ∧ LeafI l first w wr n) (fun i _ => 8 - (intOf i).toNat)
  case atStart => exact ⟨0, by omega, rfl, by (repeat' (first | (with_reducible exact Below.refl _ _) | (with_reducible assumption) | (with_reducible refine below_plus ?_ ?_ _) | (with_reducible refine Below.alloc ?_ ?_ _) | (with_reducible refine Below.drew ?_) | (with_reducible refine below_drewN ?_ _) | (with_reducible refine Below.setCell ?_ ?_ _) | (first | omega | (simp only [World.size_alloc, size_plus, World.size_drew, World.size_setCell] <;> omega) | (simp <;> omega)) | omega | (simp; omega))), (heap_alloc_old _ _ (by simp)).trans (heap_alloc_here _ _ _ rfl), heap_alloc_here _ _ _ (by simp)⟩
  case round =>
    obtain ⟨n, hn, rfl, hI⟩ := hrel
    rcases Nat.lt_or_ge n 8 with hlt | hge
    · have HI := Lib.hid hI
      have hn8 : decide ((n : Int) < 8) = true := by simp; omega
      clear hI
      go_wp2_with fail
      go_loopw [10, 11] (fun p k wz => ∃ m : Nat, m ≤ l.length ∧ k = .int .i64 m ∧ OwnE wz wr.heap.size (partE (l.take m) first 1 n) p ∧ Below wr.heap.size wr wz) (fun _ k _ => l.length - (intOf k).toNat)
      case atStart => exact ⟨0, by omega, rfl, OwnE.nil _ _, Below.refl _ _⟩
      case round =>
        obtain ⟨m, hm, rfl, hown, hbl⟩ := hrel
        rcases Nat.lt_or_ge m l.length with hlm | hgm
        · have hg : l[m]? = some l[m] := List.getElem?_eq_getElem hlm
          have hbw := HI.out.below.trans (hbl.mono HI.out.below.size)
          obtain ⟨g, cap', hs, -, hgw, c0, c1, c2⟩ := (HL.out.below hbw).at hg
          injection hs with e1 e2 e3
          subst e1 e3
          have hmem := List.getElem_mem hlm
          have q0 := HIN.out.lo _ hmem
          have q1 := HIN.out.hi _ hmem
          have hst := Lib.hid (part_take (first := first) (p := 1) (n := n) hg)
          have HOWN := Lib.hid hown
          have HBL := Lib.hid hbl
          have hsz := hbl.size
          have hll : (partE (l.take m) first 1 n).length ≤ 1073741824 := Nat.le_trans (List.length_filter_le _ _) (by rw [List.length_take]; omega)
          clear e2 hown hbl hbw hg hmem
          generalize l[m] = e at *
          by_cases hq : (e.1 - first) / 1 = n
          · rw [Hid, if_pos hq] at hst
            have hst := Lib.hid hst
            have hq' : (e.1 - first == (n : Int)) = true := by rw [Int.ediv_one] at hq; simp [hq]
            clear hq
            go_wp2_with ((with_reducible refine wpList_appendE' ?_ (.tmp 42) (.tmp 47) ?_ _ _ _ ?_ HOWN.out e _ ?_ hsz hll ?_); rfl; (with_reducible rfl); rfl; rfl; (intro v' w' hap); have HA := Lib.hid hap; clear hap)
            exact ⟨⟨m + 1, by omega, by go_num, by rw [hst.out]; exact HA.out.own, HBL.out.trans HA.out.below⟩, by simp [intOf]; omega⟩
          · rw [Hid, if_neg hq, List.append_nil] at hst
            have hst := Lib.hid hst
            have hq' : (e.1 - first == (n : Int)) = false := by rw [Int.ediv_one] at hq; simp [hq]
            clear hq
            go_wp2_with fail
            exact ⟨⟨m + 1, by omega, by go_num, by rw [hst.out]; exact HOWN.out, HBL.out⟩, by simp [intOf]; omega⟩
        · obtain rfl : m = l.length := by omega
          rw [List.take_length] at hown
          have hfour : ∀ e ∈ partE l first 1 n, four e.2.2 := fun e he => HIN.out.tg e (List.mem_filter.1 he).1
          have hme := msk_end hfour
          have hst0 := orT_step (fun j => any0 (partE l first 1 j)) hlt
          have hst1 := orT_step (fun j => any1 (partE l first 1 j)) hlt
          obtain ⟨A10, cap10, rfl, h10, h11⟩ := hown.slice
          have hpl : (partE l first 1 n).length ≤ 1073741824 := Nat.le_trans (List.length_filter_le _ _) (by omega)
          have HP := Lib.hid hown
          have HLI := Lib.hid (HI.out.keep hbl)
          clear hown hbl
          obtain ⟨T0, hT0⟩ : ∃ T, (leafN l first n).t0 = T := ⟨_, rfl⟩
          obtain ⟨T1, hT1⟩ : ∃ T, (leafN l first n).t1 = T := ⟨_, rfl⟩
          obtain ⟨U0, hU0⟩ : ∃ T, (leafN l first (n + 1)).t0 = T := ⟨_, rfl⟩
          obtain ⟨U1, hU1⟩ : ∃ T, (leafN l first (n + 1)).t1 = T := ⟨_, rfl⟩
          have HS0 : Hid (headV (partE l first 1 n) = 0 → ((cellsN (leafN l first n) (.slice none 0 0)).setIfInBounds 8 (.int .i64 U0)).setIfInBounds 9 (.int .i64 U1) = cellsN (leafN l first (n + 1)) (.slice none 0 0)) := by
            rw [← hU0, ← hU1]; exact fun h => leaf_set0 h
          have HS1 : Hid ((((cellsN (leafN l first n) (.slice none 0 0)).setIfInBounds 8 (.int .i64 U0)).setIfInBounds 9 (.int .i64 U1)).setIfInBounds n (.int .i64 (headV (partE l first 1 n))) = cellsN (leafN l first (n + 1)) (.slice none 0 0)) := by
            rw [← hU0, ← hU1]; exact leaf_set1 hlt
          have c8 : wr.cell? ⟨w.heap.size + 1, 8, none⟩ = some (.int .i64 T0) := by rw [cell_of_row _ _ _ _ _ _ HLI.out.b7, ← hT0]; rfl
          have c9 : wr.cell? ⟨w.heap.size + 1, 9, none⟩ = some (.int .i64 T1) := by rw [cell_of_row _ _ _ _ _ _ HLI.out.b7, ← hT1]; rfl
          have f8 := frozen_of_row wr _ 8 _ _ HLI.out.b7
          have f9 := frozen_of_row wr _ 9 _ _ HLI.out.b7
          have fn := frozen_of_row wr _ n _ _ HLI.out.b7
          have hgl := lt_of_heap HLI.out.b7
          have hst0' : bits .or .i64 T0 (wrap64 ((if any0 (partE l first 1 n) then 1 else 0) * 2 ^ n)) = U0 := by rw [← hT0, ← hU0]; exact hst0
          have hst1' : bits .or .i64 T1 (wrap64 ((if any1 (partE l first 1 n) then 1 else 0) * 2 ^ n)) = U1 := by rw [← hT1, ← hU1]; exact hst1
          have cvn : wr.cell? ⟨w.heap.size + 1, n, none⟩ = some (.int .i64 ((leafN l first n).v n)) := by rw [cell_of_row _ _ _ _ _ _ HLI.out.b7, cellsN_v _ _ _ hlt]
          generalize (leafN l first n).v n = vn at cvn
          clear hst0 hst1 hT0 hT1 hU0 hU1
          generalize partE l first 1 n = P at *
          have hplm : (P.length : Int) ≤ 1073741824 := by omega
          obtain ⟨B0, hB0⟩ : ∃ B : Int, (if any0 P then 1 else 0) = B := ⟨_, rfl⟩
          obtain ⟨B1, hB1⟩ : ∃ B : Int, (if any1 P then 1 else 0) = B := ⟨_, rfl⟩
          have hB0' : 0 ≤ B0 ∧ B0 ≤ 1 := by rw [← hB0]; split <;> omega
          have hB1' : 0 ≤ B1 ∧ B1 ≤ 1 := by rw [← hB1]; split <;> omega
          rw [hB0] at hme hst0'
          rw [hB1] at hme hst1'
          have HME := Lib.hid hme
          have HST0 := Lib.hid hst0'
          have HST1 := Lib.hid hst1'
          clear hme hst0' hst1' hB0 hB1 hfour
          go_wp2_with fail
          go_loop [12, 13] (fun msk k => ∃ j : Nat, j ≤ P.length ∧ k = .int .i64 j ∧ msk = .int .i64 (mskE P j)) (fun _ k => P.length - (intOf k).toNat)
          case atStart => exact ⟨0, by omega, rfl, rfl⟩
          case round =>
            obtain ⟨j, hj, rfl, rfl⟩ := hrel
            rcases Nat.lt_or_ge j P.length with hlj | hgj
            · have hg : P[j]? = some P[j] := List.getElem?_eq_getElem hlj
              obtain ⟨g, cap', hs, -, hgw, -, -, c2⟩ := HP.out.at hg
              injection hs with e1 e2 e3
              subst e1 e3
              have hst := Lib.hid (mskE_succ hg)
              clear e2 hg
              generalize P[j] = e at *
              generalize mskE P j = M at *
              go_wp2_with fail
              exact ⟨⟨j + 1, by omega, by go_num, by rw [hst.out]⟩, by simp [intOf]; omega⟩
            · obtain rfl : j = P.length := by omega
              obtain ⟨hm4, hm0, hm1⟩ := HME.out
              have hst0' := HST0.out
              have hst1' := HST1.out
              generalize mskE P P.length = M at *
              obtain ⟨m0, m3⟩ := hm4
              cases P with
              | nil =>
                go_wp2_with fail
                refine ⟨⟨n + 1, by omega, by go_num, HLI.out.next (by simp) rfl rfl rfl ?_ fun q hq => ?_⟩, by simp [intOf]; omega⟩
                · rw [← HS0.out rfl]; exact heap_setCell_same _ _ 9 _ _ _ (heap_setCell_same wr _ 8 _ _ _ HLI.out.b7)
                · rw [heap_setCell_other _ _ q _ hq, heap_setCell_other _ _ q _ hq]
              | cons e P =>
                obtain ⟨g, cap', hs, -, hgw, -, c1, -⟩ := HP.out.at (k := 0) (e := e) rfl
                injection hs with e1 e2 e3
                subst e1 e3
                clear e2
                rw [Nat.zero_mul] at c1
                have hP0 : ((0 : Int) < ((e :: P).length : Int)) := by simp
                have hb7l := lt_of_heap HI.out.b7
                have hgne : ¬ g = w.heap.size + 1 := fun e => by have := HP.out.base_ g rfl; omega
                go_wp2_with fail
                refine ⟨⟨n + 1, by omega, by go_num, HLI.out.next (by simp) rfl rfl rfl ?_ fun q hq => ?_⟩, by simp [intOf]; omega⟩
                · rw [← HS1.out]; exact heap_setCell_same _ _ n _ _ _ (heap_setCell_same _ _ 9 _ _ _ (heap_setCell_same wr _ 8 _ _ _ HLI.out.b7))
                · rw [heap_setCell_other _ _ q _ hq, heap_setCell_other _ _ q _ hq, heap_setCell_other _ _ q _ hq]
    · obtain rfl : n = 8 := by omega
      have he : cellsN (leafN l first 8) (.slice none 0 0) = cellsN (nodeP 0 l first) (.slice none 0 0) := by
        rw [nodeP_leaf HNE.out]
        refine cellsN_ext (fun j hj => ?_) (orT_8 _) (orT_8 _)
        show (if j < 8 then headV (partE l first 1 j) else 0) = headV (partE l first 1 j)
        rw [if_pos hj]
      have hN : (nodeP 0 l first).n = 0 := by rw [nodeP_leaf HNE.out]; rfl
      have hb7 := hI.b7
      rw [he] at hb7
      have HB7 := Lib.hid hb7
      have HI := Lib.hid hI
      have HN := Lib.hid hN
      clear he hb7 hI hN
      generalize nodeP 0 l first = N at *
      go_wp2_with (first
        | ((with_reducible refine wpList_loadN (.tmp 7) ?_ ?_ (w.heap.size + 1) 0 ?_ N (.slice none 0 0) ?_ ?_); (with_reducible rfl); rfl; rfl; (intro j v hj; rw [cell_of_row wr _ _ _ _ _ HB7.out, Nat.zero_add]; simpa using hj))
        | ((with_reducible refine wpList_storeN (.tmp 6) (.tmp 111) ?_ ?_ w.heap.size ?_ N none 0 0 ?_ ?_ ?_); (with_reducible rfl); rfl; rfl; rfl; exact ⟨_, _, HI.out.b6, rfl⟩))
      refine bodyPost_ret (v := .agg (cellsN N (.slice none 0 0))) (results_cell_row Try.results103 _ _ w.heap.size _ _ _ _ rfl (setRow_heap wr _ _ _ _ _ HI.out.b6) Try.underlying26 rfl sizeN) rfl ?_
      refine ⟨_, rfl, OwnK.none_ HN.out, ?_⟩
      exact ⟨HI.out.below.os, HI.out.below.tape, HI.out.below.output, by have := HI.out.below.size; simp; omega, fun q hq => (setRow_other wr _ q _ (by omega)).trans (HI.out.below.block q hq)⟩
end Go.Proofs.Ytcicfijpfhbcaaa
namespace Go.Proofs.Ytcicfijpfhbcaaa
set_option linter.unusedSimpArgs false
set_option linter.unusedVariables false
set_option linter.unusedSectionVars false
open Go.RowKit

/-- The node of an inner node behind n digits. -/
def innN (l : List E3) (first p : Int) (n : Nat) : RN := .mk (fun _ => 0) (orT (fun j => any0 (partE l first p j)) n) (orT (fun j => any1 (partE l first p j)) n) 0 (fun i => absurd i.2 (by omega))
structure InnI (l : List E3) (first p : Int) (kid : Nat → RN) (w wr : World) (n : Nat) (v : Value) (sk : Nat → Value) (T : Nat → Nat → Prop) : Prop where
  below : Below w.heap.size w wr
  b6 : wr.heap[w.heap.size]? = some (.cells (cellsN zeroN (.slice none 0 0)) 26 (0, 0))
  b7 : wr.heap[w.heap.size + 1]? = some (.cells (cellsN (innN l first p n) v) 26 (0, 0))
  size : w.heap.size + 2 ≤ wr.heap.size
  grow : GrowK (w.heap.size + 2) kid wr n v sk T
theorem InnI.keep {l : List E3} {first p : Int} {kid : Nat → RN} {w wr wz : World} {n : Nat} {v : Value} {sk : Nat → Value} {T : Nat → Nat → Prop} (h : InnI l first p kid w wr n v sk T) (hb : Below wr.heap.size wr wz) : InnI l first p kid w wz n v sk T :=
  ⟨h.below.trans (hb.mono h.below.size), (hb.block _ (lt_of_heap h.b6)).trans h.b6, (hb.block _ (lt_of_heap h.b7)).trans h.b7, Nat.le_trans h.size hb.size, h.grow.frame hb.size fun q _ hq => hb.block q hq⟩
theorem inn_set {l : List E3} {first p : Int} {n : Nat} {s : Value} :
    ((cellsN (innN l first p n) s).setIfInBounds 8 (.int .i64 (innN l first p (n + 1)).t0)).setIfInBounds 9 (.int .i64 (innN l first p (n + 1)).t1) = cellsN (innN l first p (n + 1)) s := rfl
theorem infoN_parts : ∃ i0, Try.prog.info? 26 = some i0 ∧ i0.zero = some (.agg zeroCells) ∧ i0.size = 11 ∧ i0.bytes = 104 := info_parts infoN

set_option maxRecDepth 100000 in
set_option maxHeartbeats 1000000 in
theorem r_node_step (m : Nat) (hm9 : m ≤ 8) (v : Value) (l : List E3) (base p : Nat) (hp : 8 ^ (m + 1) = p) (first : Int) (w : World) (h : OwnE w base l v) (hin : InE l first p) (hne : l ≠ []) (f0 : 0 ≤ first) (f1 : first + 8 * (p : Int) ≤ 1073741824)
    (IH : ∀ (v : Value) (l : List E3) (base : Nat) (f : Int) (w : World), OwnE w base l v → InE l f (8 ^ m) → 0 ≤ f → f + p ≤ 1073741824 → Calls Try.prog 103 #[v, .int .i64 ((m : Int) + 1), .int .i64 f] w (ClonePost (nodeP m l f) w)) :
    Calls Try.prog 103 #[v, .int .i64 ((m : Int) + 2), .int .i64 first] w (ClonePost (nodeP (m + 1) l first) w) := by
  obtain ⟨i0, hi0, hz0, hz1, hz2⟩ := infoN_parts
  obtain ⟨A, cap, rfl, hc1, hc2⟩ := h.slice
  have HL := Lib.hid h
  have HIN := Lib.hid hin
  have HIH := Lib.hid IH
  have hlen := hin.len
  have hl0 : ¬ (l.length : Int) = 0 := by
    intro e
    exact hne (List.length_eq_zero_iff.1 (by omega))
  have hpp : (8 : Int) ^ (m + 1) = p := by rw [← hp]; push_cast; rfl
  have hp0 : 0 < p := by rw [← hp]; exact pow8_pos _
  have hp8 : (p : Int) = 8 * 8 ^ m := by rw [← hpp, Int.pow_succ, Int.mul_comm]
  have hNN : nodeP (m + 1) l first = .mk (fun _ => 0) (bsum fun i => any0 (partE l first p i)) (bsum fun i => any1 (partE l first p i)) 8 (fun i => nodeP m (partE l first p i.1) (first + (i.1 : Int) * p)) := by rw [nodeP_inner m hne, hpp]
  have HSP : Hid (∀ W, Calls Try.prog 102 #[.int .i64 ((m : Int) + 1)] W fun e w' => e = .returned (.int .i64 (p : Int)) ∧ W = w') := fun W => by
    have := r_span (m + 1) (by omega) W
    rw [hp] at this
    push_cast at this; exact this
  have HP8 := Lib.hid hp8
  have hm21 : (m : Int) + 2 - 1 = (m : Int) + 1 := by omega
  have hm8 : (m : Int) ≤ 8 := by omega
  clear h hin hne IH hp hpp hp8
  obtain ⟨N, hN⟩ : ∃ N, nodeP (m + 1) l first = N := ⟨_, rfl⟩
  rw [hN] at hNN ⊢
  have HNn : Hid (N.n = 8) := by rw [hNN]; rfl
  have HNk : Hid (∀ i, i < 8 → N.kid i = nodeP m (partE l first p i) (first + (i : Int) * p)) := fun i hi => by rw [hNN, RN.kid_mk _ _ _ _ _ i hi]
  have HNc : Hid (∀ s, cellsN (innN l first p 8) s = cellsN N s) := fun s => by
    rw [hNN]
    exact cellsN_ext (fun _ _ => rfl) (orT_8 _) (orT_8 _)
  clear hN hNN
  go_enter Try.func103, Try.ntmps103
  go_wp2_with (go_at_call 102; (with_reducible refine (HSP.out _).mono ?_); rintro e W' ⟨rfl, rfl⟩)
  go_loopw [9] (fun i wr => ∃ n v sk T, n ≤ 8 ∧ i = .int .i64 ((n : Nat) : Int) ∧ InnI l first p N.kid w wr n v sk T) (fun i _ => 8 - (intOf i).toNat)
  case atStart => exact ⟨0, .slice none 0 0, _, _, by omega, rfl, by (repeat' (first | (with_reducible exact Below.refl _ _) | (with_reducible assumption) | (with_reducible refine below_plus ?_ ?_ _) | (with_reducible refine Below.alloc ?_ ?_ _) | (with_reducible refine Below.drew ?_) | (with_reducible refine below_drewN ?_ _) | (with_reducible refine Below.setCell ?_ ?_ _) | (first | omega | (simp only [World.size_alloc, size_plus, World.size_drew, World.size_setCell] <;> omega) | (simp <;> omega)) | omega | (simp; omega))), (heap_alloc_old _ _ (by simp)).trans (heap_alloc_here _ _ _ rfl), heap_alloc_here _ _ _ (by simp), by simp, GrowK.start _ _ _⟩
  case round =>
    obtain ⟨n, vv, sk, T, hn, rfl, hI⟩ := hrel
    rcases Nat.lt_or_ge n 8 with hlt | hge
    · have HI := Lib.hid hI
      have hn8 : decide ((n : Int) < 8) = true := by simp; omega
      clear hI
      go_wp2_with fail
      go_loopw [10, 11] (fun pv k wz => ∃ q : Nat, q ≤ l.length ∧ k = .int .i64 q ∧ OwnE wz wr.heap.size (partE (l.take q) first p n) pv ∧ Below wr.heap.size wr wz) (fun _ k _ => l.length - (intOf k).toNat)
      case atStart => exact ⟨0, by omega, rfl, OwnE.nil _ _, Below.refl _ _⟩
      case round =>
        obtain ⟨q, hm, rfl, hown, hbl⟩ := hrel
        rcases Nat.lt_or_ge q l.length with hlm | hgm
        · have hg : l[q]? = some l[q] := List.getElem?_eq_getElem hlm
          have hbw := HI.out.below.trans (hbl.mono HI.out.below.size)
          obtain ⟨g, cap', hs, -, hgw, c0, c1, c2⟩ := (HL.out.below hbw).at hg
          injection hs with e1 e2 e3
          subst e1 e3
          have hmem := List.getElem_mem hlm
          have q0 := HIN.out.lo _ hmem
          have q1 := HIN.out.hi _ hmem
          have hst := Lib.hid (part_take (first := first) (p := p) (n := n) hg)
          have HOWN := Lib.hid hown
          have HBL := Lib.hid hbl
          have hszq := hbl.size
          have hll : (partE (l.take q) first p n).length ≤ 1073741824 := Nat.le_trans (List.length_filter_le _ _) (by rw [List.length_take]; omega)
          clear e2 hown hbl hbw hg hmem
          generalize l[q] = e at *
          by_cases hq : (e.1 - first) / (p : Int) = n
          · rw [Hid, if_pos hq] at hst
            have hst := Lib.hid hst
            have hq' : ((e.1 - first) / (p : Int) == (n : Int)) = true := by simp [hq]
            clear hq
            go_wp2_with ((with_reducible refine wpList_appendE' ?_ (.tmp 42) (.tmp 47) ?_ _ _ _ ?_ HOWN.out e _ ?_ hszq hll ?_); rfl; (with_reducible rfl); rfl; rfl; (intro v' w' hap); have HA := Lib.hid hap; clear hap)
            exact ⟨⟨q + 1, by omega, by go_num, by rw [hst.out]; exact HA.out.own, HBL.out.trans HA.out.below⟩, by simp [intOf]; omega⟩
          · rw [Hid, if_neg hq, List.append_nil] at hst
            have hst := Lib.hid hst
            have hq' : ((e.1 - first) / (p : Int) == (n : Int)) = false := by simp [hq]
            clear hq
            go_wp2_with fail
            exact ⟨⟨q + 1, by omega, by go_num, by rw [hst.out]; exact HOWN.out, HBL.out⟩, by simp [intOf]; omega⟩
        · obtain rfl : q = l.length := by omega
          rw [List.take_length] at hown
          have hfour : ∀ e ∈ partE l first p n, four e.2.2 := fun e he => HIN.out.tg e (List.mem_filter.1 he).1
          have hme := msk_end hfour
          have hst0 := orT_step (fun j => any0 (partE l first p j)) hlt
          have hst1 := orT_step (fun j => any1 (partE l first p j)) hlt
          obtain ⟨A10, cap10, rfl, h10, h11⟩ := hown.slice
          have hpl : (partE l first p n).length ≤ 1073741824 := Nat.le_trans (List.length_filter_le _ _) (by omega)
          have HP := Lib.hid hown
          have HLI := Lib.hid (HI.out.keep hbl)
          clear hown hbl
          have HINP : Hid (InE (partE l first p n) (first + (n : Int) * p) (8 ^ m)) := by
            have key : ∀ e ∈ partE l first p n, first + (n : Int) * p ≤ e.1 ∧ e.1 < first + (n : Int) * p + 8 * 8 ^ m := fun e he => by
              have hd : (e.1 - first) / (p : Int) = n := by simpa using (List.mem_filter.1 he).2
              have hmod := Int.emod_nonneg (e.1 - first) (b := (p : Int)) (by omega)
              have hmod2 := Int.emod_lt_of_pos (e.1 - first) (b := (p : Int)) (by omega)
              have hdm := Int.mul_ediv_add_emod (e.1 - first) p
              rw [hd, Int.mul_comm] at hdm
              rw [← HP8.out]
              omega
            exact ⟨fun e he => (key e he).1, fun e he => (key e he).2, hfour, hpl⟩
          obtain ⟨T0, hT0⟩ : ∃ T, (innN l first p n).t0 = T := ⟨_, rfl⟩
          obtain ⟨T1, hT1⟩ : ∃ T, (innN l first p n).t1 = T := ⟨_, rfl⟩
          obtain ⟨U0, hU0⟩ : ∃ T, (innN l first p (n + 1)).t0 = T := ⟨_, rfl⟩
          obtain ⟨U1, hU1⟩ : ∃ T, (innN l first p (n + 1)).t1 = T := ⟨_, rfl⟩
          have HS0 : Hid (((cellsN (innN l first p n) vv).setIfInBounds 8 (.int .i64 U0)).setIfInBounds 9 (.int .i64 U1) = cellsN (innN l first p (n + 1)) vv) := by
            rw [← hU0, ← hU1]; exact inn_set
          have c8 : wr.cell? ⟨w.heap.size + 1, 8, none⟩ = some (.int .i64 T0) := by rw [cell_of_row _ _ _ _ _ _ HLI.out.b7, ← hT0]; rfl
          have c9 : wr.cell? ⟨w.heap.size + 1, 9, none⟩ = some (.int .i64 T1) := by rw [cell_of_row _ _ _ _ _ _ HLI.out.b7, ← hT1]; rfl
          have f8 := frozen_of_row wr _ 8 _ _ HLI.out.b7
          have f9 := frozen_of_row wr _ 9 _ _ HLI.out.b7
          have hgl := lt_of_heap HLI.out.b7
          have hst0' : bits .or .i64 T0 (wrap64 ((if any0 (partE l first p n) then 1 else 0) * 2 ^ n)) = U0 := by rw [← hT0, ← hU0]; exact hst0
          have hst1' : bits .or .i64 T1 (wrap64 ((if any1 (partE l first p n) then 1 else 0) * 2 ^ n)) = U1 := by rw [← hT1, ← hU1]; exact hst1
          have HNK := Lib.hid (HNk.out n hlt)
          clear hst0 hst1 hT0 hT1 hU0 hU1
          generalize partE l first p n = P at *
          have hplm : (P.length : Int) ≤ 1073741824 := by omega
          obtain ⟨B0, hB0⟩ : ∃ B : Int, (if any0 P then 1 else 0) = B := ⟨_, rfl⟩
          obtain ⟨B1, hB1⟩ : ∃ B : Int, (if any1 P then 1 else 0) = B := ⟨_, rfl⟩
          have hB0' : 0 ≤ B0 ∧ B0 ≤ 1 := by rw [← hB0]; split <;> omega
          have hB1' : 0 ≤ B1 ∧ B1 ≤ 1 := by rw [← hB1]; split <;> omega
          rw [hB0] at hme hst0'
          rw [hB1] at hme hst1'
          have HME := Lib.hid hme
          have HST0 := Lib.hid hst0'
          have HST1 := Lib.hid hst1'
          clear hme hst0' hst1' hB0 hB1 hfour
          go_wp2_with fail
          go_loop [12, 13] (fun msk k => ∃ j : Nat, j ≤ P.length ∧ k = .int .i64 j ∧ msk = .int .i64 (mskE P j)) (fun _ k => P.length - (intOf k).toNat)
          case atStart => exact ⟨0, by omega, rfl, rfl⟩
          case round =>
            obtain ⟨j, hj, rfl, rfl⟩ := hrel
            rcases Nat.lt_or_ge j P.length with hlj | hgj
            · have hg : P[j]? = some P[j] := List.getElem?_eq_getElem hlj
              obtain ⟨g, cap', hs, -, hgw, -, -, c2⟩ := HP.out.at hg
              injection hs with e1 e2 e3
              subst e1 e3
              have hst := Lib.hid (mskE_succ hg)
              clear e2 hg
              generalize P[j] = e at *
              generalize mskE P j = M at *
              go_wp2_with fail
              exact ⟨⟨j + 1, by omega, by go_num, by rw [hst.out]⟩, by simp [intOf]; omega⟩
            · obtain rfl : j = P.length := by omega
              obtain ⟨hm4, hm0, hm1⟩ := HME.out
              have hst0' := HST0.out
              have hst1' := HST1.out
              generalize mskE P P.length = M at *
              obtain ⟨m0, m3⟩ := hm4
              go_upto_region 22 with fail
              generalize hV : World.setCell (World.setCell wr _ _) _ _ = V
              have hVs : V.heap.size = wr.heap.size := by rw [← hV]; simp
              have hVb : V.heap[w.heap.size + 1]? = some (.cells (cellsN (innN l first p (n + 1)) vv) 26 (0, 0)) := by rw [← hV, ← HS0.out]; exact heap_setCell_same _ _ 9 _ _ _ (heap_setCell_same wr _ 8 _ _ _ HLI.out.b7)
              have hVo : ∀ q, q ≠ w.heap.size + 1 → V.heap[q]? = wr.heap[q]? := fun q hq => by rw [← hV, heap_setCell_other _ _ q _ hq, heap_setCell_other _ _ q _ hq]
              have hVe : V.os = wr.os ∧ V.tape = wr.tape ∧ V.output = wr.output := by rw [← hV]; exact ⟨rfl, rfl, rfl⟩
              clear hV c8 c9 f8 f9 hst0' hst1' hm0 hm1 m0 m3
              have hsz := HLI.out.size
              have hGV := Lib.hid (HLI.out.grow.frame (W := V) (by omega) fun q hq _ => hVo q (by omega))
              have hPV := Lib.hid (HP.out.keep (w' := V) fun q hq _ => hVo q (by have := HP.out.base_ q hq; have := HI.out.size; omega))
              have cV : V.cell? ⟨w.heap.size + 1, 10, none⟩ = some vv := by rw [cell_of_row _ _ _ _ _ _ hVb]; rfl
              have HVB := Lib.hid hVb
              have HVO := Lib.hid hVo
              have HVE := Lib.hid hVe
              clear hVb hVo hVe
              have hkp : (n : Int) * p ≤ 7 * p := Int.mul_le_mul_of_nonneg_right (by omega) (by omega)
              have hkp0 : 0 ≤ (n : Int) * p := Int.mul_nonneg (by omega) (by omega)
              have hS : True ∧ V.drew.cell? ⟨w.heap.size + 1, 10, none⟩ = some vv := ⟨trivial, cV⟩
              refine wp_region_G (fun W => True ∧ W.cell? ⟨w.heap.size + 1, 10, none⟩ = some vv) [14] (by kernel_rfl) ?_
              refine wpAnyG_take (i := 0) (v := .pointer (some ⟨w.heap.size + 1, 10, none⟩)) rfl (by kernel_rfl) (by kernel_rfl) (by kernel_rfl) (by kernel_rfl) (by kernel_rfl) (fun _ _ _ h => h) (Or.inl ⟨by rfl, ?_⟩) hS ?_
              · intro W hW
                have hc := hW.2
                clear hW hS
                go_simp
                all_goals (try (rw [IntKind.wrap_i64]; omega))
              try simp only [Act.put, List.setIfInBounds_toArray, List.set_cons_zero, List.set_cons_succ]
              refine wpAnyG_take (i := 1) (v := vv) rfl (by kernel_rfl) (by kernel_rfl) (by kernel_rfl) (by kernel_rfl) (by kernel_rfl) (fun _ _ _ h => h) (Or.inl ⟨by rfl, ?_⟩) hS ?_
              · intro W hW
                have hc := hW.2
                clear hW hS
                go_simp
                all_goals (try (rw [IntKind.wrap_i64]; omega))
              try simp only [Act.put, List.setIfInBounds_toArray, List.set_cons_zero, List.set_cons_succ]
              refine wpAnyG_take (i := 2) (v := .slice A10 P.length cap10) rfl (by kernel_rfl) (by kernel_rfl) (by kernel_rfl) (by kernel_rfl) (by kernel_rfl) (fun _ _ _ h => h) (Or.inl ⟨by rfl, ?_⟩) hS ?_
              · intro W hW
                have hc := hW.2
                clear hW hS
                go_simp
                all_goals (try (rw [IntKind.wrap_i64]; omega))
              try simp only [Act.put, List.setIfInBounds_toArray, List.set_cons_zero, List.set_cons_succ]
              refine wpAnyG_take (i := 3) (v := .int .i64 ((m : Int) + 2)) rfl (by kernel_rfl) (by kernel_rfl) (by kernel_rfl) (by kernel_rfl) (by kernel_rfl) (fun _ _ _ h => h) (Or.inl ⟨by rfl, ?_⟩) hS ?_
              · intro W hW
                have hc := hW.2
                clear hW hS
                go_simp
                all_goals (try (rw [IntKind.wrap_i64]; omega))
              try simp only [Act.put, List.setIfInBounds_toArray, List.set_cons_zero, List.set_cons_succ]
              refine wpAnyG_take (i := 4) (v := .int .i64 ((m : Int) + 1)) rfl (by kernel_rfl) (by kernel_rfl) (by kernel_rfl) (by kernel_rfl) (by kernel_rfl) (fun _ _ _ h => h) (Or.inl ⟨by rfl, ?_⟩) hS ?_
              · intro W hW
                have hc := hW.2
                clear hW hS
                go_simp
                all_goals (try (rw [IntKind.wrap_i64]; omega))
              try simp only [Act.put, List.setIfInBounds_toArray, List.set_cons_zero, List.set_cons_succ]
              refine wpAnyG_take (i := 5) (v := .int .i64 first) rfl (by kernel_rfl) (by kernel_rfl) (by kernel_rfl) (by kernel_rfl) (by kernel_rfl) (fun _ _ _ h => h) (Or.inl ⟨by rfl, ?_⟩) hS ?_
              · intro W hW
                have hc := hW.2
                clear hW hS
                go_simp
                all_goals (try (rw [IntKind.wrap_i64]; omega))
              try simp only [Act.put, List.setIfInBounds_toArray, List.set_cons_zero, List.set_cons_succ]
              refine wpAnyG_take (i := 6) (v := .int .i64 n) rfl (by kernel_rfl) (by kernel_rfl) (by kernel_rfl) (by kernel_rfl) (by kernel_rfl) (fun _ _ _ h => h) (Or.inl ⟨by rfl, ?_⟩) hS ?_
              · intro W hW
                have hc := hW.2
                clear hW hS
                go_simp
                all_goals (try (rw [IntKind.wrap_i64]; omega))
              try simp only [Act.put, List.setIfInBounds_toArray, List.set_cons_zero, List.set_cons_succ]
              refine wpAnyG_take (i := 7) (v := .int .i64 p) rfl (by kernel_rfl) (by kernel_rfl) (by kernel_rfl) (by kernel_rfl) (by kernel_rfl) (fun _ _ _ h => h) (Or.inl ⟨by rfl, ?_⟩) hS ?_
              · intro W hW
                have hc := hW.2
                clear hW hS
                go_simp
                all_goals (try (rw [IntKind.wrap_i64]; omega))
              try simp only [Act.put, List.setIfInBounds_toArray, List.set_cons_zero, List.set_cons_succ]
              refine wpAnyG_take (i := 8) (v := .int .i64 ((n : Int) * p)) rfl (by kernel_rfl) (by kernel_rfl) (by kernel_rfl) (by kernel_rfl) (by kernel_rfl) (fun _ _ _ h => h) (Or.inl ⟨by rfl, ?_⟩) hS ?_
              · intro W hW
                have hc := hW.2
                clear hW hS
                go_simp
                all_goals (try (rw [IntKind.wrap_i64]; omega))
              try simp only [Act.put, List.setIfInBounds_toArray, List.set_cons_zero, List.set_cons_succ]
              refine wpAnyG_take (i := 9) (v := .int .i64 (first + (n : Int) * p)) rfl (by kernel_rfl) (by kernel_rfl) (by kernel_rfl) (by kernel_rfl) (by kernel_rfl) (fun _ _ _ h => h) (Or.inl ⟨by rfl, ?_⟩) hS ?_
              · intro W hW
                have hc := hW.2
                clear hW hS
                go_simp
                all_goals (try (rw [IntKind.wrap_i64]; omega))
              try simp only [Act.put, List.setIfInBounds_toArray, List.set_cons_zero, List.set_cons_succ]
              refine wpAnyG_one (i := 10) (by kernel_rfl) rfl (fun K' hK => ?_)
              have HKK := Lib.hid hK
              clear hK
              go_simp
              refine (HIH.out _ P _ (first + (n : Int) * p) V.drew (hPV.out.keep (w' := V.drew) fun _ _ _ => rfl) HINP.out (by omega) (by omega)).mono ?_
              rintro e W1 ⟨s1, rfl, hown1, hbw1⟩
              rw [← HNK.out] at hown1 ⊢
              obtain ⟨A1, cap1, rfl, hs1, -⟩ := hown1.slice
              have hbw : Below wr.heap.size V W1 := ((Below.refl V.heap.size V).drew.trans hbw1).mono (by omega)
              have hS : True ∧ W1.cell? ⟨w.heap.size + 1, 10, none⟩ = some vv := ⟨trivial, by rw [World.cell?_of_block (a := ⟨w.heap.size + 1, 10, none⟩) (hbw.block (w.heap.size + 1) (by omega))]; exact cV⟩
              have hz1' : wr.heap.size ≤ W1.heap.size := by have := hbw.size; omega
              have HO1 := Lib.hid hown1
              have HBW := Lib.hid hbw
              clear hown1 hbw hbw1
              refine HKK.out _ _ (fun _ _ => hS) ?_
              clear HKK K'
              try simp only [Act.put, List.setIfInBounds_toArray, List.set_cons_zero, List.set_cons_succ]
              refine wpAnyG_one (i := 11) (by kernel_rfl) rfl (fun K' hK => ?_)
              have HKK := Lib.hid hK
              clear hK
              go_simp
              have hS2 : True ∧ (W1.alloc (.cells (cellsN (N.kid n) (.slice A1 (N.kid n).n cap1)) 26)).cell? ⟨w.heap.size + 1, 10, none⟩ = some vv := ⟨trivial, by rw [World.cell?_alloc_lt _ _ _ (by show w.heap.size + 1 < _; omega)]; exact hS.2⟩
              refine HKK.out _ _ (fun _ _ => hS2) ?_
              clear HKK K' hS
              try simp only [Act.put, List.setIfInBounds_toArray, List.set_cons_zero, List.set_cons_succ]
              refine wpAnyG_one (i := 12) (by kernel_rfl) rfl (fun K' hK => ?_)
              have hvb : ∀ q, vv.ownBlock = some q → w.heap.size + 2 ≤ q ∧ q < wr.heap.size := fun q hq => by have := hGV.out.ownIn hq; omega
              have hW1 : ∀ q, q < wr.heap.size → W1.heap[q]? = V.heap[q]? := fun q hq => HBW.out.block q hq
              have hown2 : (W1.alloc (.cells (cellsN (N.kid n) (.slice A1 (N.kid n).n cap1)) 26)).ownsRow (w.heap.size + 2) 26 11 vv n (flat (fun i => cellsN (N.kid i) (sk i)) n) := by
                refine ⟨hGV.out.own.1, ?_⟩
                rcases hGV.out.own.2 with h1 | ⟨q, cap', cur, h1, h2, h3, h4⟩
                · exact .inl h1
                · have hq := (hvb q (by rw [h1]; rfl)).2
                  exact .inr ⟨q, cap', cur, h1, h2, by rw [Below.heap_alloc _ _ _ (by omega), hW1 q hq]; exact h3, h4⟩
              refine step_append_lies _ rfl (.tmp 88) (.tmp 98) _ rfl (w.heap.size + 2) 26 i0 _ 11 104 Try.underlying24 hi0 hz0 hz1 hz2 rfl (by omega) vv n _ rfl hown2
                ⟨W1.heap.size, 0, none⟩ 1 1 (cellsN (N.kid n) (.slice A1 (N.kid n).n cap1)).toList rfl rfl (World.news_of_block (heap_alloc_new W1 _)) (by simp [cellsN, Value.oneCell'])
                (by omega) (by unfold maxLen; omega) (by omega) (by simp; omega) (W1.heap.size + 1) (by simp) ?_
              intro g2 cap3 W2 hown3 hgrow hat hlt2
              have hold : ∀ q, q < W1.heap.size + 1 → vv.ownBlock ≠ some q → W2.heap[q]? = (W1.alloc (.cells (cellsN (N.kid n) (.slice A1 (N.kid n).n cap1)) 26)).heap[q]? := fun q hq hn => hgrow.block q (by simpa using hq) (fun e => hn e.symm)
              have hv2 : vv.ownBlock ≠ some (w.heap.size + 1) := fun e => by have := hvb _ e; omega
              have hB7' : W2.heap[w.heap.size + 1]? = some (.cells (cellsN (innN l first p (n + 1)) vv) 26 (0, 0)) := by
                rw [hold _ (by omega) hv2, Below.heap_alloc _ _ _ (by omega), hW1 _ (by omega)]; exact HVB.out
              have hS3 : True ∧ W2.cell? ⟨w.heap.size + 1, 10, none⟩ = some vv := ⟨trivial, by rw [cell_of_row _ _ _ _ _ _ hB7']; rfl⟩
              refine hK _ _ (fun _ _ => hS3) ?_
              clear hK K' hS2
              try simp only [Act.put, List.setIfInBounds_toArray, List.set_cons_zero, List.set_cons_succ]
              have hc10 := hS3.2
              have hf10 : W2.frozen? ⟨w.heap.size + 1, 10, none⟩ = false := frozen_of_row W2 _ 10 _ _ hB7'
              have hF : Hid (InnI l first p N.kid w (W2.setCell ⟨w.heap.size + 1, 10, none⟩ (.slice (some ⟨g2, 0, none⟩) (n + 1) cap3)) (n + 1) (.slice (some ⟨g2, 0, none⟩) (n + 1) cap3) (fun i => if i = n then .slice A1 (N.kid n).n cap1 else sk i) (fun i => if i = n then (fun b => V.heap.size ≤ b ∧ b < W1.heap.size) else T i)) := by
                have hset : ∀ q, q ≠ w.heap.size + 1 → (W2.setCell ⟨w.heap.size + 1, 10, none⟩ (.slice (some ⟨g2, 0, none⟩) (n + 1) cap3)).heap[q]? = W2.heap[q]? := fun q hq => heap_setCell_other W2 _ q _ hq
                have hlow : ∀ q, q < wr.heap.size → q ≠ w.heap.size + 1 → vv.ownBlock ≠ some q → (W2.setCell ⟨w.heap.size + 1, 10, none⟩ (.slice (some ⟨g2, 0, none⟩) (n + 1) cap3)).heap[q]? = wr.heap[q]? := fun q hq h1 h2 => by
                  rw [hset q h1, hold q (by omega) h2, Below.heap_alloc _ _ _ (by omega), hW1 q hq, HVO.out q h1]
                have hgs := hgrow.size
                have hgs' : W1.heap.size + 1 ≤ W2.heap.size := by simpa using hgs
                refine ⟨⟨?_, ?_, ?_, ?_, fun k hk => ?_⟩, ?_, ?_, ?_, ?_⟩
                · exact hgrow.os.trans (HBW.out.os.trans (HVE.out.1.trans HLI.out.below.os))
                · exact hgrow.tape.trans (HBW.out.tape.trans (HVE.out.2.1.trans HLI.out.below.tape))
                · exact hgrow.output.trans (HBW.out.output.trans (HVE.out.2.2.trans HLI.out.below.output))
                · simp; omega
                · exact (hlow k (by omega) (by omega) (fun e => by have := hvb _ e; omega)).trans (HLI.out.below.block k hk)
                · exact (hlow _ (by omega) (by omega) (fun e => by have := hvb _ e; omega)).trans HLI.out.b6
                · exact (heap_setCell_same W2 _ 10 _ _ _ hB7').trans rfl
                · simp; omega
                · refine GrowK.frame (hGV.out.step (W := W1.alloc (.cells (cellsN (N.kid n) (.slice A1 (N.kid n).n cap1)) 26)) (H := W1.heap.size) (by omega) (by simp) (by omega) (fun q _ hq => ?_) ?_ hgrow hown3 (hat.imp id fun e => by rw [e]; simp)) (by simp) fun q h1 _ => hset q (by omega)
                  · rw [Below.heap_alloc _ _ _ (by omega)]; exact hW1 q (by omega)
                  · exact (OwnK.frame _ HO1.out fun b _ hl => Below.heap_alloc _ _ _ hl).mono fun b hb => by simpa using hb
              have hn1 : n + 1 ≤ 8 := by omega
              have hS := hS3
              clear hold hB7' hS3 hown2 hown3 hat hgrow hW1 hvb hlt2
              refine wpAnyG_take (i := 13) (v := .pointer (some ⟨w.heap.size + 1, 10, none⟩)) rfl (by kernel_rfl) (by kernel_rfl) (by kernel_rfl) (by kernel_rfl) (by kernel_rfl) (fun _ _ _ h => h) (Or.inl ⟨by rfl, ?_⟩) hS ?_
              · intro W hW
                have hc := hW.2
                clear hW hS
                go_simp
                all_goals (try (rw [IntKind.wrap_i64]; omega))
              try simp only [Act.put, List.setIfInBounds_toArray, List.set_cons_zero, List.set_cons_succ]
              clear hS
              refine wpAnyG_one (i := 14) (by kernel_rfl) rfl (fun K' hK => ?_)
              have HKK := Lib.hid hK
              clear hK
              go_simp
              refine HKK.out _ _ (fun h _ => absurd h (by decide)) (wpAnyG_done (by kernel_rfl) ?_ _)
              clear HKK K'
              go_wp2_with fail
              exact ⟨⟨n + 1, _, _, _, hn1, by go_num, hF.out⟩, by simp [intOf]; omega⟩
    · obtain rfl : n = 8 := by omega
      have hg : GrowK (w.heap.size + 2) N.kid wr N.n vv sk T := by rw [HNn.out]; exact hI.grow
      have hown := hg.own_
      obtain ⟨A2, cap2, hv2, -⟩ := hown.slice
      subst hv2
      have hb7 := hI.b7
      rw [HNc.out] at hb7
      have HB7 := Lib.hid hb7
      have HI := Lib.hid hI
      have HOW := Lib.hid hown
      clear hb7 hI hg hown
      go_wp2_with (first
        | ((with_reducible refine wpList_loadN (.tmp 7) ?_ ?_ (w.heap.size + 1) 0 ?_ N (.slice A2 N.n cap2) ?_ ?_); (with_reducible rfl); rfl; rfl; (intro j v hj; rw [cell_of_row wr _ _ _ _ _ HB7.out, Nat.zero_add]; simpa using hj))
        | ((with_reducible refine wpList_storeN (.tmp 6) (.tmp 111) ?_ ?_ w.heap.size ?_ N A2 N.n cap2 ?_ ?_ ?_); (with_reducible rfl); rfl; rfl; rfl; exact ⟨_, _, HI.out.b6, rfl⟩))
      refine bodyPost_ret (v := .agg (cellsN N (.slice A2 N.n cap2))) (results_cell_row Try.results103 _ _ w.heap.size _ _ _ _ rfl (setRow_heap wr _ _ _ _ _ HI.out.b6) Try.underlying26 rfl sizeN) rfl ?_
      have hoth : ∀ q, q ≠ w.heap.size → (wr.setRow w.heap.size (cellsN N (.slice A2 N.n cap2))).heap[q]? = wr.heap[q]? := fun q hq => setRow_other wr _ q _ hq
      refine ⟨_, rfl, (OwnK.frame N HOW.out fun b hb _ => hoth b (by omega)).mono fun b hb => ⟨by omega, by simp; omega⟩, ?_⟩
      exact ⟨HI.out.below.os, HI.out.below.tape, HI.out.below.output, by have := HI.out.below.size; simp; omega, fun q hq => (hoth q (by omega)).trans (HI.out.below.block q hq)⟩

/-- The reference's node of a list. -/
theorem r_node : ∀ (m : Nat), m ≤ 9 → ∀ (v : Value) (l : List E3) (base : Nat) (f : Int) (w : World), OwnE w base l v → InE l f (8 ^ m) → 0 ≤ f → f + 8 ^ (m + 1) ≤ 1073741824 → Calls Try.prog 103 #[v, .int .i64 ((m : Int) + 1), .int .i64 f] w (ClonePost (nodeP m l f) w)
  | m, hm, v, [], base, f, w, h, _, _, _ => by
    rw [nodeP_nil]
    exact r_node_nil v base _ f w h
  | 0, _, v, e :: r, base, f, w, h, hin, f0, f1 => r_node_leaf v (e :: r) base f w h hin (by simp) f0 (by simpa using f1)
  | m + 1, hm, v, e :: r, base, f, w, h, hin, f0, f1 => by
    have hpp : ((8 ^ (m + 1) : Nat) : Int) = 8 ^ (m + 1) := by push_cast; rfl
    rw [show ((m + 1 : Nat) : Int) + 1 = (m : Int) + 2 by omega]
    have e8 : (8 : Int) ^ (m + 1 + 1) = 8 * 8 ^ (m + 1) := by rw [Int.pow_succ, Int.mul_comm]
    refine r_node_step m (by omega) v (e :: r) base (8 ^ (m + 1)) rfl f w h (by rw [hpp]; exact hin) (by simp) f0 (by rw [hpp, ← e8]; exact f1) fun v l base f w h1 h2 h3 h4 => r_node m (by omega) v l base f w h1 h2 h3 (by rw [← hpp]; exact h4)
end Go.Proofs.Ytcicfijpfhbcaaa
