/-
  The reference's Check (filecache).
-/
import Derived.Test.YtcicfijpfhbcaaaFs
import Derived.Test.YtcicfijpfhbcaaaTm
import Derived.Test.YtcicfijpfhbcaaaCk
namespace Go.Proofs.Ytcicfijpfhbcaaa
set_option linter.unusedSimpArgs false
set_option linter.unusedVariables false
set_option linter.unusedSectionVars false
open Go.RowKit

theorem infoBo : (Try.prog.info? 4).map (fun i => (i.zero, i.size, i.bytes)) = some (some (.bool false), 1, 1) := by kernel_rfl
def seen0 : Array Value := madeCells #[.bool false] 257
theorem seen0_size : seen0.size = 257 := size_madeCells _ _
theorem seen0_at {j : Nat} (hj : j < 257) : seen0[j]? = some (.bool false) := by
  unfold seen0 madeCells
  rw [Array.getElem?_map, Array.getElem?_range, if_pos hj, Option.map_some]
  show some (#[Value.bool false][j % 1]!) = _
  rw [Nat.mod_one]; rfl
@[go_sem] theorem makeSeen (w : World) : (Instr.makeSlice 96 (.int .i64 257) (.int .i64 257)).run Try.prog w = .ok (.slice (some ⟨w.heap.size, 0, none⟩) 257 257) (w.alloc (.cells seen0 4)) := by
  obtain ⟨i0, hi0, hz0, hz1, hz2⟩ := info_parts infoBo
  have := run_make (P := Try.prog) w 96 4 i0 _ Try.underlying96 hi0 hz0 .i64 .i64 257 257 (by omega) (by omega) (by rw [hz2]; omega) (by omega)
  rw [this, hz1]
  rfl
/-- The frames that have been seen. -/
def SeenB (W : World) (q : Nat) (l : List Int) : Prop := ∃ cur, W.heap[q]? = some (.cells cur 4 (0, 0)) ∧ cur.size = 257 ∧ ∀ j : Nat, j < 257 → cur[j]? = some (.bool (decide (0 < j) && l.contains (j : Int)))
theorem SeenB.keep {W W' : World} {q : Nat} {l : List Int} (h : SeenB W q l) (hb : W'.heap[q]? = W.heap[q]?) : SeenB W' q l := by
  obtain ⟨cur, h1, h2⟩ := h
  exact ⟨cur, hb.trans h1, h2⟩
theorem contains_snoc (l : List Int) (v j : Int) : (l ++ [v]).contains j = (l.contains j || j == v) := by
  rw [List.contains_eq_any_beq, List.any_append, ← List.contains_eq_any_beq]; simp only [List.any_cons, List.any_nil, Bool.or_false]
theorem SeenB.skip {W : World} {q : Nat} {l : List Int} {v : Int} (h : SeenB W q l) (hv : ¬ 0 < v) : SeenB W q (l ++ [v]) := by
  obtain ⟨cur, h1, h2, h3⟩ := h
  refine ⟨cur, h1, h2, fun j hj => ?_⟩
  rw [h3 j hj, contains_snoc]
  by_cases h0 : 0 < j
  · have : ((j : Int) == v) = false := by simp; omega
    rw [this, Bool.or_false]
  · simp [h0]
theorem SeenB.put {W : World} {q n : Nat} {l : List Int} (h : SeenB W q l) (hn : 0 < n) (hn2 : n < 257) : SeenB (W.setCell ⟨q, n, none⟩ (.bool true)) q (l ++ [(n : Int)]) := by
  obtain ⟨cur, h1, h2, h3⟩ := h
  refine ⟨_, heap_setCell_same _ _ _ _ _ _ h1, by simp [h2], fun j hj => ?_⟩
  rw [contains_snoc]
  by_cases hjn : j = n
  · subst hjn
    rw [Array.getElem?_setIfInBounds_self_of_lt (by omega)]
    simp [hn]
  · rw [Array.getElem?_setIfInBounds_ne (by omega), h3 j hj]
    have : ((j : Int) == (n : Int)) = false := by simp; omega
    rw [this, Bool.or_false]

set_option maxRecDepth 100000 in
set_option maxHeartbeats 1000000 in
theorem d_Check (cs : Array Value) (ht : Int) (x : RN) (w : World) (hr : RdVals w cs 12 (encR ht x)) :
    Calls Try.prog 42 #[.agg cs] w fun e w' => e = .returned (.int .i64 (fcP ht x)) ∧ Below w.heap.size w w' := by
  obtain ⟨A, cap, rfl, hk⟩ := rdR_open hr
  have HR := Lib.hid hr
  clear hr hk
  by_cases hc : checkP ht x ≠ 0
  · have hf : Hid (fcP ht x = checkP ht x) := if_pos hc
    have hcb : (checkP ht x != 0) = true := by simp [hc]
    clear hc
    go_enter Try.func42, Try.ntmps42
    go_wp2_with (go_at_call 20; refine (r_Check _ ht x _ ?_).mono ?_; exact HR.out.keep (below_keeps (by (repeat' (first | (with_reducible exact Below.refl _ _) | (with_reducible assumption) | (with_reducible refine below_plus ?_ ?_ _) | (with_reducible refine Below.alloc ?_ ?_ _) | (with_reducible refine Below.drew ?_) | (with_reducible refine below_drewN ?_ _) | (with_reducible refine Below.setCell ?_ ?_ _) | (first | omega | (simp only [World.size_alloc, size_plus, World.size_drew, World.size_setCell] <;> omega) | (simp <;> omega)) | omega | (simp; omega))))); rintro e w' ⟨rfl, hb⟩; (first | (obtain ⟨X, rfl⟩ := plus_again hb) | (obtain ⟨X, rfl⟩ := plus_of_below hb)); clear hb)
    go_ret
    exact ⟨by rw [hf.out]; rfl, by (repeat' (first | (with_reducible exact Below.refl _ _) | (with_reducible assumption) | (with_reducible refine below_plus ?_ ?_ _) | (with_reducible refine Below.alloc ?_ ?_ _) | (with_reducible refine Below.drew ?_) | (with_reducible refine below_drewN ?_ _) | (with_reducible refine Below.setCell ?_ ?_ _) | (first | omega | (simp only [World.size_alloc, size_plus, World.size_drew, World.size_setCell] <;> omega) | (simp <;> omega)) | omega | (simp; omega)))⟩
  · have hcb : (checkP ht x != 0) = false := by simpa using hc
    have hf : Hid (fcP ht x = if (eachL ht x (-1)).any (badB ht x) then 3 else if dupL ((eachL ht x (-1)).map (getP ht x)) then 7 else 0) := if_neg hc
    clear hc
    have hlen := len_each ht x
    have HEA : Hid (∀ i ∈ eachL ht x (-1), 0 ≤ i ∧ i < 1073741824) := fun i hi => by have := each_at hi; exact ⟨this.1, this.2.1⟩
    have HLI : Hid (∀ cs W, RdVals W cs 12 (encR ht x) → Calls Try.prog 39 #[.agg cs] W fun e w' => ∃ v, e = .returned v ∧ OwnI w' W.heap.size (eachL ht x (-1)) v ∧ Below W.heap.size W w') := fun cs W h => by
      have := r_List cs ht x W h
      rwa [← each_list] at this
    have HGT : Hid (∀ i cs W, RdVals W cs 12 (encR ht x) → Calls Try.prog 27 #[.agg cs, .int .i64 i] W fun e w' => e = .returned (.int .i64 (getP ht x i)) ∧ Below W.heap.size W w') := fun i cs W h => by
      rw [get_ref]; exact r_Get cs ht x i W h
    have HTG : Hid (∀ i tag cs W, RdVals W cs 12 (encR ht x) → Calls Try.prog 35 #[.agg cs, .int .i64 i, .int .i64 tag] W fun e w' => e = .returned (.bool (taggedP ht x i tag)) ∧ Below W.heap.size W w') := fun i tag cs W h => by
      rw [tagged_ref]; exact r_Tagged cs ht x i tag W h
    generalize hLL : eachL ht x (-1) = L at *
    have hlenI : (L.length : Int) ≤ 1073741824 := by omega
    go_enter Try.func42, Try.ntmps42
    go_wp2_with (first
      | (go_at_call 20; refine (r_Check _ ht x _ ?_).mono ?_; exact HR.out.keep (below_keeps (by (repeat' (first | (with_reducible exact Below.refl _ _) | (with_reducible assumption) | (with_reducible refine below_plus ?_ ?_ _) | (with_reducible refine Below.alloc ?_ ?_ _) | (with_reducible refine Below.drew ?_) | (with_reducible refine below_drewN ?_ _) | (with_reducible refine Below.setCell ?_ ?_ _) | (first | omega | (simp only [World.size_alloc, size_plus, World.size_drew, World.size_setCell] <;> omega) | (simp <;> omega)) | omega | (simp; omega))))); rintro e w' ⟨rfl, hb⟩; (first | (obtain ⟨X, rfl⟩ := plus_again hb) | (obtain ⟨X, rfl⟩ := plus_of_below hb)); clear hb)
      | (go_at_call 39; (with_reducible refine (HLI.out _ _ ?_).mono ?_); exact HR.out.keep (below_keeps (by (repeat' (first | (with_reducible exact Below.refl _ _) | (with_reducible assumption) | (with_reducible refine below_plus ?_ ?_ _) | (with_reducible refine Below.alloc ?_ ?_ _) | (with_reducible refine Below.drew ?_) | (with_reducible refine below_drewN ?_ _) | (with_reducible refine Below.setCell ?_ ?_ _) | (first | omega | (simp only [World.size_alloc, size_plus, World.size_drew, World.size_setCell] <;> omega) | (simp <;> omega)) | omega | (simp; omega))))); rintro e V ⟨v, rfl, ho, hb⟩; (obtain ⟨A1, cap1, rfl, -, -⟩ := ho.slice); (have HBX := Lib.hid ((hb.block w.heap.size (by (first | omega | (simp only [World.size_alloc, size_plus, World.size_drew, World.size_setCell] <;> omega) | (simp <;> omega)))).trans (by (repeat' (first | (refine heap_alloc_here _ _ _ ?_; (first | omega | (simp only [World.size_alloc, size_plus, World.size_drew, World.size_setCell] <;> omega) | (simp <;> omega))) | (refine (heap_alloc_old _ _ _ ?_).trans ?_; (first | omega | (simp only [World.size_alloc, size_plus, World.size_drew, World.size_setCell] <;> omega) | (simp <;> omega))) | (refine (heap_plus _ _ _ ?_).trans ?_; (first | omega | (simp only [World.size_alloc, size_plus, World.size_drew, World.size_setCell] <;> omega) | (simp <;> omega))) | rfl))) : V.heap[w.heap.size]? = some (.cells (cellsR ht x (.slice A x.n cap)) 28 (0, 0)))); have HO := Lib.hid ho; (have HB := Lib.hid ((by (repeat' (first | (with_reducible exact Below.refl _ _) | (with_reducible assumption) | (with_reducible refine below_plus ?_ ?_ _) | (with_reducible refine Below.alloc ?_ ?_ _) | (with_reducible refine Below.drew ?_) | (with_reducible refine below_drewN ?_ _) | (with_reducible refine Below.setCell ?_ ?_ _) | (first | omega | (simp only [World.size_alloc, size_plus, World.size_drew, World.size_setCell] <;> omega) | (simp <;> omega)) | omega | (simp; omega))) : Below w.heap.size w _).trans (hb.mono (by (first | omega | (simp only [World.size_alloc, size_plus, World.size_drew, World.size_setCell] <;> omega) | (simp <;> omega)))))); clear ho hb))
    go_loopw [21] (fun i wr => ∃ k : Nat, k ≤ L.length ∧ i = .int .i64 k ∧ (∀ j ∈ L.take k, badB ht x j = false) ∧ Below V.heap.size V wr) (fun i _ => L.length - (intOf i).toNat)
    case atStart => exact ⟨0, by omega, rfl, by simp, Below.refl _ _⟩
    case round =>
      obtain ⟨k, hk, rfl, hgood, hbl⟩ := hrel
      have hbox : wr.heap[w.heap.size]? = some (.cells (cellsR ht x (.slice A x.n cap)) 28 (0, 0)) := (hbl.block _ (lt_of_heap HBX.out)).trans HBX.out
      by_cases hlt : k < L.length
      · have hlt' : (k : Int) < (L.length : Int) := by omega
        have hg : L[k]? = some L[k] := List.getElem?_eq_getElem hlt
        have hm : L[k] ∈ L := List.getElem_mem hlt
        obtain ⟨g, cap', hs, -, hgw, ci⟩ := (HO.out.below hbl).at hg
        injection hs with e1 e2 e3
        subst e1 e3
        have d12 := row12 hbox
        have hlB := lt_of_heap hbox
        have hst : L.take (k + 1) = L.take k ++ [L[k]] := by rw [List.take_add_one, hg]; rfl
        have hrng := HEA.out _ hm
        have HNEW : Hid (badB ht x L[k] = false → ∀ j ∈ L.take (k + 1), badB ht x j = false) := fun h j hj => by
          rw [hst] at hj
          exact (List.mem_append.1 hj).elim (hgood j) fun e => by simp at e; rw [e]; exact h
        have HANY : Hid (badB ht x L[k] = true → fcP ht x = 3) := fun h => by rw [hf.out, if_pos (List.any_eq_true.2 ⟨_, hm, h⟩)]
        have HRW : Hid (RdVals wr (cellsR ht x (.slice A x.n cap)) 12 (encR ht x)) := HR.out.keep (below_keeps (HB.out.trans (hbl.mono HB.out.size)))
        have HBL := Lib.hid hbl
        have HBAD : Hid (∀ i, badB ht x i = (decide (256 < getP ht x i) || (decide (getP ht x i < 0) && (taggedP ht x i 0 || taggedP ht x i 1)))) := fun i => rfl
        clear hgood hbl hbox hg hm hst e2
        generalize L[k] = i at *
        have hba := HBAD.out i
        have HGI := Lib.hid (HGT.out i)
        have HTI := Lib.hid (HTG.out i)
        generalize getP ht x i = v at *
        by_cases h256 : 256 < v
        · have hv3 : Hid (fcP ht x = 3) := HANY.out (by rw [hba]; simp [h256])
          clear hba
          go_wp2_with (first
            | (go_at_call 27; (with_reducible refine (HGI.out _ _ ?_).mono ?_); exact HRW.out.keep (below_keeps (by (repeat' (first | (with_reducible exact Below.refl _ _) | (with_reducible assumption) | (with_reducible refine below_plus ?_ ?_ _) | (with_reducible refine Below.alloc ?_ ?_ _) | (with_reducible refine Below.drew ?_) | (with_reducible refine below_drewN ?_ _) | (with_reducible refine Below.setCell ?_ ?_ _) | (first | omega | (simp only [World.size_alloc, size_plus, World.size_drew, World.size_setCell] <;> omega) | (simp <;> omega)) | omega | (simp; omega))))); rintro e w' ⟨rfl, hb⟩; (first | (obtain ⟨X, rfl⟩ := plus_again hb) | (obtain ⟨X, rfl⟩ := plus_of_below hb)); clear hb)
            | (rename_i h1 h2; exfalso; cases h1; done))
          go_ret
          exact ⟨by rw [hv3.out]; rfl, below_plus (HB.out.trans (HBL.out.mono HB.out.size)) (Nat.le_trans HB.out.size HBL.out.size) _⟩
        · by_cases h0 : v < 0
          · cases hy0 : taggedP ht x i 0
            · cases hy1 : taggedP ht x i 1
              · have hb0 : Hid (∀ j ∈ L.take (k + 1), badB ht x j = false) := HNEW.out (by rw [hba]; simp [h256, hy0, hy1])
                clear hba
                go_wp2_with (first | (go_at_call 27; (with_reducible refine (HGI.out _ _ ?_).mono ?_); exact HRW.out.keep (below_keeps (by (repeat' (first | (with_reducible exact Below.refl _ _) | (with_reducible assumption) | (with_reducible refine below_plus ?_ ?_ _) | (with_reducible refine Below.alloc ?_ ?_ _) | (with_reducible refine Below.drew ?_) | (with_reducible refine below_drewN ?_ _) | (with_reducible refine Below.setCell ?_ ?_ _) | (first | omega | (simp only [World.size_alloc, size_plus, World.size_drew, World.size_setCell] <;> omega) | (simp <;> omega)) | omega | (simp; omega))))); rintro e w' ⟨rfl, hb⟩; (first | (obtain ⟨X, rfl⟩ := plus_again hb) | (obtain ⟨X, rfl⟩ := plus_of_below hb)); clear hb) | (go_at_call 35; (with_reducible refine (HTI.out _ _ _ ?_).mono ?_); exact HRW.out.keep (below_keeps (by (repeat' (first | (with_reducible exact Below.refl _ _) | (with_reducible assumption) | (with_reducible refine below_plus ?_ ?_ _) | (with_reducible refine Below.alloc ?_ ?_ _) | (with_reducible refine Below.drew ?_) | (with_reducible refine below_drewN ?_ _) | (with_reducible refine Below.setCell ?_ ?_ _) | (first | omega | (simp only [World.size_alloc, size_plus, World.size_drew, World.size_setCell] <;> omega) | (simp <;> omega)) | omega | (simp; omega))))); rintro e w' ⟨rfl, hb⟩; (first | (obtain ⟨X, rfl⟩ := plus_again hb) | (obtain ⟨X, rfl⟩ := plus_of_below hb)); clear hb) | (rename_i h1 h2; exfalso; cases h1; done))
                exact ⟨⟨k + 1, by omega, by go_num, hb0.out, below_plus HBL.out HBL.out.size _⟩, by simp [intOf]; omega⟩
              · have hv3 : Hid (fcP ht x = 3) := HANY.out (by rw [hba]; simp [h0, hy1])
                clear hba
                go_wp2_with (first | (go_at_call 27; (with_reducible refine (HGI.out _ _ ?_).mono ?_); exact HRW.out.keep (below_keeps (by (repeat' (first | (with_reducible exact Below.refl _ _) | (with_reducible assumption) | (with_reducible refine below_plus ?_ ?_ _) | (with_reducible refine Below.alloc ?_ ?_ _) | (with_reducible refine Below.drew ?_) | (with_reducible refine below_drewN ?_ _) | (with_reducible refine Below.setCell ?_ ?_ _) | (first | omega | (simp only [World.size_alloc, size_plus, World.size_drew, World.size_setCell] <;> omega) | (simp <;> omega)) | omega | (simp; omega))))); rintro e w' ⟨rfl, hb⟩; (first | (obtain ⟨X, rfl⟩ := plus_again hb) | (obtain ⟨X, rfl⟩ := plus_of_below hb)); clear hb) | (go_at_call 35; (with_reducible refine (HTI.out _ _ _ ?_).mono ?_); exact HRW.out.keep (below_keeps (by (repeat' (first | (with_reducible exact Below.refl _ _) | (with_reducible assumption) | (with_reducible refine below_plus ?_ ?_ _) | (with_reducible refine Below.alloc ?_ ?_ _) | (with_reducible refine Below.drew ?_) | (with_reducible refine below_drewN ?_ _) | (with_reducible refine Below.setCell ?_ ?_ _) | (first | omega | (simp only [World.size_alloc, size_plus, World.size_drew, World.size_setCell] <;> omega) | (simp <;> omega)) | omega | (simp; omega))))); rintro e w' ⟨rfl, hb⟩; (first | (obtain ⟨X, rfl⟩ := plus_again hb) | (obtain ⟨X, rfl⟩ := plus_of_below hb)); clear hb) | (rename_i h1 h2; exfalso; cases h1; done))
                go_ret
                exact ⟨by rw [hv3.out]; rfl, below_plus (HB.out.trans (HBL.out.mono HB.out.size)) (Nat.le_trans HB.out.size HBL.out.size) _⟩
            · have hv3 : Hid (fcP ht x = 3) := HANY.out (by rw [hba]; simp [h0, hy0])
              clear hba
              go_wp2_with (first | (go_at_call 27; (with_reducible refine (HGI.out _ _ ?_).mono ?_); exact HRW.out.keep (below_keeps (by (repeat' (first | (with_reducible exact Below.refl _ _) | (with_reducible assumption) | (with_reducible refine below_plus ?_ ?_ _) | (with_reducible refine Below.alloc ?_ ?_ _) | (with_reducible refine Below.drew ?_) | (with_reducible refine below_drewN ?_ _) | (with_reducible refine Below.setCell ?_ ?_ _) | (first | omega | (simp only [World.size_alloc, size_plus, World.size_drew, World.size_setCell] <;> omega) | (simp <;> omega)) | omega | (simp; omega))))); rintro e w' ⟨rfl, hb⟩; (first | (obtain ⟨X, rfl⟩ := plus_again hb) | (obtain ⟨X, rfl⟩ := plus_of_below hb)); clear hb) | (go_at_call 35; (with_reducible refine (HTI.out _ _ _ ?_).mono ?_); exact HRW.out.keep (below_keeps (by (repeat' (first | (with_reducible exact Below.refl _ _) | (with_reducible assumption) | (with_reducible refine below_plus ?_ ?_ _) | (with_reducible refine Below.alloc ?_ ?_ _) | (with_reducible refine Below.drew ?_) | (with_reducible refine below_drewN ?_ _) | (with_reducible refine Below.setCell ?_ ?_ _) | (first | omega | (simp only [World.size_alloc, size_plus, World.size_drew, World.size_setCell] <;> omega) | (simp <;> omega)) | omega | (simp; omega))))); rintro e w' ⟨rfl, hb⟩; (first | (obtain ⟨X, rfl⟩ := plus_again hb) | (obtain ⟨X, rfl⟩ := plus_of_below hb)); clear hb) | (rename_i h1 h2; exfalso; cases h1; done))
              go_ret
              exact ⟨by rw [hv3.out]; rfl, below_plus (HB.out.trans (HBL.out.mono HB.out.size)) (Nat.le_trans HB.out.size HBL.out.size) _⟩
          · have hb0 : Hid (∀ j ∈ L.take (k + 1), badB ht x j = false) := HNEW.out (by rw [hba]; simp [h256, h0])
            clear hba
            go_wp2_with (first | (go_at_call 27; (with_reducible refine (HGI.out _ _ ?_).mono ?_); exact HRW.out.keep (below_keeps (by (repeat' (first | (with_reducible exact Below.refl _ _) | (with_reducible assumption) | (with_reducible refine below_plus ?_ ?_ _) | (with_reducible refine Below.alloc ?_ ?_ _) | (with_reducible refine Below.drew ?_) | (with_reducible refine below_drewN ?_ _) | (with_reducible refine Below.setCell ?_ ?_ _) | (first | omega | (simp only [World.size_alloc, size_plus, World.size_drew, World.size_setCell] <;> omega) | (simp <;> omega)) | omega | (simp; omega))))); rintro e w' ⟨rfl, hb⟩; (first | (obtain ⟨X, rfl⟩ := plus_again hb) | (obtain ⟨X, rfl⟩ := plus_of_below hb)); clear hb) | (go_at_call 35; (with_reducible refine (HTI.out _ _ _ ?_).mono ?_); exact HRW.out.keep (below_keeps (by (repeat' (first | (with_reducible exact Below.refl _ _) | (with_reducible assumption) | (with_reducible refine below_plus ?_ ?_ _) | (with_reducible refine Below.alloc ?_ ?_ _) | (with_reducible refine Below.drew ?_) | (with_reducible refine below_drewN ?_ _) | (with_reducible refine Below.setCell ?_ ?_ _) | (first | omega | (simp only [World.size_alloc, size_plus, World.size_drew, World.size_setCell] <;> omega) | (simp <;> omega)) | omega | (simp; omega))))); rintro e w' ⟨rfl, hb⟩; (first | (obtain ⟨X, rfl⟩ := plus_again hb) | (obtain ⟨X, rfl⟩ := plus_of_below hb)); clear hb) | (rename_i h1 h2; exfalso; cases h1; done))
            exact ⟨⟨k + 1, by omega, by go_num, hb0.out, below_plus HBL.out HBL.out.size _⟩, by simp [intOf]; omega⟩
      · obtain rfl : k = L.length := by omega
        rw [List.take_length] at hgood
        have hany : L.any (badB ht x) = false := any_no _ _ hgood
        have hf2 : Hid (fcP ht x = if dupL (L.map (getP ht x)) then 7 else 0) := by rw [Hid, hf.out, hany]; rfl
        have HLE : Hid (∀ i ∈ L, getP ht x i ≤ 256) := fun i hi => by
          have := hgood i hi
          unfold badB at this
          simp at this
          omega
        have HBL := Lib.hid hbl
        have HBX2 := Lib.hid hbox
        clear hgood hbl hbox hany hf
        go_wp2_with fail
        generalize hV2 : World.alloc wr _ = V2
        have hb2 : Below wr.heap.size wr V2 := by rw [← hV2]; exact below_alloc _ _
        have hz2 : V2.heap.size = wr.heap.size + 1 := by rw [← hV2]; exact World.size_alloc _ _
        have hs2 : SeenB V2 wr.heap.size [] := ⟨seen0, by rw [← hV2]; exact heap_alloc_new _ _, seen0_size, fun j hj => by rw [seen0_at hj]; simp⟩
        have HQ : Hid (w.heap.size < wr.heap.size ∧ V.heap.size ≤ wr.heap.size) := ⟨lt_of_heap HBX2.out, HBL.out.size⟩
        have HB2 := Lib.hid hb2
        have HZ2 := Lib.hid hz2
        have HBW : Hid (∀ W, Below wr.heap.size V2 W → Below w.heap.size w W) := fun W hW => (HB.out.trans (HBL.out.mono HB.out.size)).trans ((HB2.out.mono (Nat.le_of_lt HQ.out.1)).trans (hW.mono (Nat.le_of_lt HQ.out.1)))
        have HLW : Hid (∀ W, Below wr.heap.size V2 W → ∀ k i, L[k]? = some i → ∃ g, A1 = some ⟨g, 0, none⟩ ∧ g < W.heap.size ∧ W.cell? ⟨g, k, none⟩ = some (.int .i64 i)) := fun W hW k i hk => by
          have hBB : Below V.heap.size V W := HBL.out.trans ((HB2.out.mono HQ.out.2).trans (hW.mono HQ.out.2))
          obtain ⟨g, cap', hs, -, hgw, ci⟩ := (HO.out.below hBB).at hk
          injection hs with e1 e2 e3
          exact ⟨g, e1, hgw, ci⟩
        have HXW : Hid (∀ W, Below wr.heap.size V2 W → W.heap[w.heap.size]? = some (.cells (cellsR ht x (.slice A x.n cap)) 28 (0, 0))) := fun W hW => (hW.block _ HQ.out.1).trans ((HB2.out.block _ HQ.out.1).trans HBX2.out)
        clear hV2 hb2 hz2 HB HBL HBX2 HO HBX HTG
        generalize wr.heap.size = q at *
        go_loopw [48] (fun i wr => ∃ k : Nat, k ≤ L.length ∧ i = .int .i64 k ∧ dupL ((L.take k).map (getP ht x)) = false ∧ SeenB wr q ((L.take k).map (getP ht x)) ∧ Below q V2 wr) (fun i _ => L.length - (intOf i).toNat)
        case atStart => exact ⟨0, by omega, rfl, rfl, hs2, Below.refl _ _⟩
        case round =>
          obtain ⟨k, hk, rfl, hdup, hseen, hbl⟩ := hrel
          by_cases hlt : k < L.length
          · have hlt' : (k : Int) < (L.length : Int) := by omega
            have hg : L[k]? = some L[k] := List.getElem?_eq_getElem hlt
            have hm : L[k] ∈ L := List.getElem_mem hlt
            obtain ⟨g, rfl, hgw, ci⟩ := HLW.out _ hbl _ _ hg
            have hbox := HXW.out _ hbl
            have d12 := row12 hbox
            have hlB := lt_of_heap hbox
            have hrng := HEA.out _ hm
            have hle := HLE.out _ hm
            have hmap : (L.take (k + 1)).map (getP ht x) = (L.take k).map (getP ht x) ++ [getP ht x L[k]] := by rw [List.take_add_one, hg, List.map_append]; rfl
            have hdd : dupL ((L.take (k + 1)).map (getP ht x)) = (decide (0 < getP ht x L[k]) && ((L.take k).map (getP ht x)).contains (getP ht x L[k])) := by rw [hmap, dup_snoc, hdup, Bool.false_or]
            have H7 : Hid ((decide (0 < getP ht x L[k]) && ((L.take k).map (getP ht x)).contains (getP ht x L[k])) = true → fcP ht x = 7) := fun h => by
              rw [hf2.out, if_pos]
              have e : L.map (getP ht x) = (L.take (k + 1)).map (getP ht x) ++ (L.drop (k + 1)).map (getP ht x) := by rw [← List.map_append, List.take_append_drop]
              rw [e]
              exact dup_append _ _ (by rw [hdd]; exact h)
            have HRW : Hid (RdVals wr (cellsR ht x (.slice A x.n cap)) 12 (encR ht x)) := HR.out.keep (below_keeps (HBW.out _ hbl))
            have HMAP := Lib.hid hmap
            have HDD := Lib.hid hdd
            have HSEEN := Lib.hid hseen
            have HBL := Lib.hid hbl
            obtain ⟨cur, hq1, hq2, hq3⟩ := hseen
            have hqs := lt_of_heap hq1
            clear hmap hdd hdup hbox hbl hs2 hg hm
            generalize L[k] = i at *
            have HGI := Lib.hid (HGT.out i)
            generalize (L.take k).map (getP ht x) = vs at *
            generalize getP ht x i = v at *
            by_cases h0 : 0 < v
            · obtain ⟨n, rfl⟩ : ∃ n : Nat, v = n := ⟨v.toNat, by omega⟩
              have hn0 : 0 < n := by omega
              have hn1 : n < 257 := by omega
              have hn1' : (n : Int) < 257 := by omega
              have cq := hq3 n hn1
              rw [show decide (0 < n) = true from decide_eq_true hn0, Bool.true_and] at cq
              have rq : wr.cell? ⟨q, n, none⟩ = some (.bool (vs.contains (n : Int))) := (cell_of_row _ _ _ _ _ _ hq1).trans cq
              have fq : wr.frozen? ⟨q, n, none⟩ = false := frozen_of_row _ _ _ _ _ hq1
              clear hq1 hq2 hq3 cq
              cases hcc : vs.contains (n : Int)
              · rw [hcc] at rq
                have HD0 : Hid (dupL ((L.take (k + 1)).map (getP ht x)) = false) := by rw [Hid, HDD.out, hcc]; simp
                clear hcc
                go_wp2_with (first | (go_at_call 27; (with_reducible refine (HGI.out _ _ ?_).mono ?_); exact HRW.out.keep (below_keeps (by (repeat' (first | (with_reducible exact Below.refl _ _) | (with_reducible assumption) | (with_reducible refine below_plus ?_ ?_ _) | (with_reducible refine Below.alloc ?_ ?_ _) | (with_reducible refine Below.drew ?_) | (with_reducible refine below_drewN ?_ _) | (with_reducible refine Below.setCell ?_ ?_ _) | (first | omega | (simp only [World.size_alloc, size_plus, World.size_drew, World.size_setCell] <;> omega) | (simp <;> omega)) | omega | (simp; omega))))); rintro e w' ⟨rfl, hb⟩; (first | (obtain ⟨X, rfl⟩ := plus_again hb) | (obtain ⟨X, rfl⟩ := plus_of_below hb)); clear hb) | (rename_i h1 h2; exfalso; cases h1; done))
                exact ⟨⟨k + 1, by omega, by go_num, HD0.out, by rw [HMAP.out]; exact (HSEEN.out.put hn0 hn1).keep (heap_plus _ _ _ (by simpa using hqs)), below_plus (HBL.out.setCell (p := ⟨q, n, none⟩) (Nat.le_refl _) _) (by simpa using Nat.le_of_lt hqs) _⟩, by simp [intOf]; omega⟩
              · rw [hcc] at rq
                have HV7 : Hid (fcP ht x = 7) := H7.out (by rw [hcc]; simp [hn0])
                clear hcc
                go_wp2_with (first | (go_at_call 27; (with_reducible refine (HGI.out _ _ ?_).mono ?_); exact HRW.out.keep (below_keeps (by (repeat' (first | (with_reducible exact Below.refl _ _) | (with_reducible assumption) | (with_reducible refine below_plus ?_ ?_ _) | (with_reducible refine Below.alloc ?_ ?_ _) | (with_reducible refine Below.drew ?_) | (with_reducible refine below_drewN ?_ _) | (with_reducible refine Below.setCell ?_ ?_ _) | (first | omega | (simp only [World.size_alloc, size_plus, World.size_drew, World.size_setCell] <;> omega) | (simp <;> omega)) | omega | (simp; omega))))); rintro e w' ⟨rfl, hb⟩; (first | (obtain ⟨X, rfl⟩ := plus_again hb) | (obtain ⟨X, rfl⟩ := plus_of_below hb)); clear hb) | (rename_i h1 h2; exfalso; cases h1; done))
                go_ret
                exact ⟨by rw [HV7.out]; rfl, below_plus (HBW.out _ HBL.out) (HBW.out _ HBL.out).size _⟩
            · have HD0 : Hid (dupL ((L.take (k + 1)).map (getP ht x)) = false) := by rw [Hid, HDD.out]; simp [h0]
              have HNP := Lib.hid h0
              clear hq1 hq2 hq3
              go_wp2_with (first | (go_at_call 27; (with_reducible refine (HGI.out _ _ ?_).mono ?_); exact HRW.out.keep (below_keeps (by (repeat' (first | (with_reducible exact Below.refl _ _) | (with_reducible assumption) | (with_reducible refine below_plus ?_ ?_ _) | (with_reducible refine Below.alloc ?_ ?_ _) | (with_reducible refine Below.drew ?_) | (with_reducible refine below_drewN ?_ _) | (with_reducible refine Below.setCell ?_ ?_ _) | (first | omega | (simp only [World.size_alloc, size_plus, World.size_drew, World.size_setCell] <;> omega) | (simp <;> omega)) | omega | (simp; omega))))); rintro e w' ⟨rfl, hb⟩; (first | (obtain ⟨X, rfl⟩ := plus_again hb) | (obtain ⟨X, rfl⟩ := plus_of_below hb)); clear hb) | (rename_i h1 h2; exfalso; cases h1; done))
              exact ⟨⟨k + 1, by omega, by go_num, HD0.out, by rw [HMAP.out]; exact (HSEEN.out.keep (heap_plus _ _ _ hqs)).skip (Int.not_lt.2 HNP.out), below_plus HBL.out (Nat.le_of_lt hqs) _⟩, by simp [intOf]; omega⟩
          · obtain rfl : k = L.length := by omega
            rw [List.take_length] at hdup
            have HV0 : Hid (fcP ht x = 0) := by rw [Hid, hf2.out, hdup]; rfl
            have HBL := Lib.hid hbl
            clear hdup hseen hbl
            go_wp2_with fail
            go_ret
            exact ⟨by rw [HV0.out]; rfl, HBW.out _ HBL.out⟩
end Go.Proofs.Ytcicfijpfhbcaaa
