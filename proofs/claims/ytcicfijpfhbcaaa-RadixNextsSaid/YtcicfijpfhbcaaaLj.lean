/-
  radix.List.
-/
import Derived.Test.YtcicfijpfhbcaaaLi
import Derived.Test.YtcicfijpfhbcaaaNx
namespace Go.Proofs.Ytcicfijpfhbcaaa
set_option linter.unusedSimpArgs false
set_option linter.unusedVariables false
set_option linter.unusedSectionVars false
open Go.RowKit

/-- The list that the closure of List has made so far. -/
def ListI (g : Nat) (l : List Int) (w : World) : Prop := ∃ v, w.heap[g]? = some (.cells #[v] 43 (0, 0)) ∧ OwnI w (g + 1) l v
def listF (g : Nat) (w : World) (b : Nat) : Prop := b = g ∨ ∃ v, w.heap[g]? = some (.cells #[v] 43 (0, 0)) ∧ v.ownBlock = some b
theorem cells_inj {w : World} {g : Nat} {u v : Value} {t : TypeId} (h : w.heap[g]? = some (.cells #[u] t (0, 0))) (k : w.heap[g]? = some (.cells #[v] t (0, 0))) : u = v := by
  rw [h] at k
  injection k with k
  injection k with k
  simpa using k

set_option maxRecDepth 100000 in
set_option maxHeartbeats 1000000 in
theorem p_List1 (B g : Nat) (hB : B ≤ g) : Yld1 89 #[.pointer (some ⟨g, 0, none⟩)] B (fun _ => true) (ListI g) (listF g) where
  enter args w := rfl
  keep l w w' h hb := by
    obtain ⟨v, h1, h2⟩ := h
    have e := hb.block _ (lt_of_heap h1)
    exact ⟨⟨v, e.trans h1, h2.below hb⟩, fun b hf => hf.imp id fun ⟨u, k1, k2⟩ => ⟨u, e.symm.trans k1, k2⟩⟩
  fpin l w b h hb := by
    obtain ⟨v, h1, h2⟩ := h
    rcases hb with rfl | ⟨u, k1, k2⟩
    · exact ⟨hB, lt_of_heap h1⟩
    · have := cells_inj h1 k1
      subst this
      have := h2.base_ b k2
      exact ⟨by omega, h2.lt b k2⟩
  call l w i i0 i1 h hl := by
    obtain ⟨v, h1, h2⟩ := h
    have c3 := cell_one h1
    have hg := lt_of_heap h1
    have hll : l.length ≤ 1073741824 := by omega
    have H1 := Lib.hid h1
    have H2 := Lib.hid h2
    have hgb : g + 1 ≤ w.heap.size := by omega
    have HFR : Hid (∀ w' v', AppI (w.alloc (.cells #[.int .i64 i] 3)) w' (g + 1) (l ++ [i]) v v' → w'.frozen? ⟨g, 0, none⟩ = false ∧ w'.cell? ⟨g, 0, none⟩ = some v) := fun w' v' hap =>
      ⟨frozen_of_row w' g 0 _ _ ((hap.below.block g (by omega)).trans ((Below.heap_alloc _ _ _ hg).trans h1)), cell_one ((hap.below.block g (by omega)).trans ((Below.heap_alloc _ _ _ hg).trans h1))⟩
    clear h1 h2
    go_enter Try.func89, Try.ntmps89
    go_wp2_with ((with_reducible refine wpList_appendI ?_ (.tmp 4) (.tmp 6) ?_ (g + 1) _ _ ?_ H2.out i _ ?_ hgb hll ?_); rfl; (with_reducible rfl); rfl; rfl; (intro v' w' hap); (obtain ⟨A9, cap9, hv9, -⟩ := hap.own.slice); (rw [show (l ++ [i]).length = l.length + 1 by simp] at hv9); subst hv9; have HA := Lib.hid hap; (obtain ⟨hcf, hcc⟩ := HFR.out _ _ hap); have hcg : g < w'.heap.size := (by have := hap.below.size; simp at this; omega); clear hap)
    go_ret
    have hA := HA.out
    have hgw : w'.heap[g]? = some (.cells #[v] 43 (0, 0)) := (hA.below.block g (by omega)).trans ((Below.heap_alloc _ _ _ hg).trans H1.out)
    have hown : OwnI (w'.setCell ⟨g, 0, none⟩ (.slice A9 (l.length + 1) cap9)) (g + 1) (l ++ [i]) (.slice A9 (l.length + 1) cap9) := hA.own.keep fun q hq _ => heap_setCell_other w' _ q _ (by have := hA.own.base_ q hq; show q ≠ g; omega)
    refine ⟨rfl, ⟨_, heap_set_one hgw _, hown⟩, ?_, fun b hb => ?_⟩
    · refine ⟨hA.below.os, hA.below.tape, hA.below.output, ?_, fun k hk hn => ?_⟩
      · have := hA.below.size; simp at this ⊢; omega
      · rw [heap_setCell_other w' _ k _ (fun e => hn (.inl e)), hA.far k (by simp; omega) (fun e => hn (.inr ⟨v, H1.out, e⟩)), Below.heap_alloc _ _ _ hk]
    · rcases hb with rfl | ⟨u, k1, k2⟩
      · exact .inl (.inl rfl)
      · have := cells_inj (heap_set_one hgw _) k1
        subst this
        rcases hA.lies b k2 with h | h
        · exact .inl (.inr ⟨v, H1.out, h⟩)
        · right; simp at h; omega

set_option maxRecDepth 100000 in
set_option maxHeartbeats 1000000 in
theorem p_List (cs : Array Value) (ht : Int) (x : RN) (w : World) (h : RdVals w cs 12 (encR ht x)) :
    Calls Try.prog 38 #[.agg cs] w fun e w' => ∃ v, e = .returned v ∧ OwnI w' w.heap.size (eachL ht x (-1)) v ∧ Below w.heap.size w w' := by
  obtain ⟨A, cap, rfl, hk⟩ := rdR_open h
  have HR := Lib.hid h
  clear h hk
  go_enter Try.func38, Try.ntmps38
  go_wp2_with (go_at_call 83; refine (p_each w (p_List1 w.heap.size (w.heap.size + 1) (by omega)) _ ht x (-1) [] _ HR.out ?_ ?_ rfl).mono ?_; (focus (repeat' (first | (with_reducible exact Below.refl _ _) | (with_reducible assumption) | (with_reducible refine below_plus ?_ ?_ _) | (with_reducible refine Below.alloc ?_ ?_ _) | (with_reducible refine Below.drew ?_) | (with_reducible refine below_drewN ?_ _) | (with_reducible refine Below.setCell ?_ ?_ _) | (first | omega | (simp only [World.size_alloc, size_plus, World.size_drew, World.size_setCell] <;> omega) | (simp <;> omega)) | omega | (simp; omega)))); exact ⟨_, heap_alloc_here _ _ _ (by simp), OwnI.nil _ _⟩; rintro e W2 ⟨rfl, hI, hm, -⟩; rw [List.nil_append, upTo_self (List.all_eq_true.2 fun _ _ => rfl)] at hI; (obtain ⟨v, hv, ho⟩ := hI); have c7 := cell_one hv; have HO := Lib.hid ho; have HM := Lib.hid hm; clear ho hm)
  go_ret
  refine ⟨v, rfl, HO.out.mono (by omega), Below.trans ?_ (HM.out.below ?_ fun k e => ((p_List1 w.heap.size (w.heap.size + 1) (by omega)).fpin [] _ k ⟨_, heap_alloc_here _ _ _ (by simp), OwnI.nil _ _⟩ e).1)⟩
  · (repeat' (first | (with_reducible exact Below.refl _ _) | (with_reducible assumption) | (with_reducible refine below_plus ?_ ?_ _) | (with_reducible refine Below.alloc ?_ ?_ _) | (with_reducible refine Below.drew ?_) | (with_reducible refine below_drewN ?_ _) | (with_reducible refine Below.setCell ?_ ?_ _) | (first | omega | (simp only [World.size_alloc, size_plus, World.size_drew, World.size_setCell] <;> omega) | (simp <;> omega)) | omega | (simp; omega)))
  · simp; omega
end Go.Proofs.Ytcicfijpfhbcaaa
