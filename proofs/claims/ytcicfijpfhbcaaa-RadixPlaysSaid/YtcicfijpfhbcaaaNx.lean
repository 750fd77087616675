/-
  radix.Next, radix.Count.
-/
import Derived.Test.YtcicfijpfhbcaaaEa
namespace Go.Proofs.Ytcicfijpfhbcaaa
set_option linter.unusedSimpArgs false
set_option linter.unusedVariables false
set_option linter.unusedSectionVars false
open Go.RowKit

theorem Boxes.start0 {w W : World} {c3 c5 c6 : Array Value} {t3 t5 t6 : TypeId} (h : ((w.alloc (.cells c3 t3)).alloc (.cells c5 t5)).alloc (.cells c6 t6) = W) : Boxes w W c3 c5 c6 t3 t5 t6 :=
  Boxes.start (X := ⟨#[], W.drawn⟩) (by rw [h]; exact plus_self W)
theorem cell_one {w : World} {g : Nat} {v : Value} {t : TypeId} (h : w.heap[g]? = some (.cells #[v] t (0, 0))) : w.cell? ⟨g, 0, none⟩ = some v := by rw [cell_of_row _ _ _ _ _ _ h]; rfl
theorem heap_set_one {w : World} {g : Nat} {v : Value} {t : TypeId} (h : w.heap[g]? = some (.cells #[v] t (0, 0))) (u : Value) : (w.setCell ⟨g, 0, none⟩ u).heap[g]? = some (.cells #[u] t (0, 0)) := by
  rw [heap_setCell_same w g 0 _ _ _ h]; rfl

/-- The last taken index that is not below 'from', or -1. -/
def lastG (frm : Int) (l : List Int) : Int := l.foldl (fun a i => if frm ≤ i then i else a) (-1)
theorem lastG_append (frm : Int) (l : List Int) (i : Int) : lastG frm (l ++ [i]) = if frm ≤ i then i else lastG frm l := by simp [lastG]
structure NextI (frm : Int) (g4 g7 : Nat) (l : List Int) (w : World) : Prop where
  b4 : w.heap[g4]? = some (.cells #[.int .i64 frm] 3 (0, 0))
  b7 : w.heap[g7]? = some (.cells #[.int .i64 (lastG frm l)] 3 (0, 0))

set_option maxRecDepth 100000 in
set_option maxHeartbeats 1000000 in
theorem p_Next1 (frm : Int) (B g4 g7 : Nat) (hB : B ≤ g7) (hne : g4 ≠ g7) : Yld1 84 #[.pointer (some ⟨g4, 0, none⟩), .pointer (some ⟨g7, 0, none⟩)] B (fun i => decide (i < frm)) (NextI frm g4 g7) (fun _ b => b = g7) where
  enter args w := rfl
  keep l w w' h hb := ⟨⟨by rw [hb.block _ (lt_of_heap h.b4)]; exact h.b4, by rw [hb.block _ (lt_of_heap h.b7)]; exact h.b7⟩, fun b hb => hb⟩
  fpin l w b h hb := ⟨by omega, by have := lt_of_heap h.b7; omega⟩
  call l w i i0 i1 h _ := by
    have c4 := cell_one h.b4
    have c7 := cell_one h.b7
    have f7 := frozen_of_row w g7 0 _ _ h.b7
    have H := Lib.hid h
    clear h
    by_cases hi : frm ≤ i
    · have hd : decide (i < frm) = false := by simp; omega
      rw [hd]
      clear hd
      go_enter Try.func84, Try.ntmps84
      go_wp2_with fail
      go_ret
      refine ⟨by simp [hi], ⟨by rw [heap_setCell_other w _ g4 _ hne]; exact H.out.b4, by rw [lastG_append, if_pos hi]; exact heap_set_one H.out.b7 _⟩, Mod.setCell w g7 0 _, fun b hb => .inl hb⟩
    · have hi' : i < frm := by omega
      have hd : decide (i < frm) = true := by simp [hi']
      rw [hd]
      clear hd
      go_enter Try.func84, Try.ntmps84
      go_wp2_with fail
      go_ret
      exact ⟨by simp, ⟨H.out.b4, by rw [lastG_append, if_neg (by omega)]; exact H.out.b7⟩, Mod.refl _ _⟩

def nextP (ht : Int) (x : RN) (frm tag : Int) : Int := if frm < 0 then -1 else lastG frm (upTo (fun i => decide (i < frm)) (eachL ht x tag))

set_option maxRecDepth 100000 in
set_option maxHeartbeats 1000000 in
theorem p_Next (cs : Array Value) (ht : Int) (x : RN) (frm tag : Int) (w : World) (hr : RdVals w cs 12 (encR ht x)) :
    Calls Try.prog 28 #[.agg cs, .int .i64 frm, .int .i64 tag] w fun e w' => e = .returned (.int .i64 (nextP ht x frm tag)) ∧ Below w.heap.size w w' := by
  obtain ⟨A, cap, rfl, hk⟩ := rdR_open hr
  have HR := Lib.hid hr
  clear hr hk
  by_cases h0 : frm < 0
  · go_enter Try.func28, Try.ntmps28
    go_wp2_with fail
    go_ret
    exact ⟨by rw [nextP, if_pos h0]; rfl, by (repeat' (first | (with_reducible exact Below.refl _ _) | (with_reducible assumption) | (with_reducible refine below_plus ?_ ?_ _) | (with_reducible refine Below.alloc ?_ ?_ _) | (with_reducible refine Below.drew ?_) | (with_reducible refine below_drewN ?_ _) | (with_reducible refine Below.setCell ?_ ?_ _) | (first | omega | (simp only [World.size_alloc, size_plus, World.size_drew, World.size_setCell] <;> omega) | (simp <;> omega)) | omega | (simp; omega)))⟩
  · have h0' : 0 ≤ frm := by omega
    have hp : nextP ht x frm tag = lastG frm (upTo (fun i => decide (i < frm)) (eachL ht x tag)) := by rw [nextP, if_neg h0]
    have HP := Lib.hid hp
    clear hp h0
    go_enter Try.func28, Try.ntmps28
    go_wp2_with (first | (go_at_call 83; refine (p_each w (p_Next1 frm w.heap.size (w.heap.size + 1) (w.heap.size + 1 + 1) (by omega) (by omega)) _ ht x tag [] _ HR.out ?_ ?_ rfl).mono ?_; (focus (repeat' (first | (with_reducible exact Below.refl _ _) | (with_reducible assumption) | (with_reducible refine below_plus ?_ ?_ _) | (with_reducible refine Below.alloc ?_ ?_ _) | (with_reducible refine Below.drew ?_) | (with_reducible refine below_drewN ?_ _) | (with_reducible refine Below.setCell ?_ ?_ _) | (first | omega | (simp only [World.size_alloc, size_plus, World.size_drew, World.size_setCell] <;> omega) | (simp <;> omega)) | omega | (simp; omega)))); exact ⟨(Below.heap_alloc _ _ _ (by simp)).trans (heap_alloc_here _ _ _ (by simp)), heap_alloc_here _ _ _ (by simp)⟩; rintro e W2 ⟨rfl, hI, hm, -⟩; have c7 := cell_one hI.b7))
    go_ret
    refine ⟨by rw [HP.out]; rfl, Below.trans ?_ (hm.below ?_ fun k e => by omega)⟩
    · (repeat' (first | (with_reducible exact Below.refl _ _) | (with_reducible assumption) | (with_reducible refine below_plus ?_ ?_ _) | (with_reducible refine Below.alloc ?_ ?_ _) | (with_reducible refine Below.drew ?_) | (with_reducible refine below_drewN ?_ _) | (with_reducible refine Below.setCell ?_ ?_ _) | (first | omega | (simp only [World.size_alloc, size_plus, World.size_drew, World.size_setCell] <;> omega) | (simp <;> omega)) | omega | (simp; omega)))
    · simp; omega

theorem wrap_len0 : wrap64 ((([] : List Int).length : Nat) : Int) = 0 := by simp [wrap64]
structure CountI (g5 : Nat) (l : List Int) (w : World) : Prop where
  b5 : w.heap[g5]? = some (.cells #[.int .i64 (wrap64 l.length)] 3 (0, 0))
theorem wrap_wrap (a : Int) : wrap64 (wrap64 a + 1) = wrap64 (a + 1) := by unfold wrap64; omega

set_option maxRecDepth 100000 in
set_option maxHeartbeats 1000000 in
theorem p_Count1 (B g5 : Nat) (hB : B ≤ g5) : Yld1 85 #[.pointer (some ⟨g5, 0, none⟩)] B (fun _ => true) (CountI g5) (fun _ b => b = g5) where
  enter args w := rfl
  keep l w w' h hb := ⟨⟨by rw [hb.block _ (lt_of_heap h.b5)]; exact h.b5⟩, fun b hb => hb⟩
  fpin l w b h hb := ⟨by omega, by have := lt_of_heap h.b5; omega⟩
  call l w i i0 i1 h _ := by
    have c5 := cell_one h.b5
    have f5 := frozen_of_row w g5 0 _ _ h.b5
    have H := Lib.hid h
    have hw := wrap_wrap l.length
    generalize hk : wrap64 (l.length : Int) = k at c5 hw
    have hkk := Lib.hid hk
    have hww := Lib.hid hw
    clear h hk hw
    go_enter Try.func85, Try.ntmps85
    go_wp2_with fail
    go_ret
    refine ⟨rfl, ⟨?_⟩, Mod.setCell w g5 0 _, fun b hb => .inl hb⟩
    have e : wrap64 ((l ++ [i]).length : Int) = wrap64 (k + 1) := by rw [hww.out]; simp
    rw [e]
    have hb := H.out.b5
    rw [hkk.out] at hb
    exact heap_set_one hb _

theorem eachL_len (ht : Int) (x : RN) (tag : Int) : (eachL ht x tag).length ≤ 1073741824 := by
  unfold eachL
  split
  · simp
  · rename_i h
    have hc : checkP ht x = 0 := by omega
    have hb := check_neg hc
    unfold sel
    rw [List.length_map]
    refine Nat.le_trans (List.length_filter_le _ _) (Nat.le_trans (ents_len _ _ _) ?_)
    have h1 : (8 : Nat) ^ (ht.toNat - 1 + 1) ≤ 8 ^ 10 := pow8_mono (by omega)
    have h9 : (8 : Nat) ^ 10 = 1073741824 := by decide
    omega

def countP (ht : Int) (x : RN) (tag : Int) : Int := (eachL ht x tag).length

set_option maxRecDepth 100000 in
set_option maxHeartbeats 1000000 in
theorem p_Count (cs : Array Value) (ht : Int) (x : RN) (tag : Int) (w : World) (hr : RdVals w cs 12 (encR ht x)) :
    Calls Try.prog 30 #[.agg cs, .int .i64 tag] w fun e w' => e = .returned (.int .i64 (countP ht x tag)) ∧ Below w.heap.size w w' := by
  obtain ⟨A, cap, rfl, hk⟩ := rdR_open hr
  have HR := Lib.hid hr
  have hlen := eachL_len ht x tag
  have HP : Hid (wrap64 ((eachL ht x tag).length : Int) = countP ht x tag) := by unfold Hid wrap64 countP; omega
  clear hr hk hlen
  go_enter Try.func30, Try.ntmps30
  go_wp2_with (first | (go_at_call 83; refine (p_each w (p_Count1 w.heap.size (w.heap.size + 1) (by omega)) _ ht x tag [] _ HR.out ?_ ?_ rfl).mono ?_; (focus (repeat' (first | (with_reducible exact Below.refl _ _) | (with_reducible assumption) | (with_reducible refine below_plus ?_ ?_ _) | (with_reducible refine Below.alloc ?_ ?_ _) | (with_reducible refine Below.drew ?_) | (with_reducible refine below_drewN ?_ _) | (with_reducible refine Below.setCell ?_ ?_ _) | (first | omega | (simp only [World.size_alloc, size_plus, World.size_drew, World.size_setCell] <;> omega) | (simp <;> omega)) | omega | (simp; omega)))); exact CountI.mk (by rw [show wrap64 ((([] : List Int).length : Nat) : Int) = 0 from wrap_len0]; exact heap_alloc_here _ _ _ (by simp)); rintro e W2 ⟨rfl, hI, hm, -⟩; rw [List.nil_append, upTo_self (List.all_eq_true.2 fun _ _ => rfl)] at hI; have c7 := cell_one hI.b5; rw [HP.out] at c7))
  go_ret
  refine ⟨rfl, Below.trans ?_ (hm.below ?_ fun k e => by omega)⟩
  · (repeat' (first | (with_reducible exact Below.refl _ _) | (with_reducible assumption) | (with_reducible refine below_plus ?_ ?_ _) | (with_reducible refine Below.alloc ?_ ?_ _) | (with_reducible refine Below.drew ?_) | (with_reducible refine below_drewN ?_ _) | (with_reducible refine Below.setCell ?_ ?_ _) | (first | omega | (simp only [World.size_alloc, size_plus, World.size_drew, World.size_setCell] <;> omega) | (simp <;> omega)) | omega | (simp; omega)))
  · simp; omega
end Go.Proofs.Ytcicfijpfhbcaaa
