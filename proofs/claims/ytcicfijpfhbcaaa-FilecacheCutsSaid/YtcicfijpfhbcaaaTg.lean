/-
  radix.Set, radix.mark, radix.Tag, radix.Untag: what they answer, whatever comes in.
-/
import Derived.Test.YtcicfijpfhbcaaaPo
namespace Go.Proofs.Ytcicfijpfhbcaaa
set_option linter.unusedSimpArgs false
set_option linter.unusedVariables false
set_option linter.unusedSectionVars false
open Go.RowKit

theorem okT.slim {h : Nat} {x : RN} (ht : okT h x) : slimB x := by
  rcases ht with ⟨-, ha⟩ | ⟨-, -, hok, -⟩
  · exact slim_of_ok 0 x (.inl ha)
  · exact slim_of_ok _ x (.inr hok.1)

theorem p_Set (cs : Array Value) (ht : Int) (x : RN) (i v : Int) (w : World) (h : RdVals w cs 12 (encR ht x)) :
    Calls Try.prog 24 #[.agg cs, .int .i64 i, .int .i64 v] w (TreePost (setP ht x i v) w) := by
  by_cases hno : checkP ht x ≠ 0 ∨ i < 0 ∨ 1073741824 ≤ i
  · exact p_Set_no cs ht x i v w h hno
  · have hc : checkP ht x = 0 := by omega
    obtain ⟨hh, rfl⟩ : ∃ hh : Nat, ht = hh := ⟨ht.toNat, by have := check_neg hc; omega⟩
    obtain ⟨n, rfl⟩ : ∃ n : Nat, i = n := ⟨i.toNat, by omega⟩
    have hn : n < 1073741824 := by omega
    have hT := check_iff.1 hc
    have hr := raised_ok hT n hn
    have hs := setT_ok hT n hn v
    obtain ⟨m, hm⟩ : ∃ m, (raised hh x n).1 = m + 1 := ⟨(raised hh x n).1 - 1, by have := hr.1; omega⟩
    refine p_Set_yes cs hh x n v w h hc (by omega) (by omega) hT.slim (by have := check_neg hc; omega) (oct_of_ok _ _ hr.2.2.2.1) fun he => ?_
    rw [hm] at hs ⊢
    exact tall_of_ok m _ ⟨hs.1, he⟩

theorem get_ok {h : Nat} {x : RN} {i : Int} (hg : getP h x i ≠ 0) : checkP h x = 0 ∧ 1 ≤ h := by
  unfold getP at hg
  cases hl : leafP h x i with
  | none => rw [hl] at hg; exact absurd rfl hg
  | some y =>
    unfold leafP at hl
    split at hl
    · rename_i hh; exact ⟨hh.1, by have := hh.2.2.2.2; omega⟩
    · cases hl

theorem p_mark (cs : Array Value) (ht : Int) (x : RN) (i tag : Int) (on : Bool) (w : World) (h : RdVals w cs 12 (encR ht x)) (i2 : -9223372036854775808 ≤ i) (i3 : i ≤ 9223372036854775807) :
    Calls Try.prog 86 #[.agg cs, .int .i64 i, .int .i64 tag, .bool on] w (TreePost (markP ht x i tag on) w) := by
  by_cases hno : checkP ht x ≠ 0 ∨ i < 0 ∨ 1073741824 ≤ i ∨ tag < 0 ∨ 1 < tag ∨ getP ht x i = 0
  · exact p_mark_no cs ht x i tag on w h i2 i3 hno
  · have hc : checkP ht x = 0 := by omega
    obtain ⟨hh, rfl⟩ : ∃ hh : Nat, ht = hh := ⟨ht.toNat, by have := check_neg hc; omega⟩
    obtain ⟨k, rfl⟩ : ∃ k : Nat, tag = k := ⟨tag.toNat, by omega⟩
    have hT := check_iff.1 hc
    have hg : getP hh x i ≠ 0 := by omega
    have h1 := (get_ok hg).2
    have hok : okN (hh - 1) x := by
      rcases hT with h | h
      · omega
      · exact h.2.2.1
    exact p_mark_yes cs hh x i k on w h hc (by omega) (by omega) (by omega) hg hT.slim h1 (by have := check_neg hc; omega) (oct_of_ok _ _ (.inr hok.1))

set_option maxRecDepth 100000 in
set_option maxHeartbeats 1000000 in
theorem p_Tag (cs : Array Value) (ht : Int) (x : RN) (i tag : Int) (w : World) (h : RdVals w cs 12 (encR ht x)) (i2 : -9223372036854775808 ≤ i) (i3 : i ≤ 9223372036854775807) :
    Calls Try.prog 31 #[.agg cs, .int .i64 i, .int .i64 tag] w (TreePost (markP ht x i tag true) w) := by
  obtain ⟨A, cap, rfl, hk⟩ := rdR_open h
  have HR := Lib.hid h
  clear h hk
  generalize hp : markP ht x i tag true = p
  obtain ⟨ht', x', e'⟩ := p
  go_enter Try.func31, Try.ntmps31
  go_wp2_with (first
    | (go_at_call 86; refine (p_mark _ ht x i tag true _ (HR.out.keep (below_keeps (by (repeat' (first | (with_reducible exact Below.refl _ _) | (with_reducible assumption) | (with_reducible refine below_plus ?_ ?_ _) | (with_reducible refine Below.alloc ?_ ?_ _) | (with_reducible refine Below.drew ?_) | (with_reducible refine below_drewN ?_ _) | (with_reducible refine Below.setCell ?_ ?_ _) | (first | omega | (simp only [World.size_alloc, size_plus, World.size_drew, World.size_setCell] <;> omega) | (simp <;> omega)) | omega | (simp; omega)))))) i2 i3).mono ?_; rw [hp]; rintro e W ⟨s', rfl, hr, hb⟩
       obtain ⟨A', cap', rfl, -⟩ := hr.slice
       obtain ⟨X, rfl⟩ := plus_of_below hb
       have HRR := Lib.hid hr
       clear hb hr)
    | ((with_reducible refine wpList_storeR (.tmp 6) (.tmp 12) ?_ ?_ (w.heap.size + 1) ?_ ht' x' A' x'.n cap' ?_ (cellsR 0 zeroN (.slice none 0 0)) 28 ?_ rfl ?_); (with_reducible rfl); rfl; rfl; rfl; (exact (heap_plus _ _ _ (by simp)).trans (heap_alloc_here _ _ _ (by simp)))))
  refine bodyPost_ret (v := _) (results_tree Try.results31 _ _ (w.heap.size + 1) ht' x' (.slice A' x'.n cap') _ rfl (setRow_heap _ _ (cellsR 0 zeroN (.slice none 0 0)) _ _ _ ((heap_plus _ _ _ (by simp)).trans (heap_alloc_here _ _ _ (by simp)))) rfl) rfl ⟨_, rfl, ?_, below_setRow (by (repeat' (first | (with_reducible exact Below.refl _ _) | (with_reducible assumption) | (with_reducible refine below_plus ?_ ?_ _) | (with_reducible refine Below.alloc ?_ ?_ _) | (with_reducible refine Below.drew ?_) | (with_reducible refine below_drewN ?_ _) | (with_reducible refine Below.setCell ?_ ?_ _) | (first | omega | (simp only [World.size_alloc, size_plus, World.size_drew, World.size_setCell] <;> omega) | (simp <;> omega)) | omega | (simp; omega)))) (by omega) _⟩
  refine OwnK.mono (OwnK.frame _ HRR.out fun b hb _ => setRow_other _ _ _ _ ?_) fun b hb => ?_
  · simp at hb; omega
  · simp at hb; omega

set_option maxRecDepth 100000 in
set_option maxHeartbeats 1000000 in
theorem p_Untag (cs : Array Value) (ht : Int) (x : RN) (i tag : Int) (w : World) (h : RdVals w cs 12 (encR ht x)) (i2 : -9223372036854775808 ≤ i) (i3 : i ≤ 9223372036854775807) :
    Calls Try.prog 33 #[.agg cs, .int .i64 i, .int .i64 tag] w (TreePost (markP ht x i tag false) w) := by
  obtain ⟨A, cap, rfl, hk⟩ := rdR_open h
  have HR := Lib.hid h
  clear h hk
  generalize hp : markP ht x i tag false = p
  obtain ⟨ht', x', e'⟩ := p
  go_enter Try.func33, Try.ntmps33
  go_wp2_with (first
    | (go_at_call 86; refine (p_mark _ ht x i tag false _ (HR.out.keep (below_keeps (by (repeat' (first | (with_reducible exact Below.refl _ _) | (with_reducible assumption) | (with_reducible refine below_plus ?_ ?_ _) | (with_reducible refine Below.alloc ?_ ?_ _) | (with_reducible refine Below.drew ?_) | (with_reducible refine below_drewN ?_ _) | (with_reducible refine Below.setCell ?_ ?_ _) | (first | omega | (simp only [World.size_alloc, size_plus, World.size_drew, World.size_setCell] <;> omega) | (simp <;> omega)) | omega | (simp; omega)))))) i2 i3).mono ?_; rw [hp]; rintro e W ⟨s', rfl, hr, hb⟩
       obtain ⟨A', cap', rfl, -⟩ := hr.slice
       obtain ⟨X, rfl⟩ := plus_of_below hb
       have HRR := Lib.hid hr
       clear hb hr)
    | ((with_reducible refine wpList_storeR (.tmp 6) (.tmp 12) ?_ ?_ (w.heap.size + 1) ?_ ht' x' A' x'.n cap' ?_ (cellsR 0 zeroN (.slice none 0 0)) 28 ?_ rfl ?_); (with_reducible rfl); rfl; rfl; rfl; (exact (heap_plus _ _ _ (by simp)).trans (heap_alloc_here _ _ _ (by simp)))))
  refine bodyPost_ret (v := _) (results_tree Try.results33 _ _ (w.heap.size + 1) ht' x' (.slice A' x'.n cap') _ rfl (setRow_heap _ _ (cellsR 0 zeroN (.slice none 0 0)) _ _ _ ((heap_plus _ _ _ (by simp)).trans (heap_alloc_here _ _ _ (by simp)))) rfl) rfl ⟨_, rfl, ?_, below_setRow (by (repeat' (first | (with_reducible exact Below.refl _ _) | (with_reducible assumption) | (with_reducible refine below_plus ?_ ?_ _) | (with_reducible refine Below.alloc ?_ ?_ _) | (with_reducible refine Below.drew ?_) | (with_reducible refine below_drewN ?_ _) | (with_reducible refine Below.setCell ?_ ?_ _) | (first | omega | (simp only [World.size_alloc, size_plus, World.size_drew, World.size_setCell] <;> omega) | (simp <;> omega)) | omega | (simp; omega)))) (by omega) _⟩
  refine OwnK.mono (OwnK.frame _ HRR.out fun b hb _ => setRow_other _ _ _ _ ?_) fun b hb => ?_
  · simp at hb; omega
  · simp at hb; omega

end Go.Proofs.Ytcicfijpfhbcaaa
