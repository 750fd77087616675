/-
  radix.mark, radix.Tag, radix.Untag.
-/
import Derived.Test.YtcicfijpfhbcaaaSu
namespace Go.Proofs.Ytcicfijpfhbcaaa
set_option linter.unusedSimpArgs false
set_option linter.unusedVariables false
set_option linter.unusedSectionVars false
open Go.RowKit

/-- Four blocks laid ahead of what follows. -/
structure Box4 (w W : World) (c3 c5 c7 c8 : Array Value) (t3 t5 t7 t8 : TypeId) : Prop where
  below : Below w.heap.size w W
  size : w.heap.size + 4 ≤ W.heap.size
  b3 : W.heap[w.heap.size]? = some (.cells c3 t3 (0, 0))
  b5 : W.heap[w.heap.size + 1]? = some (.cells c5 t5 (0, 0))
  b7 : W.heap[w.heap.size + 2]? = some (.cells c7 t7 (0, 0))
  b8 : W.heap[w.heap.size + 3]? = some (.cells c8 t8 (0, 0))
theorem Box4.start {w W : World} {c3 c5 c7 c8 : Array Value} {t3 t5 t7 t8 : TypeId} {X : Extra} (h : ((((w.alloc (.cells c3 t3)).alloc (.cells c5 t5)).alloc (.cells c7 t7)).alloc (.cells c8 t8)).plus X = W) : Box4 w W c3 c5 c7 c8 t3 t5 t7 t8 := by
  subst h
  have e1 : (w.alloc (.cells c3 t3)).heap.size = w.heap.size + 1 := by simp
  have e2 : ((w.alloc (.cells c3 t3)).alloc (.cells c5 t5)).heap.size = w.heap.size + 2 := by simp
  have e3 : (((w.alloc (.cells c3 t3)).alloc (.cells c5 t5)).alloc (.cells c7 t7)).heap.size = w.heap.size + 3 := by simp
  have e4 : ((((w.alloc (.cells c3 t3)).alloc (.cells c5 t5)).alloc (.cells c7 t7)).alloc (.cells c8 t8)).heap.size = w.heap.size + 4 := by simp
  have hb : Below w.heap.size w ((((w.alloc (.cells c3 t3)).alloc (.cells c5 t5)).alloc (.cells c7 t7)).alloc (.cells c8 t8)) := (((below_alloc w _).alloc (by omega) _).alloc (by omega) _).alloc (by omega) _
  refine ⟨below_plus hb (by omega) X, by rw [size_plus, e4]; omega, ?_, ?_, ?_, ?_⟩
  · rw [heap_plus _ _ _ (by omega), Below.heap_alloc _ _ _ (by omega), Below.heap_alloc _ _ _ (by omega), Below.heap_alloc _ _ _ (by omega), heap_alloc_here _ _ _ rfl]
  · rw [heap_plus _ _ _ (by omega), Below.heap_alloc _ _ _ (by omega), Below.heap_alloc _ _ _ (by omega), heap_alloc_here _ _ _ e1.symm]
  · rw [heap_plus _ _ _ (by omega), Below.heap_alloc _ _ _ (by omega), heap_alloc_here _ _ _ e2.symm]
  · rw [heap_plus _ _ _ (by omega), heap_alloc_here _ _ _ e3.symm]
theorem Box4.next {w W W' : World} {c3 c5 c7 c8 : Array Value} {t3 t5 t7 t8 : TypeId} (h : Box4 w W c3 c5 c7 c8 t3 t5 t7 t8) (hb : ∀ b, b < w.heap.size + 4 → W'.heap[b]? = W.heap[b]?) (hw : Below w.heap.size w W') (hs : w.heap.size + 4 ≤ W'.heap.size) : Box4 w W' c3 c5 c7 c8 t3 t5 t7 t8 :=
  ⟨hw, hs, (hb _ (by omega)).trans h.b3, (hb _ (by omega)).trans h.b5, (hb _ (by omega)).trans h.b7, (hb _ (by omega)).trans h.b8⟩
theorem Box4.on {w W W' : World} {c3 c5 c7 c8 : Array Value} {t3 t5 t7 t8 : TypeId} (h : Box4 w W c3 c5 c7 c8 t3 t5 t7 t8) (hb : Below W.heap.size W W') : Box4 w W' c3 c5 c7 c8 t3 t5 t7 t8 :=
  h.next (fun b hl => hb.block b (by have := h.size; omega)) (h.below.trans (hb.mono h.below.size)) (Nat.le_trans h.size hb.size)
theorem Box4.mod {w W W' : World} {g : Nat} {h : Int} {x : RN} {s : Value} {S : Nat → Prop} {c3 c5 c7 c8 : Array Value} {t3 t5 t7 t8 : TypeId} (hb : Box4 w W c3 c5 c7 c8 t3 t5 t7 t8) (t : SetSt w (w.heap.size + 4) g h x s S W) (hm : Mod (fun b => b = g ∨ S b) W W') : Box4 w W' c3 c5 c7 c8 t3 t5 t7 t8 :=
  hb.next (fun b hl => t.block hm hl) (t.below.trans (hm.below (B := w.heap.size) t.below.size (by
    rintro k (e | e)
    · have := t.g_; omega
    · have := t.S_ k e; omega))) (Nat.le_trans hb.size hm.size)

def markP (ht : Int) (x : RN) (i tag : Int) (on : Bool) : Int × RN × Int :=
  if checkP ht x ≠ 0 then (0, zeroN, checkP ht x) else if i < 0 ∨ 1073741824 ≤ i then (0, zeroN, 2) else if tag < 0 ∨ 1 < tag then (0, zeroN, 1)
  else if getP ht x i = 0 then (0, zeroN, 6) else (ht, updN (markLeaf tag.toNat on) i (ht.toNat - 1) x, 0)

set_option maxRecDepth 100000 in
set_option maxHeartbeats 1000000 in
theorem p_mark_no (cs : Array Value) (ht : Int) (x : RN) (i tag : Int) (on : Bool) (w : World) (h : RdVals w cs 12 (encR ht x)) (i2 : -9223372036854775808 ≤ i) (i3 : i ≤ 9223372036854775807)
    (hno : checkP ht x ≠ 0 ∨ i < 0 ∨ 1073741824 ≤ i ∨ tag < 0 ∨ 1 < tag ∨ getP ht x i = 0) :
    Calls Try.prog 86 #[.agg cs, .int .i64 i, .int .i64 tag, .bool on] w (TreePost (markP ht x i tag on) w) := by
  obtain ⟨A, cap, rfl, hk⟩ := rdR_open h
  have HR := Lib.hid h
  clear h hk
  by_cases hc : checkP ht x = 0
  · by_cases hi : i < 0 ∨ 1073741824 ≤ i
    · have hp : markP ht x i tag on = (0, zeroN, 2) := by unfold markP; rw [if_neg (by simp [hc]), if_pos hi]
      rw [hp]
      clear hp hno
      rcases hi with hi | hi
      all_goals
        go_enter Try.func86, Try.ntmps86
        go_wp2_with (go_at_call 19; refine (p_Check _ ht x _ ?_).mono ?_; exact HR.out.keep (below_keeps (by (repeat' (first | (with_reducible exact Below.refl _ _) | (with_reducible assumption) | (with_reducible refine below_plus ?_ ?_ _) | (with_reducible refine Below.alloc ?_ ?_ _) | (with_reducible refine Below.drew ?_) | (with_reducible refine below_drewN ?_ _) | (with_reducible refine Below.setCell ?_ ?_ _) | (first | omega | (simp only [World.size_alloc, size_plus, World.size_drew, World.size_setCell] <;> omega) | (simp <;> omega)) | omega | (simp; omega))))); rintro e w' ⟨rfl, hb⟩; (first | (obtain ⟨X, rfl⟩ := plus_again hb) | (obtain ⟨X, rfl⟩ := plus_of_below hb)); clear hb; rw [hc])
        (refine bodyPost_ret (v := _) (results_tree Try.results86 _ _ (w.heap.size + 1 + 1 + 1) 0 zeroN (.slice none 0 0) _ rfl ?_ rfl) rfl ⟨_, rfl, OwnK.none_ rfl, by (repeat' (first | (with_reducible exact Below.refl _ _) | (with_reducible assumption) | (with_reducible refine below_plus ?_ ?_ _) | (with_reducible refine Below.alloc ?_ ?_ _) | (with_reducible refine Below.drew ?_) | (with_reducible refine below_drewN ?_ _) | (with_reducible refine Below.setCell ?_ ?_ _) | (first | omega | (simp only [World.size_alloc, size_plus, World.size_drew, World.size_setCell] <;> omega) | (simp <;> omega)) | omega | (simp; omega)))⟩; (repeat' (first | (refine heap_alloc_here _ _ _ ?_; (first | omega | (simp only [World.size_alloc, size_plus, World.size_drew, World.size_setCell] <;> omega) | (simp <;> omega))) | (refine (heap_alloc_old _ _ _ ?_).trans ?_; (first | omega | (simp only [World.size_alloc, size_plus, World.size_drew, World.size_setCell] <;> omega) | (simp <;> omega))) | (refine (heap_plus _ _ _ ?_).trans ?_; (first | omega | (simp only [World.size_alloc, size_plus, World.size_drew, World.size_setCell] <;> omega) | (simp <;> omega))) | rfl)))
    · by_cases htg : tag < 0 ∨ 1 < tag
      · have hp : markP ht x i tag on = (0, zeroN, 1) := by unfold markP; rw [if_neg (by simp [hc]), if_neg hi, if_pos htg]
        have i0 : 0 ≤ i := by omega
        have i1 : i < 1073741824 := by omega
        rw [hp]
        clear hp hno hi
        rcases htg with htg | htg
        all_goals
          go_enter Try.func86, Try.ntmps86
          go_wp2_with (go_at_call 19; refine (p_Check _ ht x _ ?_).mono ?_; exact HR.out.keep (below_keeps (by (repeat' (first | (with_reducible exact Below.refl _ _) | (with_reducible assumption) | (with_reducible refine below_plus ?_ ?_ _) | (with_reducible refine Below.alloc ?_ ?_ _) | (with_reducible refine Below.drew ?_) | (with_reducible refine below_drewN ?_ _) | (with_reducible refine Below.setCell ?_ ?_ _) | (first | omega | (simp only [World.size_alloc, size_plus, World.size_drew, World.size_setCell] <;> omega) | (simp <;> omega)) | omega | (simp; omega))))); rintro e w' ⟨rfl, hb⟩; (first | (obtain ⟨X, rfl⟩ := plus_again hb) | (obtain ⟨X, rfl⟩ := plus_of_below hb)); clear hb; rw [hc])
          (refine bodyPost_ret (v := _) (results_tree Try.results86 _ _ (w.heap.size + 1 + 1 + 1) 0 zeroN (.slice none 0 0) _ rfl ?_ rfl) rfl ⟨_, rfl, OwnK.none_ rfl, by (repeat' (first | (with_reducible exact Below.refl _ _) | (with_reducible assumption) | (with_reducible refine below_plus ?_ ?_ _) | (with_reducible refine Below.alloc ?_ ?_ _) | (with_reducible refine Below.drew ?_) | (with_reducible refine below_drewN ?_ _) | (with_reducible refine Below.setCell ?_ ?_ _) | (first | omega | (simp only [World.size_alloc, size_plus, World.size_drew, World.size_setCell] <;> omega) | (simp <;> omega)) | omega | (simp; omega)))⟩; (repeat' (first | (refine heap_alloc_here _ _ _ ?_; (first | omega | (simp only [World.size_alloc, size_plus, World.size_drew, World.size_setCell] <;> omega) | (simp <;> omega))) | (refine (heap_alloc_old _ _ _ ?_).trans ?_; (first | omega | (simp only [World.size_alloc, size_plus, World.size_drew, World.size_setCell] <;> omega) | (simp <;> omega))) | (refine (heap_plus _ _ _ ?_).trans ?_; (first | omega | (simp only [World.size_alloc, size_plus, World.size_drew, World.size_setCell] <;> omega) | (simp <;> omega))) | rfl)))
      · have hg : getP ht x i = 0 := by omega
        have hp : markP ht x i tag on = (0, zeroN, 6) := by unfold markP; rw [if_neg (by simp [hc]), if_neg hi, if_neg htg, if_pos hg]
        have i0 : 0 ≤ i := by omega
        have i1 : i < 1073741824 := by omega
        have t0 : 0 ≤ tag := by omega
        have t1 : tag ≤ 1 := by omega
        rw [hp]
        clear hp hno hi htg
        go_enter Try.func86, Try.ntmps86
        go_wp2_with (first
          | (go_at_call 19; refine (p_Check _ ht x _ ?_).mono ?_; exact HR.out.keep (below_keeps (by (repeat' (first | (with_reducible exact Below.refl _ _) | (with_reducible assumption) | (with_reducible refine below_plus ?_ ?_ _) | (with_reducible refine Below.alloc ?_ ?_ _) | (with_reducible refine Below.drew ?_) | (with_reducible refine below_drewN ?_ _) | (with_reducible refine Below.setCell ?_ ?_ _) | (first | omega | (simp only [World.size_alloc, size_plus, World.size_drew, World.size_setCell] <;> omega) | (simp <;> omega)) | omega | (simp; omega))))); rintro e w' ⟨rfl, hb⟩; (first | (obtain ⟨X, rfl⟩ := plus_again hb) | (obtain ⟨X, rfl⟩ := plus_of_below hb)); clear hb; rw [hc])
          | (go_at_call 26; refine (p_Get _ ht x i _ ?_ i2 i3).mono ?_; exact HR.out.keep (below_keeps (by (repeat' (first | (with_reducible exact Below.refl _ _) | (with_reducible assumption) | (with_reducible refine below_plus ?_ ?_ _) | (with_reducible refine Below.alloc ?_ ?_ _) | (with_reducible refine Below.drew ?_) | (with_reducible refine below_drewN ?_ _) | (with_reducible refine Below.setCell ?_ ?_ _) | (first | omega | (simp only [World.size_alloc, size_plus, World.size_drew, World.size_setCell] <;> omega) | (simp <;> omega)) | omega | (simp; omega))))); rintro e w' ⟨rfl, hb⟩; (first | (obtain ⟨X, rfl⟩ := plus_again hb) | (obtain ⟨X, rfl⟩ := plus_of_below hb)); clear hb; rw [hg]))
        (refine bodyPost_ret (v := _) (results_tree Try.results86 _ _ (w.heap.size + 1 + 1 + 1) 0 zeroN (.slice none 0 0) _ rfl ?_ rfl) rfl ⟨_, rfl, OwnK.none_ rfl, by (repeat' (first | (with_reducible exact Below.refl _ _) | (with_reducible assumption) | (with_reducible refine below_plus ?_ ?_ _) | (with_reducible refine Below.alloc ?_ ?_ _) | (with_reducible refine Below.drew ?_) | (with_reducible refine below_drewN ?_ _) | (with_reducible refine Below.setCell ?_ ?_ _) | (first | omega | (simp only [World.size_alloc, size_plus, World.size_drew, World.size_setCell] <;> omega) | (simp <;> omega)) | omega | (simp; omega)))⟩; (repeat' (first | (refine heap_alloc_here _ _ _ ?_; (first | omega | (simp only [World.size_alloc, size_plus, World.size_drew, World.size_setCell] <;> omega) | (simp <;> omega))) | (refine (heap_alloc_old _ _ _ ?_).trans ?_; (first | omega | (simp only [World.size_alloc, size_plus, World.size_drew, World.size_setCell] <;> omega) | (simp <;> omega))) | (refine (heap_plus _ _ _ ?_).trans ?_; (first | omega | (simp only [World.size_alloc, size_plus, World.size_drew, World.size_setCell] <;> omega) | (simp <;> omega))) | rfl)))
  · have hp : markP ht x i tag on = (0, zeroN, checkP ht x) := by unfold markP; rw [if_pos hc]
    rw [hp]
    have hcb : (checkP ht x != 0) = true := by simp [hc]
    clear hp hno hc
    go_enter Try.func86, Try.ntmps86
    go_wp2_with (go_at_call 19; refine (p_Check _ ht x _ ?_).mono ?_; exact HR.out.keep (below_keeps (by (repeat' (first | (with_reducible exact Below.refl _ _) | (with_reducible assumption) | (with_reducible refine below_plus ?_ ?_ _) | (with_reducible refine Below.alloc ?_ ?_ _) | (with_reducible refine Below.drew ?_) | (with_reducible refine below_drewN ?_ _) | (with_reducible refine Below.setCell ?_ ?_ _) | (first | omega | (simp only [World.size_alloc, size_plus, World.size_drew, World.size_setCell] <;> omega) | (simp <;> omega)) | omega | (simp; omega))))); rintro e w' ⟨rfl, hb⟩; (first | (obtain ⟨X, rfl⟩ := plus_again hb) | (obtain ⟨X, rfl⟩ := plus_of_below hb)); clear hb)
    (refine bodyPost_ret (v := _) (results_tree Try.results86 _ _ (w.heap.size + 1 + 1 + 1) 0 zeroN (.slice none 0 0) _ rfl ?_ rfl) rfl ⟨_, rfl, OwnK.none_ rfl, by (repeat' (first | (with_reducible exact Below.refl _ _) | (with_reducible assumption) | (with_reducible refine below_plus ?_ ?_ _) | (with_reducible refine Below.alloc ?_ ?_ _) | (with_reducible refine Below.drew ?_) | (with_reducible refine below_drewN ?_ _) | (with_reducible refine Below.setCell ?_ ?_ _) | (first | omega | (simp only [World.size_alloc, size_plus, World.size_drew, World.size_setCell] <;> omega) | (simp <;> omega)) | omega | (simp; omega)))⟩; (repeat' (first | (refine heap_alloc_here _ _ _ ?_; (first | omega | (simp only [World.size_alloc, size_plus, World.size_drew, World.size_setCell] <;> omega) | (simp <;> omega))) | (refine (heap_alloc_old _ _ _ ?_).trans ?_; (first | omega | (simp only [World.size_alloc, size_plus, World.size_drew, World.size_setCell] <;> omega) | (simp <;> omega))) | (refine (heap_plus _ _ _ ?_).trans ?_; (first | omega | (simp only [World.size_alloc, size_plus, World.size_drew, World.size_setCell] <;> omega) | (simp <;> omega))) | rfl)))

set_option maxRecDepth 100000 in
set_option maxHeartbeats 1000000 in
theorem p_mark_yes (cs : Array Value) (h : Nat) (x : RN) (i : Int) (tag : Nat) (on : Bool) (w : World) (hr : RdVals w cs 12 (encR h x)) (hc : checkP h x = 0) (i0 : 0 ≤ i) (i1 : i < 1073741824) (htag : tag < 2) (hg : getP h x i ≠ 0) (hs : slimB x) (h1 : 1 ≤ h) (h10 : h ≤ 10)
    (hO : octB (h - 1) x) :
    Calls Try.prog 86 #[.agg cs, .int .i64 i, .int .i64 tag, .bool on] w (TreePost (markP h x i tag on) w) := by
  obtain ⟨A, cap, rfl, hk⟩ := rdR_open hr
  have HR := Lib.hid hr
  clear hr hk
  have hp : markP h x i tag on = ((h : Int), updN (markLeaf tag on) i (h - 1) x, 0) := by
    unfold markP; rw [if_neg (by simp [hc]), if_neg (by omega), if_neg (by omega), if_neg hg]; rfl
  rw [hp]
  have hgb : (getP h x i == 0) = false := by simp [hg]
  have t0 : (0 : Int) ≤ (tag : Int) := by omega
  have t1 : (tag : Int) ≤ 1 := by omega
  have i2 : -9223372036854775808 ≤ i := by omega
  have i3 : i ≤ 9223372036854775807 := by omega
  clear hp hg
  go_enter Try.func86, Try.ntmps86
  go_wp2_with (first
    | (go_at_call 19; refine (p_Check _ h x _ ?_).mono ?_; exact HR.out.keep (below_keeps (by (repeat' (first | (with_reducible exact Below.refl _ _) | (with_reducible assumption) | (with_reducible refine below_plus ?_ ?_ _) | (with_reducible refine Below.alloc ?_ ?_ _) | (with_reducible refine Below.drew ?_) | (with_reducible refine below_drewN ?_ _) | (with_reducible refine Below.setCell ?_ ?_ _) | (first | omega | (simp only [World.size_alloc, size_plus, World.size_drew, World.size_setCell] <;> omega) | (simp <;> omega)) | omega | (simp; omega))))); rintro e w' ⟨rfl, hb⟩; (first | (obtain ⟨X, rfl⟩ := plus_again hb) | (obtain ⟨X, rfl⟩ := plus_of_below hb)); clear hb; rw [hc])
    | (go_at_call 26; refine (p_Get _ h x i _ ?_ i2 i3).mono ?_; exact HR.out.keep (below_keeps (by (repeat' (first | (with_reducible exact Below.refl _ _) | (with_reducible assumption) | (with_reducible refine below_plus ?_ ?_ _) | (with_reducible refine Below.alloc ?_ ?_ _) | (with_reducible refine Below.drew ?_) | (with_reducible refine below_drewN ?_ _) | (with_reducible refine Below.setCell ?_ ?_ _) | (first | omega | (simp only [World.size_alloc, size_plus, World.size_drew, World.size_setCell] <;> omega) | (simp <;> omega)) | omega | (simp; omega))))); rintro e w' ⟨rfl, hb⟩; (first | (obtain ⟨X, rfl⟩ := plus_again hb) | (obtain ⟨X, rfl⟩ := plus_of_below hb)); clear hb))
  generalize hW0 : World.plus (World.alloc (World.alloc (World.alloc (World.alloc w _) _) _) _) _ = W0
  have hF := Box4.start hW0
  clear hW0
  go_cut [11] (fun s9 wx => ∃ g9 A9 cap9 S9, s9 = .pointer (some ⟨g9, 0, none⟩) ∧ TreeIn wx g9 h x (.slice A9 x.n cap9) S9 ∧ W0.heap.size ≤ g9 ∧ (∀ b, S9 b → W0.heap.size ≤ b) ∧ Below W0.heap.size W0 wx)
  case first =>
    have hc3 : ∀ W : World, Below W0.heap.size W0 W → ∀ j u, (cellsR h x (.slice A x.n cap)).toList[j]? = some u → W.cell? ⟨w.heap.size, j, none⟩ = some u := fun W hW j u hu => by
      have hlt : w.heap.size < W0.heap.size := by have := hF.size; omega
      rw [cell_of_row W _ _ _ _ _ ((hW.block _ hlt).trans hF.b3)]; simpa using hu
    have hRN : Hid (RdVals w (cellsN x (.slice A x.n cap)) 11 (encN x)) := rdN_shut (by
      obtain ⟨A', cap', e, hk⟩ := rdR_open HR.out
      simp only [cellsR, Array.mk.injEq, List.cons.injEq, Value.slice.injEq, true_and, and_true] at e
      rw [e.1, e.2]; exact hk)
    have HF := Lib.hid hF
    have HC3 := Lib.hid hc3
    clear hF hc3
    refine wp_region_F (fun W => ∀ j u, (cellsR h x (.slice A x.n cap)).toList[j]? = some u → W.cell? ⟨w.heap.size, j, none⟩ = some u) 7 (by kernel_rfl) ?_
    have hS := HC3.out W0.drew ((Below.refl _ _).drew)
    refine wpAnyF_take (i := 0) (v := .pointer (some ⟨w.heap.size, 0, none⟩)) rfl (by kernel_rfl) (by kernel_rfl) (by omega) (by kernel_rfl) (by kernel_rfl) (fun _ _ _ h => h) (Or.inl ⟨by rfl, ?_⟩) hS ?_
    · intro W hW
      have hc := hW 0 _ rfl
      clear hW hS
      go_simp
    simp only [Act.put, List.setIfInBounds_toArray, List.set_cons_zero, List.set_cons_succ]
    refine wpAnyF_take (i := 1) (v := .int .i64 h) rfl (by kernel_rfl) (by kernel_rfl) (by omega) (by kernel_rfl) (by kernel_rfl) (fun _ _ _ h => h) (Or.inl ⟨by rfl, ?_⟩) hS ?_
    · intro W hW
      have hc := hW 0 _ rfl
      clear hW hS
      go_simp
    simp only [Act.put, List.setIfInBounds_toArray, List.set_cons_zero, List.set_cons_succ]
    refine wpAnyF_take (i := 2) (v := .pointer (some ⟨w.heap.size, 1, none⟩)) rfl (by kernel_rfl) (by kernel_rfl) (by omega) (by kernel_rfl) (by kernel_rfl) (fun _ _ _ h => h) (Or.inl ⟨by rfl, ?_⟩) hS ?_
    · intro W hW
      have hc := hW 0 _ rfl
      clear hW hS
      go_simp
    simp only [Act.put, List.setIfInBounds_toArray, List.set_cons_zero, List.set_cons_succ]
    refine wpAnyF_take (i := 3) (v := .agg (cellsN x (.slice A x.n cap))) rfl (by kernel_rfl) (by kernel_rfl) (by omega) (by kernel_rfl) (by kernel_rfl) (fun _ _ _ h => h) (Or.inl ⟨by rfl, fun W hW => run_loadN (.tmp 43) rfl w.heap.size 1 rfl _ _ (fun j u hj => hW (1 + j) u (by
      have h1 : j < 11 := by
        rcases Nat.lt_or_ge j 11 with h2 | h2
        · exact h2
        · rw [List.getElem?_eq_none (by rw [Array.length_toList]; exact h2)] at hj; cases hj
      rw [Array.getElem?_toList, cellsR_row _ _ _ _ h1, ← Array.getElem?_toList]; exact hj))⟩) hS ?_
    try simp only [Act.put, List.setIfInBounds_toArray, List.set_cons_zero, List.set_cons_succ]
    clear hS
    refine wpAnyF_two (i := 4) (j := 6) (by kernel_rfl) rfl rfl (fun K' hK => ?_) (fun K' hK => ?_)
    · have HKK := Lib.hid hK
      clear hK
      go_simp
      refine (p_clone x hs _ _ (hRN.out.keep (below_keeps (HF.out.below.drew)))).mono ?_
      rintro e W1 ⟨s1, rfl, hown, hb⟩
      have hb1 : Below W0.heap.size W0 W1 := ((Below.refl W0.heap.size W0).drew).trans hb
      obtain ⟨A1, cap1, rfl, -⟩ := hown.slice
      have HB1 := Lib.hid hb1
      have HOWN := Lib.hid hown
      clear hb hb1 hown
      refine HKK.out _ _ (fun _ => HC3.out _ HB1.out) ?_
      clear HKK K'
      try simp only [Act.put, List.setIfInBounds_toArray, List.set_cons_zero, List.set_cons_succ]
      refine wpAnyF_take (i := 5) (v := .agg (cellsR h x (.slice A1 x.n cap1))) rfl (by kernel_rfl) (by kernel_rfl) (by omega) (by kernel_rfl) (by kernel_rfl) (fun _ _ _ h => h) (Or.inl ⟨by rfl, ?_⟩) (HC3.out _ HB1.out) ?_
      · intro W hW
        clear hW
        go_simp
        kernel_rfl
      try simp only [Act.put, List.setIfInBounds_toArray, List.set_cons_zero, List.set_cons_succ]
      refine wpAnyF_one (i := 6) (by kernel_rfl) rfl (fun K' hK => ?_)
      have HKK := Lib.hid hK
      clear hK
      go_simp
      refine HKK.out _ _ (fun _ => HC3.out _ (HB1.out.alloc HB1.out.size _)) ?_
      clear HKK K'
      refine wpAnyF_one (i := 7) (by kernel_rfl) rfl (fun K' hK => ?_)
      rw [if_pos (by kernel_rfl)]
      have HT := Lib.hid (tree_laid (W0 := W0) h W1.heap.size (heap_alloc_here W1 (.cells (cellsR 0 zeroN (.slice none 0 0)) 28) _ rfl) (HOWN.out.frame _ fun b hb hl => Below.heap_alloc _ _ _ hl) (fun hh => absurd hh.2 (by omega)) HB1.out.size (HB1.out.alloc HB1.out.size _))
      have HG := HB1.out.size
      have HSS : ∀ b, (fun b => W0.drew.heap.size ≤ b ∧ b < W1.heap.size) b → W0.heap.size ≤ b := fun b hb => hb.1
      refine wp_store_row 28 (.tmp 11) (.tmp 46) rfl W1.heap.size (cellsR h x (.slice A1 x.n cap1)) rfl rfl 28 _ (heap_alloc_here W1 _ _ rfl) sizeR (by rfl) (by simp [cellsR]; exact ⟨rfl, rfl, rfl, rfl, rfl, rfl, rfl, rfl, rfl, rfl, rfl, rfl⟩) ?_
      refine hK _ _ (fun h => absurd rfl h) (wpAnyF_done (by kernel_rfl) ?_ _)
      clear hK K'
      go_wp2_with fail
      go_meet
      exact ⟨_, _, _, _, rfl, HT.out.1, HG, HSS, HT.out.2⟩
    · have HKK := Lib.hid hK
      clear hK
      go_simp
      have hbA : Below W0.heap.size W0 (W0.drew.alloc (.cells (cellsR 0 zeroN (.slice none 0 0)) 28)) := ((Below.refl W0.heap.size W0).drew).alloc (Nat.le_refl _) _
      have HBA := Lib.hid hbA
      clear hbA
      refine HKK.out _ _ (fun _ => HC3.out _ HBA.out) ?_
      clear HKK K'
      refine wpAnyF_one (i := 4) (by kernel_rfl) rfl (fun K' hK => ?_)
      have HKK := Lib.hid hK
      clear hK
      go_simp
      refine (p_clone x hs _ _ (hRN.out.keep (below_keeps (HF.out.below.trans (HBA.out.mono HF.out.below.size))))).mono ?_
      rintro e W1 ⟨s1, rfl, hown, hb⟩
      have hb2 : Below (W0.heap.size + 1) (W0.drew.alloc (.cells (cellsR 0 zeroN (.slice none 0 0)) 28)) W1 := by simpa using hb
      have hb1 : Below W0.heap.size W0 W1 := HBA.out.trans (hb2.mono (by omega))
      have hG0 : W1.heap[W0.heap.size]? = some (.cells (cellsR 0 zeroN (.slice none 0 0)) 28 (0, 0)) := (hb2.block _ (by omega)).trans (heap_alloc_here _ _ _ rfl)
      obtain ⟨A1, cap1, rfl, -⟩ := hown.slice
      have hown' : OwnK W1 x (.slice A1 x.n cap1) (fun b => W0.heap.size + 1 ≤ b ∧ b < W1.heap.size) := hown.mono fun b hb => by simpa using hb
      have HB1 := Lib.hid hb1
      have HG0 := Lib.hid hG0
      have HT := Lib.hid (tree_laid (W0 := W0) h W0.heap.size hG0 hown' (fun hh => absurd hh.1 (by omega)) (Nat.le_refl _) hb1)
      have HG : W0.heap.size ≤ W0.heap.size := Nat.le_refl _
      have HSS : ∀ b, (fun b => W0.heap.size + 1 ≤ b ∧ b < W1.heap.size) b → W0.heap.size ≤ b := fun b hb => by have := hb.1; omega
      clear hb hb1 hb2 hown hown' hG0
      refine HKK.out _ _ (fun _ => HC3.out _ HB1.out) ?_
      clear HKK K'
      try simp only [Act.put, List.setIfInBounds_toArray, List.set_cons_zero, List.set_cons_succ]
      refine wpAnyF_take (i := 5) (v := .agg (cellsR h x (.slice A1 x.n cap1))) rfl (by kernel_rfl) (by kernel_rfl) (by omega) (by kernel_rfl) (by kernel_rfl) (fun _ _ _ h => h) (Or.inl ⟨by rfl, ?_⟩) (HC3.out _ HB1.out) ?_
      · intro W hW
        clear hW
        go_simp
        kernel_rfl
      try simp only [Act.put, List.setIfInBounds_toArray, List.set_cons_zero, List.set_cons_succ]
      refine wpAnyF_one (i := 7) (by kernel_rfl) rfl (fun K' hK => ?_)
      rw [if_pos (by kernel_rfl)]
      refine wp_store_row 28 (.tmp 11) (.tmp 46) rfl W0.heap.size (cellsR h x (.slice A1 x.n cap1)) rfl rfl 28 _ HG0.out sizeR (by rfl) (by simp [cellsR]; exact ⟨rfl, rfl, rfl, rfl, rfl, rfl, rfl, rfl, rfl, rfl, rfl, rfl⟩) ?_
      refine hK _ _ (fun h => absurd rfl h) (wpAnyF_done (by kernel_rfl) ?_ _)
      clear hK K'
      go_wp2_with fail
      go_meet
      exact ⟨_, _, _, _, rfl, HT.out.1, HG, HSS, HT.out.2⟩
  case rest =>
    obtain ⟨g9, A9, cap9, S9, rfl, hT, hg9, hS9, hb⟩ := hcut
    have hB := hF.on hb
    have hsz := hF.size
    have hST : SetSt w (w.heap.size + 4) g9 h x (.slice A9 x.n cap9) S9 wc := ⟨hB.below, by omega, fun b hb => by have := hB.size; omega, hT, by omega, fun b hb => by have := hS9 b hb; omega⟩
    have c9 := hST.tree.h
    have HB := Lib.hid hB
    have HST := Lib.hid hST
    have HUP : Hid (UpPre (h - 1) (fun b => b = w.heap.size + 1 ∨ b = w.heap.size + 2) (fun W => W.cell? ⟨w.heap.size + 1, 0, none⟩ = some (.int .i64 tag) ∧ W.cell? ⟨w.heap.size + 2, 0, none⟩ = some (.bool on)) wc g9 1 28 (cellsR h x (.slice A9 x.n cap9)) x (.slice A9 x.n cap9) S9) := by
      refine ⟨hO, ⟨by rw [cell_of_row _ _ _ _ _ _ hB.b5]; rfl, by rw [cell_of_row _ _ _ _ _ _ hB.b7]; rfl⟩, ?_, hST.tree.node⟩
      rintro b hb
      have hb' : b < w.heap.size + 4 := by omega
      refine ⟨hST.keep _ hb', ?_, fun hb2 => ?_⟩
      · have := hST.g_; omega
      · have := hST.S_ _ hb2; omega
    obtain ⟨m, rfl⟩ : ∃ m, h = m + 1 := ⟨h - 1, by omega⟩
    clear hF hb hB hST hT hS9
    go_wp2_with (first
      | (go_at_call 74; refine (p_update 106 _ _ _ _ (p_mark1 tag on (w.heap.size + 1) (w.heap.size + 2) htag) i i0 i1 m (by omega) x g9 1 _ _ _ S9 wc HUP.out).mono ?_; rintro e W2 ⟨rfl, cs2, s2, S2, hT2⟩
         have HST2 := Lib.hid (HST.out.turn hT2.mod hT2.tree hT2.sub)
         have HB2 := Lib.hid (HB.out.mod HST.out hT2.mod)
         obtain ⟨A3, cap3, rfl, -, -⟩ := hT2.tree.own.slice
         clear hT2)
      | ((with_reducible refine wpList_loadR (.tmp 11) ?_ ?_ g9 ?_ _ (updN (markLeaf tag on) i m x) (.slice A3 (updN (markLeaf tag on) i m x).n cap3) HST2.out.tree.cells ?_); (with_reducible rfl); rfl; rfl)
      | ((with_reducible refine wpList_storeR (.tmp 8) (.tmp 53) ?_ ?_ (w.heap.size + 1 + 1 + 1) ?_ ((m + 1 : Nat) : Int) (updN (markLeaf tag on) i m x) A3 (updN (markLeaf tag on) i m x).n cap3 ?_ _ 28 HB2.out.b8 rfl ?_); (with_reducible rfl); rfl; rfl; rfl))
    have hrd : OwnK (W2.setRow (w.heap.size + 1 + 1 + 1) (cellsR ((m + 1 : Nat) : Int) (updN (markLeaf tag on) i m x) (.slice A3 (updN (markLeaf tag on) i m x).n cap3))) _ _ (fun b => w.heap.size ≤ b) :=
      (HST2.out.tree.own.frame (w' := W2.setRow (w.heap.size + 1 + 1 + 1) (cellsR ((m + 1 : Nat) : Int) (updN (markLeaf tag on) i m x) (.slice A3 (updN (markLeaf tag on) i m x).n cap3))) _ fun b hb _ => setRow_other _ _ _ _ (by have := HST2.out.S_ b hb; omega)).mono fun b hb => by have := HST2.out.S_ b hb; omega
    refine bodyPost_ret (v := _) (results_tree Try.results86 _ _ (w.heap.size + 1 + 1 + 1) _ _ (.slice A3 (updN (markLeaf tag on) i m x).n cap3) _ rfl (setRow_heap _ _ _ _ _ _ HB2.out.b8) rfl) rfl ⟨_, rfl, hrd, below_setRow HB2.out.below (by omega) _⟩
end Go.Proofs.Ytcicfijpfhbcaaa
